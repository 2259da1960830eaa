/- The contracts of math/bits.OnesCount64 and of space's keys. No condition but those written in each statement. -/
import Derived.Test.YtdlcbclfniahoaaDoorPrA
namespace Go.Proofs.YtdlcbclfniahoaaDoor.St
open Go.RowKit
set_option linter.unusedVariables false

/-- The stages of OnesCount64. -/
def o1 (a : Int) : Int := IntKind.u64.wrap (bits .and .u64 (a / 2) 6148914691236517205 + bits .and .u64 a 6148914691236517205)
def o2 (b : Int) : Int := IntKind.u64.wrap (bits .and .u64 (b / 4) 3689348814741910323 + bits .and .u64 b 3689348814741910323)
def o3 (c : Int) : Int := bits .and .u64 (IntKind.u64.wrap (c / 16 + c)) 1085102592571150095
def o4 (d : Int) : Int := IntKind.u64.wrap (d + d / 256)
def o5 (d : Int) : Int := IntKind.u64.wrap (d + d / 65536)
def o6 (d : Int) : Int := IntKind.u64.wrap (d + d / 4294967296)
def ones64 (a : Int) : Int := bits .and .i64 (wrap64 (o6 (o5 (o4 (o3 (o2 (o1 a))))))) 127
attribute [local irreducible] Int.lt Int.le
set_option maxRecDepth 100000 in
theorem ones_any (a : Int) (w : World) :
    Calls Tryd.prog 27 #[.int .u64 a] w fun e w' => e = .returned (.int .i64 (ones64 a)) ∧ w = w' := by
  obtain ⟨r, hr⟩ : ∃ r, r = ones64 a := ⟨_, rfl⟩
  rw [← hr]
  have Hr := Lib.hid hr
  clear hr
  go_enter Tryd.func27, Tryd.ntmps27
  go_upto_region 2 with fail
  rw [show IntKind.u64.wrap (bits .and .u64 (a / 2) 6148914691236517205 + bits .and .u64 a 6148914691236517205) = o1 a from rfl]
  obtain ⟨b, hb⟩ : ∃ b, b = o1 a := ⟨_, rfl⟩
  rw [← hb]
  have Hb := Lib.hid hb
  clear hb
  go_upto_region 3 with fail
  rw [show IntKind.u64.wrap (bits .and .u64 (b / 4) 3689348814741910323 + bits .and .u64 b 3689348814741910323) = o2 b from rfl]
  obtain ⟨c, hc⟩ : ∃ c, c = o2 b := ⟨_, rfl⟩
  rw [← hc]
  have Hc := Lib.hid hc
  clear hc
  go_upto_region 4 with fail
  rw [show bits .and .u64 (IntKind.u64.wrap (c / 16 + c)) 1085102592571150095 = o3 c from rfl]
  obtain ⟨d, hd⟩ : ∃ d, d = o3 c := ⟨_, rfl⟩
  rw [← hd]
  have Hd := Lib.hid hd
  clear hd
  go_upto_region 5 with fail
  rw [show IntKind.u64.wrap (d + d / 256) = o4 d from rfl]
  obtain ⟨e, he⟩ : ∃ e, e = o4 d := ⟨_, rfl⟩
  rw [← he]
  have He := Lib.hid he
  clear he
  go_upto_region 6 with fail
  rw [show IntKind.u64.wrap (e + e / 65536) = o5 e from rfl]
  obtain ⟨f, hf⟩ : ∃ f, f = o5 e := ⟨_, rfl⟩
  rw [← hf]
  have Hf := Lib.hid hf
  clear hf
  go_upto_region 7 with fail
  rw [show IntKind.u64.wrap (f + f / 4294967296) = o6 f from rfl]
  obtain ⟨g, hg⟩ : ∃ g, g = o6 f := ⟨_, rfl⟩
  rw [← hg]
  have Hg := Lib.hid hg
  clear hg
  go_wp2_with fail
  go_ret
  exact ⟨by rw [Hr.out]; unfold ones64; rw [← Hb.out, ← Hc.out, ← Hd.out, ← He.out, ← Hf.out, ← Hg.out]; rfl, rfl⟩
theorem spool_any (w : World) :
    Calls Tryd.prog 22 #[] w fun e w' => e = .returned (keyV 2 0) ∧ Below w.heap.size w w' := by
  go_enter Tryd.func22, Tryd.ntmps22
  go_wp2_with fail
  exact bodyPost_key (b := w.heap.size) rfl rfl rfl (heap_alloc_new _ _) rfl ⟨rfl, (Below.refl _ _).alloc (Nat.le_refl _) _⟩
theorem results_key2 {fn : Func} {p q : Tmp} (h : fn.results = #[.cell p 48, .cell q 48]) (tmps : Array Value) (w : World) (g g' : Nat) (t t' : TypeId) (cs cs' : Array Value) (fr fr' : Nat × Nat)
    (hp : tmps.getD p undef = .pointer (some ⟨g, 0, none⟩)) (hg : blk w g = some (.cells cs t fr)) (hc : cs.size = 2)
    (hp' : tmps.getD q undef = .pointer (some ⟨g', 0, none⟩)) (hg' : blk w g' = some (.cells cs' t' fr')) (hc' : cs'.size = 2) :
    (results fn tmps).run Tryd.prog w = .ok (.tuple #[.agg cs, .agg cs']) w := by
  have hu := Tryd.underlying48
  have e1 : tmps[p]?.getD undef = .pointer (some ⟨g, 0, none⟩) := by simpa using hp
  have e2 : tmps[q]?.getD undef = .pointer (some ⟨g', 0, none⟩) := by simpa using hp'
  simp [results, h, e1, e2, asAddr, run_loadVar_row w g t 48 cs fr _ hg hu rfl (by rw [key_size, hc]), run_loadVar_row w g' t' 48 cs' fr' _ hg' hu rfl (by rw [key_size, hc'])]
theorem skeys_any (p : Int) (w : World) :
    Calls Tryd.prog 21 #[.int .i64 p] w fun e w' => e = .returned (.tuple #[keyV 4 p, keyV 12 p]) ∧ Below w.heap.size w w' := by
  go_enter Tryd.func21, Tryd.ntmps21
  go_wp2_with fail
  have hb := (Below.refl (w.alloc (Obj.cells #[.int .i64 4, .int .i64 p] 48)).heap.size (w.alloc (Obj.cells #[.int .i64 4, .int .i64 p] 48))).alloc (Nat.le_refl _) (Obj.cells #[.int .i64 12, .int .i64 p] 48)
  have hs : (w.alloc (Obj.cells #[.int .i64 4, .int .i64 p] 48)).heap.size = w.heap.size + 1 := by simp
  refine bodyPost_ret (results_key2 rfl _ _ w.heap.size (w.heap.size + 1) _ _ _ _ _ _ rfl (blk_below hb (blk_alloc_at _ _ _ rfl) (by omega)) rfl rfl (blk_alloc_at _ _ _ hs.symm) rfl) rfl ⟨rfl, ?_⟩
  exact ((Below.refl _ _).alloc (Nat.le_refl _) _).alloc (by omega) _
attribute [local go_sem] run_fieldN run_indexN
theorem sfree_any (L : Lay) (st : VSt) (w : World) (hV : ViewAt w L st) :
    Calls Tryd.prog 11 #[.pointer (some ⟨L.v, 0, none⟩)] w fun e w' => e = .returned (.int .i64 (ones64 (IntKind.u64.wrap ((st.get 2 0).n 0)))) ∧ ViewAt w' L (st.saw 2 0) ∧ Turn (· = L.r) w w' := by
  obtain ⟨x, hx⟩ : ∃ x, x = st.get 2 0 := ⟨_, rfl⟩
  rw [← hx]
  have Hx := Lib.hid hx
  clear hx
  go_enter Tryd.func11, Tryd.ntmps11
  go_wp2_with fail
  refine (spool_any _).mono ?_; rintro e w1 ⟨rfl, t1⟩
  have hv1 := hV.below t1
  go_wp2_with fail
  refine (vget_any L st 2 0 _ hv1).mono ?_; rw [← Hx.out]; rintro e w2 ⟨rfl, hv2, t2⟩
  clear Hx
  go_wp2_with fail
  refine (ones_any _ _).mono ?_; rintro e w3 ⟨rfl, rfl⟩
  go_wp2_with fail
  go_ret
  exact ⟨rfl, hv2, (Turn.of_below t1 _).trans t2⟩
attribute [local go_sem] blk_alloc_at blk_alloc_past blk_drew blk_drewN blk_setB_same blk_setB_other blk_setRow_other setRow_alloc_at setRow_alloc_past setRow_drewN setRow_drew setB_size setB_cell setB_frozen setB_alloc_past setB_drewN setB_drew run_loadV loadOr_cells run_storeV storeOr_cells cells_size ones_cells cells_0 cells_1 cells_2 cells_16
attribute [local go_sem ↓] execOp_loadV execOp_storeV
attribute [local go_sem ↓] wp_at0 wp_at1 wp_at2 wp_at3 wp_at4 wp_at5 wp_at6 wp_at7
set_option maxRecDepth 100000 in
set_option maxHeartbeats 1000000 in
theorem sputp_any (L : Lay) (st : VSt) (p : Int) (x m y : Val) (w : World) (hV : ViewAt w L st) :
    Calls Tryd.prog 25 #[.pointer (some ⟨L.v, 0, none⟩), .int .i64 p, .agg x.cells, .agg m.cells, .agg y.cells] w fun e w' => e = .returned (.tuple #[]) ∧ ViewAt w' L (((st.put 4 p x).put 12 p m).put 2 0 y) ∧ Turn (· = L.m) w w' := by
  have lt := hV.lts
  have v1 := ((hV.alloc (Obj.cells x.cells 45)).alloc (Obj.cells m.cells 45)).alloc (Obj.cells y.cells 45)
  have s1 : (w.alloc (Obj.cells x.cells 45)).heap.size = w.heap.size + 1 := by simp
  have s2 : ((w.alloc (Obj.cells x.cells 45)).alloc (Obj.cells m.cells 45)).heap.size = w.heap.size + 1 + 1 := by simp
  have s3 : (((w.alloc (Obj.cells x.cells 45)).alloc (Obj.cells m.cells 45)).alloc (Obj.cells y.cells 45)).heap.size = w.heap.size + 1 + 1 + 1 := by simp
  have b0 : blk (w.alloc (Obj.cells x.cells 45)) w.heap.size = some (.cells x.cells 45 (0, 0)) := blk_alloc_at _ _ _ rfl
  have b1 : blk ((w.alloc (Obj.cells x.cells 45)).alloc (Obj.cells m.cells 45)) (w.heap.size + 1) = some (.cells m.cells 45 (0, 0)) := blk_alloc_at _ _ _ s1.symm
  have b2 : blk (((w.alloc (Obj.cells x.cells 45)).alloc (Obj.cells m.cells 45)).alloc (Obj.cells y.cells 45)) (w.heap.size + 1 + 1) = some (.cells y.cells 45 (0, 0)) := blk_alloc_at _ _ _ s2.symm
  have b0' : blk (((w.alloc (Obj.cells x.cells 45)).alloc (Obj.cells m.cells 45)).alloc (Obj.cells y.cells 45)) w.heap.size = some (.cells x.cells 45 (0, 0)) := by rw [blk_alloc_past _ _ _ (by omega), blk_alloc_past _ _ _ (by omega)]; exact b0
  have b1' : blk (((w.alloc (Obj.cells x.cells 45)).alloc (Obj.cells m.cells 45)).alloc (Obj.cells y.cells 45)) (w.heap.size + 1) = some (.cells m.cells 45 (0, 0)) := by rw [blk_alloc_past _ _ _ (by omega)]; exact b1
  have t1 : Turn (· = L.m) w (((w.alloc (Obj.cells x.cells 45)).alloc (Obj.cells m.cells 45)).alloc (Obj.cells y.cells 45)) := (((Turn.refl _ w).alloc _).alloc _).alloc _
  go_enter Tryd.func25, Tryd.ntmps25
  go_upto_region 1 with fail
  clear b0 b1 s1 s2
  generalize (((w.alloc (Obj.cells x.cells 45)).alloc (Obj.cells m.cells 45)).alloc (Obj.cells y.cells 45)) = W1 at *
  go_wp2_with fail
  refine (skeys_any p _).mono ?_; rintro e w2 ⟨rfl, t2⟩
  have v2 := v1.below t2
  have x2 := blk_below t2 b0' (by omega)
  have m2 := blk_below t2 b1' (by omega)
  have y2 := blk_below t2 b2 (by omega)
  have tt2 := t1.trans (Turn.of_below t2 _)
  have z2 := t2.size
  clear v1 b0' b1' b2 t1 t2
  go_upto_region 2 with fail
  have sk1 : (w2.alloc (Obj.cells #[.int .i64 4, .int .i64 p] 48)).heap.size = w2.heap.size + 1 := by simp
  have bb := (Below.refl w2.heap.size w2).alloc (Nat.le_refl _) (Obj.cells #[.int .i64 4, .int .i64 p] 48)
  have bb2 := (Below.refl (w2.alloc (Obj.cells #[.int .i64 4, .int .i64 p] 48)).heap.size (w2.alloc (Obj.cells #[.int .i64 4, .int .i64 p] 48))).alloc (Nat.le_refl _) (Obj.cells #[.int .i64 12, .int .i64 p] 48)
  have v3 := (v2.alloc (Obj.cells #[.int .i64 4, .int .i64 p] 48)).alloc (Obj.cells #[.int .i64 12, .int .i64 p] 48)
  have t3 := (tt2.alloc (Obj.cells #[.int .i64 4, .int .i64 p] 48)).alloc (Obj.cells #[.int .i64 12, .int .i64 p] 48)
  have q1 : blk ((w2.alloc (Obj.cells #[.int .i64 4, .int .i64 p] 48)).alloc (Obj.cells #[.int .i64 12, .int .i64 p] 48)) w2.heap.size = some (.cells #[.int .i64 4, .int .i64 p] 48 (0, 0)) := blk_below bb2 (blk_alloc_at _ _ _ rfl) (by omega)
  have q2 : blk ((w2.alloc (Obj.cells #[.int .i64 4, .int .i64 p] 48)).alloc (Obj.cells #[.int .i64 12, .int .i64 p] 48)) (w2.heap.size + 1) = some (.cells #[.int .i64 12, .int .i64 p] 48 (0, 0)) := blk_alloc_at _ _ _ sk1.symm
  have x3 := blk_below bb2 (blk_below bb x2 (by omega)) (by omega)
  have m3 := blk_below bb2 (blk_below bb m2 (by omega)) (by omega)
  have y3 := blk_below bb2 (blk_below bb y2 (by omega)) (by omega)
  clear v2 x2 m2 y2 tt2 bb bb2 sk1
  generalize ((w2.alloc (Obj.cells #[.int .i64 4, .int .i64 p] 48)).alloc (Obj.cells #[.int .i64 12, .int .i64 p] 48)) = W3 at *
  have e0 := (key_cells q1).1
  have e1 := (key_cells q1).2
  go_wp2_with fail
  refine (vput_any L st 4 p x _ v3).mono ?_; rintro e w4 ⟨rfl, v4, t4⟩
  have q4 := blk_of_turn t4 q2 (show ¬ (_ = L.m) by omega)
  have m4 : blk w4 (w.heap.size + 1) = some (.cells m.cells 45 (0, 0)) := blk_of_turn t4 m3 (show ¬ (_ = L.m) by omega)
  have y4 : blk w4 (w.heap.size + 1 + 1) = some (.cells y.cells 45 (0, 0)) := blk_of_turn t4 y3 (show ¬ (_ = L.m) by omega)
  have tt4 := t3.trans t4
  clear e0 e1 q1 q2 x3 m3 y3 v3 t3 t4
  have e0 := (key_cells q4).1
  have e1 := (key_cells q4).2
  go_wp2_with fail
  refine (vput_any L (st.put 4 p x) 12 p m _ v4).mono ?_; rintro e w5 ⟨rfl, v5, t5⟩
  have y5 : blk w5 (w.heap.size + 1 + 1) = some (.cells y.cells 45 (0, 0)) := blk_of_turn t5 y4 (show ¬ (_ = L.m) by omega)
  have tt5 := tt4.trans t5
  clear e0 e1 q4 m4 y4 v4 t5 tt4
  go_upto_region 4 with fail
  obtain ⟨yd, vd, sd⟩ := at_drew y5 v5
  go_region_with (first
    | (go_at_call 22; refine (spool_any _).mono ?_; rintro e w8 ⟨rfl, t8⟩; have y8 := blk_below t8 yd sd; have v8 := vd.below t8; have r8 := t8.size)
    | (go_at_call 17; refine (vput_any L ((st.put 4 p x).put 12 p m) 2 0 y _ (by assumption)).mono ?_; rintro e w9 ⟨rfl, v9, t9⟩))
  all_goals
    clear y5 v5 yd vd y8 v8
    go_wp2_with fail
    go_end0
    exact ⟨rfl, v9, (tt5.drew.trans (Turn.of_below t8 _)).trans t9⟩
end Go.Proofs.YtdlcbclfniahoaaDoor.St
