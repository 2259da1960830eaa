/- The document's own store and view, made anew; its lists of keys. No condition but those written in each statement. -/
import Derived.Test.YtfcgkjbifnhjjaaRefW
namespace Go.Proofs.Ytfcgkjbifnhjjaa.St
open Go.RowKit
set_option linter.unusedVariables false

theorem rstore_any (w : World) :
    Calls Try.prog 38 #[] w fun e w' => e = .returned (.pointer (some ⟨w.heap.size + 1, 0, none⟩)) ∧ w' = ((w.alloc (Obj.map #[] 0)).alloc (Obj.cells #[Value.map (some w.heap.size)] 89)) := by
  have hmm := @run_makeMap Try.prog
  go_enter Try.func38, Try.ntmps38
  go_wp2_with fail
  go_ret
  exact ⟨rfl, rfl⟩

theorem rview_any (d : Nat) (w : World) :
    Calls Try.prog 67 #[.pointer (some ⟨d, 0, none⟩)] w fun e w' => e = .returned (.pointer (some ⟨w.heap.size + 1 + 1, 0, none⟩)) ∧
      w' = (((w.alloc (Obj.map #[] 0)).alloc (Obj.map #[] 0)).alloc (Obj.cells #[Value.pointer (some { block := d, off := 0 }), Value.map (some w.heap.size), Value.map (some (w.heap.size + 1))] 87)) := by
  have hmm := @run_makeMap Try.prog
  go_enter Try.func67, Try.ntmps67
  go_wp2_with fail
  go_ret
  exact ⟨rfl, rfl⟩

theorem rnewstore (w : World) :
    Calls Try.prog 38 #[] w fun e w' => ∃ d s, e = .returned (.pointer (some ⟨d, 0, none⟩)) ∧ RStoreAt w' d s (fun _ => Val.zero) ∧ Below w.heap.size w w' ∧ w.heap.size ≤ d ∧ w.heap.size ≤ s := by
  refine (rstore_any w).mono ?_
  rintro e w' ⟨rfl, rfl⟩
  exact ⟨w.heap.size + 1, w.heap.size, rfl, ⟨heap_alloc2_new _ _ _, #[], 0, _, heap_alloc2_old _ _ _, ki_empty, fun p v h => (by cases h), fun p hp => rfl⟩, ((Below.refl _ _).alloc (Nat.le_refl _) _).alloc (by simp) _, by omega, Nat.le_refl _⟩
theorem inR_none : inR (fun _ _ => none) = fun _ => none := by funext p; unfold inR; split <;> rfl
theorem rnewview (d s : Nat) (base : Nat → Val) (w : World) (hR : RStoreAt w d s base) :
    Calls Try.prog 67 #[.pointer (some ⟨d, 0, none⟩)] w fun e w' => ∃ L : RLay, L.d = d ∧ L.s = s ∧ e = .returned (.pointer (some ⟨L.q, 0, none⟩)) ∧ RViewAt w' L (VSt.fresh base) ∧ Below w.heap.size w w' ∧ w.heap.size ≤ L.q ∧ w.heap.size ≤ L.r ∧ w.heap.size ≤ L.m := by
  have hb : Below w.heap.size w (((w.alloc (Obj.map #[] 0)).alloc (Obj.map #[] 0)).alloc (Obj.cells #[Value.pointer (some { block := d, off := 0 }), Value.map (some w.heap.size), Value.map (some (w.heap.size + 1))] 87)) :=
    (((Below.refl _ _).alloc (Nat.le_refl _) _).alloc (by simp) _).alloc (by simp; omega) _
  obtain ⟨_, _, _, h1, _⟩ := hR.cm
  have hl := lt_of_heap h1
  refine (rview_any d w).mono ?_
  rintro e w' ⟨rfl, rfl⟩
  refine ⟨⟨w.heap.size + 1 + 1, d, s, w.heap.size, w.heap.size + 1⟩, rfl, rfl, rfl, ⟨?_, hR.below hb, ⟨#[], 0, ?_, ?_⟩, ⟨#[], 0, ?_, ?_⟩, ?_⟩, hb, by show w.heap.size ≤ w.heap.size + 1 + 1; omega, Nat.le_refl _, by show w.heap.size ≤ w.heap.size + 1; omega⟩
  · exact blk_alloc_at _ _ _ (by simp)
  · show blk _ w.heap.size = _
    rw [blk_alloc_past _ _ _ (by simp; omega), blk_alloc_past _ _ _ (by simp), blk_alloc_at _ _ _ rfl]
  · show KI #[] 0 (inR fun _ _ => none)
    rw [inR_none]; exact ki_empty
  · show blk _ (w.heap.size + 1) = _
    rw [blk_alloc_past _ _ _ (by simp), blk_alloc_at _ _ _ (by simp)]
  · show KI #[] 0 (inR fun _ _ => none)
    rw [inR_none]; exact ki_empty
  · show w.heap.size ≠ w.heap.size + 1 ∧ s ≠ w.heap.size ∧ s ≠ w.heap.size + 1
    omega

/-! ### Lists of keys -/
theorem kls_push {B : Nat} {W : World} {v : Value} {l : List (Int × Int)} (h : KLs B W v l) (hB : B ≤ W.heap.size) (hl : l.length ≤ 10000) (G : Nat) (A C : Int) (hG : blk W G = some (.cells #[.int .i64 A, .int .i64 C] 51 (0, 0))) (ty : TypeId) :
    ∃ v' W', (Builtin.append_ #[91, 91] ty #[v, .slice (some ⟨G, 0, none⟩) 1 1]).run Try.prog W = .ok v' W' ∧ KLs B W' v' (l ++ [(A, C)]) ∧ Below B W W' ∧ W.grownBy W' v.ownBlock := by
  obtain ⟨i1, hi, hz0, hz1, hz2⟩ := info_parts info_key
  have h0 := cell_of_row W G 0 _ _ _ hG
  have h1 := cell_of_row W G 1 _ _ _ hG
  obtain ⟨v', W', h1, h2, h3, h5⟩ := run_append_own (P := Try.prog) (w := W) B 91 ty 51 i1 (.agg #[.int .i64 0, .int .i64 0]) 2 16 Try.underlying91 hi hz0 hz1 hz2 rfl (by decide) v l.length (kcL l) h ⟨G, 0, none⟩ 1 1 [.int .i64 A, .int .i64 C] rfl
    (fun j u hj => by
      match j, hj with
      | 0, hj => simp at hj; subst hj; exact h0
      | 1, hj => simp at hj; subst hj; exact h1) (ones2 A C) (by unfold maxLen; omega) (by omega) hB
  refine ⟨v', W', h1, ?_, (Below.refl B W).grown h3 hB (fun j hj => (World.ownsRow.lt h j hj).1), h3⟩
  unfold KLs
  rw [kcL_app, List.length_append]
  exact h2
/-- The keys of the first j places, of those that h says. -/
def upK (h : Int → Int → Bool) (j : Nat) : List (Int × Int) := ((List.range j).filter fun (p : Nat) => h (keyP p).1 (keyP p).2).map fun (p : Nat) => keyP p
theorem upK_len (h : Int → Int → Bool) (j : Nat) : (upK h j).length ≤ j := by
  unfold upK
  rw [List.length_map]
  exact Nat.le_trans (List.length_filter_le _ _) (by simp)
theorem upK_step (h : Int → Int → Bool) (j : Nat) : upK h (j + 1) = upK h j ++ (if h (keyP j).1 (keyP j).2 then [keyP j] else []) := by
  unfold upK
  rw [List.range_succ, List.filter_append, List.map_append]
  congr 1
  rw [List.filter_cons]
  split <;> rfl
theorem upK_end (h : Int → Int → Bool) : upK h 55 = (plF h).map keyP := by
  unfold upK plF
  rw [List.map_map]; rfl
theorem kls_kl {B : Nat} {W : World} {v : Value} {ps : List Int} (h : KLs B W v (ps.map keyP)) : KL B W v ps.length (sk ps) := by
  have := h.kl
  rw [List.length_map] at this
  exact this.congr fun i hi => by
    rw [sk_get ps i hi]
    simp [List.getD, List.getElem?_eq_getElem hi, keyP]
attribute [local irreducible] Int.lt Int.le
set_option maxRecDepth 100000 in
set_option maxHeartbeats 1000000 in
theorem rlist_any (r : Nat) (es : Array MapEntry) (clk : Nat) (f : Int → Option Value) (h : Int → Int → Bool) (hk : KI es clk f) (hf : ∀ p v, f p = some v → v = .bool true) (he : ∀ p : Nat, p < 55 → (f p).isSome = h (keyP p).1 (keyP p).2) (w : World) (hb : blk w r = some (.map es clk)) :
    Calls Try.prog 71 #[.map (some r)] w fun e w' => ∃ v, e = .returned v ∧ KL w.heap.size w' v (plF h).length (sk (plF h)) ∧ Below w.heap.size w w' := by
  have hl := lt_of_heap hb
  have hzb : ∀ W, (zeroValue 4).run Try.prog W = .ok (.bool false) W := fun W => by kernel_rfl
  have hlook := fun (W : World) (q : blk W r = some (.map es clk)) (p : Nat) (hp : p < 55) => (run_lookI Try.underlying84 hk (p : Int) (wfI_of (by omega) (by omega)) W q (hzb W)).2
  have hval : ∀ p : Nat, p < 55 → (f p).getD (.bool false) = .bool (h (keyP p).1 (keyP p).2) := fun p hp => by
    rw [← he p hp]
    cases hv : f p with
    | none => rfl
    | some v => rw [hf p v hv]; rfl
  have HLook := Lib.hid hlook
  have HVal := Lib.hid hval
  clear hlook hval he hf hk
  go_enter Try.func71, Try.ntmps71
  go_wp2_with fail
  go_loopw [3, 4] (fun v i wr => ∃ j : Nat, j ≤ 55 ∧ i = .int .i64 (j : Int) ∧ KLs w.heap.size wr v (upK h j) ∧ Below w.heap.size w wr) (fun _ i _ => 55 - (intOf i).toNat)
  case atStart => exact ⟨0, by omega, rfl, World.ownsRow_nil _ _ _ _, Below.refl _ _⟩
  case round =>
    obtain ⟨j, hj, rfl, hown, hbw⟩ := hrel
    have j0 : (0 : Int) ≤ (j : Int) := by omega
    go_wp2_with fail
    refine (rall_any _).mono ?_; rintro e w1 ⟨rfl, t1⟩
    have hown1 := hown.below t1
    have hbw1 := hbw.trans (t1.mono hbw.size)
    have hb1 := (hbw1.block r hl).trans hb
    clear hown hbw t1
    by_cases hlt : j < 55
    · have l1 : (j : Int) < 55 := by omega
      have hlk := HLook.out w1 hb1 j hlt
      rw [HVal.out j hlt] at hlk
      have hst := upK_step h j
      have HST := Lib.hid hst
      clear hst
      cases hh : h (keyP j).1 (keyP j).2 with
      | false =>
        rw [hh] at hlk
        have hown2 := hown1
        rw [show upK h j = upK h (j + 1) by rw [HST.out, hh]; simp] at hown2
        clear hown1 HST hh
        go_wp2_with fail
        exact ⟨⟨j + 1, by omega, by go_num, hown2, hbw1⟩, by simp [intOf]; omega⟩
      | true =>
        rw [hh] at hlk
        have hat := rat_any (j : Int) (by omega) (by omega) w1
        rw [show atV (j : Int) = .agg #[.int .i64 (keyP j).1, .int .i64 (keyP j).2] from rfl] at hat
        have hst2 : upK h (j + 1) = upK h j ++ [((keyP j).1, (keyP j).2)] := by rw [HST.out, hh]; rfl
        have HST2 := Lib.hid hst2
        have HAT := Lib.hid hat
        clear hst2 HST hh hat
        generalize (keyP j).1 = A at *
        generalize (keyP j).2 = C at *
        generalize (atK (j : Int)).isSome = D at *
        go_wp2_with fail
        refine HAT.out.mono ?_; rintro e w2 ⟨rfl, t2⟩
        have hown2 := hown1.below t2
        have hbw2 := hbw1.trans (t2.mono hbw1.size)
        clear hown1 hbw1 t2 HAT hlk hb1
        go_upto_region 7 with fail
        have b3 : Below w2.heap.size w2 (w2.alloc (.cells #[.int .i64 A, .int .i64 C] 51)) := (Below.refl _ _).alloc (Nat.le_refl _) _
        have k0 : (w2.alloc (.cells #[.int .i64 A, .int .i64 C] 51)).cell? ⟨w2.heap.size, 0, none⟩ = some (.int .i64 A) := cell_of_row _ _ 0 _ _ _ (heap_alloc_new _ _)
        have k1 : (w2.alloc (.cells #[.int .i64 A, .int .i64 C] 51)).cell? ⟨w2.heap.size, 1, none⟩ = some (.int .i64 C) := cell_of_row _ _ 1 _ _ _ (heap_alloc_new _ _)
        have hown3 := hown2.below b3
        have hbw3 := hbw2.trans (b3.mono hbw2.size)
        clear hown2 hbw2 b3
        generalize w2.alloc (.cells #[.int .i64 A, .int .i64 C] 51) = W3 at *
        generalize w2.heap.size = K at *
        have b4 : Below W3.heap.size W3 (W3.alloc (.cells #[.int .i64 A, .int .i64 C] 51)) := (Below.refl _ _).alloc (Nat.le_refl _) _
        have hown4 := hown3.below b4
        have hbw4 := hbw3.trans (b4.mono hbw3.size)
        obtain ⟨v', W5, hrun, hk5, hb5, _⟩ := kls_push hown4 hbw4.size (by have := upK_len h j; omega) W3.heap.size A C (heap_alloc_new _ _) 91
        rw [← HST2.out] at hk5
        have hb6 := hbw4.trans hb5
        go_wp2_with (first | (at_builtin; refine wpList_run_append rfl _ _ _ rfl rfl rfl hrun ?_) | fail)
        exact ⟨⟨j + 1, by omega, by go_num, hk5, hb6⟩, by simp [intOf]; omega⟩
    · obtain rfl : j = 55 := by omega
      rw [upK_end] at hown1
      have hkl := kls_kl hown1
      obtain ⟨a, c, rfl, _⟩ := hown1.kl.kr
      clear hown1
      rw [List.length_map] at hkl
      go_wp2_with fail
      go_ret
      exact ⟨_, rfl, hkl, hbw1⟩
end Go.Proofs.Ytfcgkjbifnhjjaa.St
