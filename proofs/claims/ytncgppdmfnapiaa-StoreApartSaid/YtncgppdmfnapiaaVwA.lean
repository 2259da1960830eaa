/- The contracts of View.Reads and View.Foot. No condition but those written in each statement. -/
import Derived.Test.YtncgppdmfnapiaaPlc
namespace Go.Proofs.Ytncgppdmfnapiaa.St
open Go.RowKit Go.Shelf
set_option linter.unusedVariables false

theorem egR : ∀ args w, (callFunc 64 args).run Try.prog w = .ok (.enter 64 args) w := enters_of Try.func64 (by kernel_rfl) rfl
theorem egW : ∀ args w, (callFunc 65 args).run Try.prog w = .ok (.enter 65 args) w := enters_of Try.func65 (by kernel_rfl) rfl
theorem KeysOf.len {f : Int → Int → Option Value} {ks : List (Int × Int)} (h : KeysOf f ks) (hp : ∀ k n v, f k n = some v → 0 ≤ placeI k n) : ks.length ≤ 55 := keys_len ks h.1 fun k hk => by
  obtain ⟨v, hv⟩ := Option.isSome_iff_exists.1 ((h.2 k).1 hk)
  exact hp _ _ _ hv
/-- The keys read, collected. -/
theorem ckeysR (b : Nat) (es : Array MapEntry) (clk : Nat) (f : Int → Int → Option Value) (hk : KM es clk f) (hp : ∀ k n v, f k n = some v → 0 ≤ placeI k n) (Bm : Nat) (w : World) (hm : w.cell? ⟨Bm, 0, none⟩ = some (.map (some b))) (hb : w.heap[b]? = some (.map es clk)) :
    Calls Try.prog 53 #[.func (.func 64) #[] #[.pointer (some ⟨Bm, 0, none⟩)]] w fun e w' => ∃ v ks, e = .returned v ∧ KeysOf f ks ∧ KLs w.heap.size w' v ks ∧ Below w.heap.size w w' :=
  collect_any _ _ egR (KeysOf f) (fun _ => True) es.size (by have := es_len hk hp; omega) w (keysR_stops Fence.wide 2 trivial rfl (by decide) Bm b es clk f hk w hm hb)
theorem ckeysW (b : Nat) (es : Array MapEntry) (clk : Nat) (f : Int → Int → Option Value) (hk : KM es clk f) (hp : ∀ k n v, f k n = some v → 0 ≤ placeI k n) (Bm : Nat) (w : World) (hm : w.cell? ⟨Bm, 0, none⟩ = some (.map (some b))) (hb : w.heap[b]? = some (.map es clk)) :
    Calls Try.prog 53 #[.func (.func 65) #[] #[.pointer (some ⟨Bm, 0, none⟩)]] w fun e w' => ∃ v ks, e = .returned v ∧ KeysOf f ks ∧ KLs w.heap.size w' v ks ∧ Below w.heap.size w w' :=
  collect_any _ _ egW (KeysOf f) (fun _ => True) es.size (by have := es_len hk hp; omega) w (keysW_stops Fence.wide 2 trivial rfl (by decide) Bm b es clk f hk w hm hb)
theorem kls_sort {B : Nat} {W : World} {v : Value} {ks : List (Int × Int)} {h : Int → Int → Bool} (hk : KLs B W v ks) (hl : ks.length ≤ 1000000) (e : ∀ k n, 0 ≤ placeI k n → (h k n = true ↔ (k, n) ∈ ks)) :
    Calls Try.prog 16 #[v] W fun e w' => ∃ v, e = .returned v ∧ KL W.heap.size w' v (plF h).length (sk (plF h)) ∧ Below W.heap.size W w' := by
  obtain ⟨a, c, rfl, h1, _⟩ := hk.kl.kr
  have := ksort_kr a ks.length c _ W hl h1
  rw [kS_plF ks h e] at this
  exact this
theorem appseqW (b : Nat) (es : Array MapEntry) (clk : Nat) (f : Int → Int → Option Value) (hk : KM es clk f) (hp : ∀ k n v, f k n = some v → 0 ≤ placeI k n) (Bm B : Nat) (v0 : Value) (l : List (Int × Int)) (w : World) (hB : B ≤ w.heap.size) (hl : l.length ≤ 1000) (hv : KLs B w v0 l) (hm : w.cell? ⟨Bm, 0, none⟩ = some (.map (some b))) (hb : w.heap[b]? = some (.map es clk)) :
    Calls Try.prog 59 #[v0, .func (.func 65) #[] #[.pointer (some ⟨Bm, 0, none⟩)]] w fun e w' => ∃ v ks, e = .returned v ∧ KeysOf f ks ∧ KLs B w' v (l ++ ks) ∧ Below B w w' := by
  have h := appseq_in Fence.wide 3 trivial rfl (by decide) _ _ trivial egW (KeysOf f) (fun _ => True) es.size B v0 l w hB (by have := es_len hk hp; omega) hv (keysW_stops Fence.wide 2 trivial rfl (by decide) Bm b es clk f hk w hm hb)
  rwa [callsIn_wide] at h
abbrev VF (w : World) (L : Lay) (W : World) : Prop := W.cell? ⟨L.v, 1, none⟩ = some (.map (some L.r)) ∧ W.cell? ⟨L.v, 2, none⟩ = some (.map (some L.m)) ∧ Below w.heap.size w W
theorem VF.below {w : World} {L : Lay} {W W' : World} (hs : L.v < w.heap.size) (h : VF w L W) (hb : Below w.heap.size W W') : VF w L W' :=
  ⟨(hb.cell (show (⟨L.v, 1, none⟩ : Addr).block < w.heap.size from hs)).trans h.1, (hb.cell (show (⟨L.v, 2, none⟩ : Addr).block < w.heap.size from hs)).trans h.2.1, h.2.2.trans hb⟩
attribute [local irreducible] Int.lt Int.le
set_option maxRecDepth 100000 in
theorem vreads_any (L : Lay) (st : VSt) (w : World) (hV : ViewAt w L st) (hO : VOk st) :
    Calls Try.prog 31 #[.pointer (some ⟨L.v, 0, none⟩)] w fun e w' => ∃ v, e = .returned v ∧ KL w.heap.size w' v (rdP st).length (sk (rdP st)) ∧ Below w.heap.size w w' := by
  obtain ⟨es, clk, hb, hk⟩ := hV.cr
  have c1 := cell_of_row w L.v 1 _ _ _ hV.cv
  simp only [List.getElem?_toArray, List.getElem?_cons_succ, List.getElem?_cons_zero] at c1
  have hp := fun k n v h => (hO.rd k n v h).1
  have HP := Lib.hid hp
  clear hp
  go_enter Try.func31, Try.ntmps31
  go_wp2_with fail
  refine (mkeysR _ _).mono ?_; rintro e w1 ⟨rfl, rfl⟩
  have b1 : Below w.heap.size w (w.alloc (.cells #[.map (some L.r)] 79)) := (Below.refl _ _).alloc (Nat.le_refl _) _
  have hm1 : (w.alloc (.cells #[.map (some L.r)] 79)).cell? ⟨w.heap.size, 0, none⟩ = some (.map (some L.r)) := cell_of_row _ _ 0 _ _ _ (heap_alloc_new _ _)
  have hb1 := (b1.block L.r (lt_of_heap hb)).trans hb
  have hc := ckeysR L.r es clk _ hk HP.out w.heap.size _ hm1 hb1
  have HC := Lib.hid hc
  clear hc hm1 hb1
  go_wp2_with fail
  refine HC.out.mono ?_; rintro e w2 ⟨v, ks, rfl, hK, hks, t2⟩
  have hl := hK.len HP.out
  have hs := kls_sort (h := fun k n => (st.rd k n).isSome) hks (by omega) (fun k n _ => (hK.2 (k, n)).symm)
  have b2 := b1.trans (t2.mono b1.size)
  have HS := Lib.hid hs
  clear hs hK hks t2 b1 HC
  go_wp2_with fail
  refine HS.out.mono ?_; rintro e w3 ⟨v3, rfl, h3, t3⟩
  have b3 := b2.trans (t3.mono b2.size)
  have h4 := h3.mono b2.size
  obtain ⟨a, c, rfl, _⟩ := h3.kr
  clear t3 b2 HS
  go_wp2_with fail
  go_ret
  exact ⟨_, rfl, h4, b3⟩
set_option maxRecDepth 100000 in
theorem vfoot_any (L : Lay) (st : VSt) (w : World) (hV : ViewAt w L st) (hO : VOk st) :
    Calls Try.prog 43 #[.pointer (some ⟨L.v, 0, none⟩)] w fun e w' => ∃ v, e = .returned v ∧ KL w.heap.size w' v (ftP st).length (sk (ftP st)) ∧ Below w.heap.size w w' := by
  obtain ⟨es, clk, hb, hk⟩ := hV.cr
  obtain ⟨es2, clk2, hb2, hk2⟩ := hV.cm
  have c1 := cell_of_row w L.v 1 _ _ _ hV.cv
  have c2 := cell_of_row w L.v 2 _ _ _ hV.cv
  simp only [List.getElem?_toArray, List.getElem?_cons_succ, List.getElem?_cons_zero] at c1 c2
  have hlv := lt_of_heap hV.cv
  have hlr := lt_of_heap hb
  have hlm := lt_of_heap hb2
  have hp := fun k n v h => (hO.rd k n v h).1
  have hq : ∀ k n v, (st.wr k n).map (fun x => Value.agg x.cells) = some v → 0 ≤ placeI k n := fun k n v h => by
    obtain ⟨x, hx, _⟩ := Option.map_eq_some_iff.1 h
    exact hO.wr k n x hx
  have HP := Lib.hid hp
  have HQ := Lib.hid hq
  clear hp hq
  go_enter Try.func43, Try.ntmps43
  go_wp2_with fail
  have S0 : VF w L w.drew := ⟨c1, c2, below_drewN (Below.refl _ _) 1⟩
  refine wp_region_held_drew (S := VF w L) (by kernel_rfl) S0 (fun hHeld => ?_)
  clear c1 c2 S0
  refine reg_take (i := 0) (v := ?_) rfl rfl (by kernel_rfl) (by kernel_rfl) (by kernel_rfl) (fun _ _ _ h => h) (by assumption) (by rfl) ?_ ?_
  rotate_left 1
  · (intro w hSw; (try dsimp only at hSw); go_simp; try with_reducible rfl)
  try simp only [List.setIfInBounds_toArray, List.set_cons_zero, List.set_cons_succ]
  refine reg_take (i := 1) (v := ?_) rfl rfl (by kernel_rfl) (by kernel_rfl) (by kernel_rfl) (fun _ _ _ h => h) (by assumption) (by rfl) ?_ ?_
  rotate_left 1
  · (intro w hSw; (try dsimp only at hSw); go_simp; try with_reducible rfl)
  try simp only [List.setIfInBounds_toArray, List.set_cons_zero, List.set_cons_succ]
  refine reg_take (i := 2) (v := ?_) rfl rfl (by kernel_rfl) (by kernel_rfl) (by kernel_rfl) (fun _ _ _ h => h) (by assumption) (by rfl) ?_ ?_
  rotate_left 1
  · (intro w hSw; (try dsimp only at hSw); go_simp; try with_reducible rfl)
  try simp only [List.setIfInBounds_toArray, List.set_cons_zero, List.set_cons_succ]
  refine reg_take (i := 3) (v := ?_) rfl rfl (by kernel_rfl) (by kernel_rfl) (by kernel_rfl) (fun _ _ _ h => h) (by assumption) (by rfl) ?_ ?_
  rotate_left 1
  · (intro w hSw; (try dsimp only at hSw); go_simp; try with_reducible rfl)
  try simp only [List.setIfInBounds_toArray, List.set_cons_zero, List.set_cons_succ]
  refine reg_take (i := 6) (v := ?_) rfl rfl (by kernel_rfl) (by kernel_rfl) (by kernel_rfl) (fun _ _ _ h => h) (by assumption) (by rfl) ?_ ?_
  rotate_left 1
  · (intro w hSw; (try dsimp only at hSw); go_simp; try with_reducible rfl)
  try simp only [List.setIfInBounds_toArray, List.set_cons_zero, List.set_cons_succ]
  refine reg_take (i := 7) (v := ?_) rfl rfl (by kernel_rfl) (by kernel_rfl) (by kernel_rfl) (fun _ _ _ h => h) (by assumption) (by rfl) ?_ ?_
  rotate_left 1
  · (intro w hSw; (try dsimp only at hSw); go_simp; try with_reducible rfl)
  try simp only [List.setIfInBounds_toArray, List.set_cons_zero, List.set_cons_succ]
  refine reg_take (i := 8) (v := ?_) rfl rfl (by kernel_rfl) (by kernel_rfl) (by kernel_rfl) (fun _ _ _ h => h) (by assumption) (by rfl) ?_ ?_
  rotate_left 1
  · (intro w hSw; (try dsimp only at hSw); go_simp; try with_reducible rfl)
  try simp only [List.setIfInBounds_toArray, List.set_cons_zero, List.set_cons_succ]
  refine reg_take (i := 9) (v := ?_) rfl rfl (by kernel_rfl) (by kernel_rfl) (by kernel_rfl) (fun _ _ _ h => h) (by assumption) (by rfl) ?_ ?_
  rotate_left 1
  · (intro w hSw; (try dsimp only at hSw); go_simp; try with_reducible rfl)
  try simp only [List.setIfInBounds_toArray, List.set_cons_zero, List.set_cons_succ]
  refine reg_step (i := 4) (by kernel_rfl) rfl (by rfl) (fun KC hKC => ?_)
  go_simp
  refine (mkeysR _ _).mono ?_; rintro e w1 ⟨rfl, rfl⟩
  have b1 : Below w.heap.size w.drew (w.drew.alloc (.cells #[.map (some L.r)] 79)) := (Below.refl w.heap.size w.drew).alloc (Nat.le_refl w.heap.size) _
  have s1 := hHeld.below hlv b1
  have hm1 : (w.drew.alloc (.cells #[.map (some L.r)] 79)).cell? ⟨w.heap.size, 0, none⟩ = some (.map (some L.r)) := cell_of_row _ _ 0 _ _ _ (heap_alloc_new _ _)
  have hb1 := (s1.2.2.block L.r hlr).trans hb
  clear hHeld b1
  refine hKC.out _ _ ?_ (fun hHeld => ?_)
  · exact s1
  clear hKC KC hHeld
  refine reg_step (i := 5) (by kernel_rfl) rfl (by rfl) (fun KC hKC => ?_)
  go_simp
  refine (ckeysR L.r es clk _ hk HP.out w.heap.size _ hm1 hb1).mono ?_; rintro e w2 ⟨v, ks, rfl, hK, hks, t2⟩
  have s2 := s1.below hlv (t2.mono s1.2.2.size)
  have hks2 := hks.mono s1.2.2.size
  have hl := hK.len HP.out
  clear hks t2 s1 hm1 hb1
  refine hKC.out _ _ ?_ (fun hHeld => ?_)
  · exact s2
  clear hKC KC hHeld
  refine reg_step (i := 10) (by kernel_rfl) rfl (by rfl) (fun KC hKC => ?_)
  go_simp
  refine (mkeysW _ _).mono ?_; rintro e w3 ⟨rfl, rfl⟩
  have b3 : Below w.heap.size w2 (w2.alloc (.cells #[.map (some L.m)] 59)) := (Below.refl _ _).alloc s2.2.2.size _
  have s3 := s2.below hlv b3
  have hm3 : (w2.alloc (.cells #[.map (some L.m)] 59)).cell? ⟨w2.heap.size, 0, none⟩ = some (.map (some L.m)) := cell_of_row _ _ 0 _ _ _ (heap_alloc_new _ _)
  have hb3 := (s3.2.2.block L.m hlm).trans hb2
  have hks3 := hks2.below ((Below.refl _ _).alloc (Nat.le_refl _) (.cells #[.map (some L.m)] 59))
  clear hks2 b3
  refine hKC.out _ _ ?_ (fun hHeld => ?_)
  · exact s3
  clear hKC KC hHeld
  refine reg_step (i := 11) (by kernel_rfl) rfl (by rfl) (fun KC hKC => ?_)
  go_simp
  refine (appseqW L.m es2 clk2 _ hk2 HQ.out w2.heap.size w.heap.size v ks _ s3.2.2.size (by omega) hks3 hm3 hb3).mono ?_; rintro e w4 ⟨v4, ks4, rfl, hK4, hks4, t4⟩
  have s4 := s3.below hlv t4
  have hl4 := hK4.len HQ.out
  have hs := kls_sort (h := fun k n => (st.rd k n).isSome || (st.wr k n).isSome) hks4 (by rw [List.length_append]; omega) (fun k n _ => by
    rw [List.mem_append, hK.2 (k, n), hK4.2 (k, n), Bool.or_eq_true, Option.isSome_map])
  have HS := Lib.hid hs
  clear s3 hks3 hm3 hb3 t4 hks4 hs hK hK4 s2
  refine hKC.out _ _ ?_ (fun hHeld => ?_)
  · exact s4
  clear hKC KC hHeld
  refine reg_step (i := 12) (by kernel_rfl) rfl (by rfl) (fun KC hKC => ?_)
  go_simp
  refine HS.out.mono ?_; rintro e w5 ⟨v5, rfl, h5, t5⟩
  have s5 := s4.below hlv (t5.mono s4.2.2.size)
  have h6 := h5.mono s4.2.2.size
  obtain ⟨a, c, rfl, _⟩ := h5.kr
  clear t5 s4 h5 HS
  refine hKC.out _ _ ?_ (fun hHeld => ?_)
  · exact s5
  clear hKC KC
  refine reg_take (i := 13) (v := ?_) rfl rfl (by kernel_rfl) (by kernel_rfl) (by kernel_rfl) (fun _ _ _ h => h) (by assumption) (by rfl) ?_ ?_
  rotate_left 1
  · (intro w hSw; (try dsimp only at hSw); go_simp; try with_reducible rfl)
  try simp only [List.setIfInBounds_toArray, List.set_cons_zero, List.set_cons_succ]
  refine wpAnyH_done (by kernel_rfl) ?_ _
  go_wp2_with fail
  go_ret
  exact ⟨_, rfl, h6, s5.2.2⟩
end Go.Proofs.Ytncgppdmfnapiaa.St
