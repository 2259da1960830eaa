/- The contracts of View.Reads and View.Foot. No condition but those written in each statement. -/
import Derived.Test.YtfcgkjbifnhjjaaPlc
namespace Go.Proofs.Ytfcgkjbifnhjjaa.St
open Go.RowKit Go.Shelf
set_option linter.unusedVariables false

theorem egR : ∀ args w, (callFunc 82 args).run Try.prog w = .ok (.enter 82 args) w := enters_of Try.func82 (by kernel_rfl) rfl
theorem egW : ∀ args w, (callFunc 81 args).run Try.prog w = .ok (.enter 81 args) w := enters_of Try.func81 (by kernel_rfl) rfl
theorem KeysOf.len {f : Int → Int → Option Value} {ks : List (Int × Int)} (h : KeysOf f ks) (hp : ∀ k n v, f k n = some v → 0 ≤ placeI k n) : ks.length ≤ 55 := keys_len ks h.1 fun k hk => by
  obtain ⟨v, hv⟩ := Option.isSome_iff_exists.1 ((h.2 k).1 hk)
  exact hp _ _ _ hv
/-- The keys read, collected. -/
theorem ckeysR (b : Nat) (es : Array MapEntry) (clk : Nat) (f : Int → Int → Option Value) (hk : KM es clk f) (hp : ∀ k n v, f k n = some v → 0 ≤ placeI k n) (Bm : Nat) (w : World) (hm : w.cell? ⟨Bm, 0, none⟩ = some (.map (some b))) (hb : w.heap[b]? = some (.map es clk)) :
    Calls Try.prog 69 #[.func (.func 82) #[] #[.pointer (some ⟨Bm, 0, none⟩)]] w fun e w' => ∃ v ks, e = .returned v ∧ KeysOf f ks ∧ KLs w.heap.size w' v ks ∧ Below w.heap.size w w' :=
  collect_any _ _ egR (KeysOf f) (fun _ => True) es.size (by have := es_len hk hp; omega) w (keysR_stops Fence.wide 2 trivial rfl (by decide) Bm b es clk f hk w hm hb)
theorem ckeysW (b : Nat) (es : Array MapEntry) (clk : Nat) (f : Int → Int → Option Value) (hk : KM es clk f) (hp : ∀ k n v, f k n = some v → 0 ≤ placeI k n) (Bm : Nat) (w : World) (hm : w.cell? ⟨Bm, 0, none⟩ = some (.map (some b))) (hb : w.heap[b]? = some (.map es clk)) :
    Calls Try.prog 69 #[.func (.func 81) #[] #[.pointer (some ⟨Bm, 0, none⟩)]] w fun e w' => ∃ v ks, e = .returned v ∧ KeysOf f ks ∧ KLs w.heap.size w' v ks ∧ Below w.heap.size w w' :=
  collect_any _ _ egW (KeysOf f) (fun _ => True) es.size (by have := es_len hk hp; omega) w (keysW_stops Fence.wide 2 trivial rfl (by decide) Bm b es clk f hk w hm hb)
theorem kls_sort {B : Nat} {W : World} {v : Value} {ks : List (Int × Int)} {h : Int → Int → Bool} (hk : KLs B W v ks) (hl : ks.length ≤ 1000000) (e : ∀ k n, 0 ≤ placeI k n → (h k n = true ↔ (k, n) ∈ ks)) :
    Calls Try.prog 68 #[v] W fun e w' => ∃ v, e = .returned v ∧ KL W.heap.size w' v (plF h).length (sk (plF h)) ∧ Below W.heap.size W w' := by
  obtain ⟨a, c, rfl, h1, _⟩ := hk.kl.kr
  have := ksort_kr a ks.length c _ W hl h1
  rw [kS_plF ks h e] at this
  exact this
theorem appseqW (b : Nat) (es : Array MapEntry) (clk : Nat) (f : Int → Int → Option Value) (hk : KM es clk f) (hp : ∀ k n v, f k n = some v → 0 ≤ placeI k n) (Bm B : Nat) (v0 : Value) (l : List (Int × Int)) (w : World) (hB : B ≤ w.heap.size) (hl : l.length ≤ 1000) (hv : KLs B w v0 l) (hm : w.cell? ⟨Bm, 0, none⟩ = some (.map (some b))) (hb : w.heap[b]? = some (.map es clk)) :
    Calls Try.prog 80 #[v0, .func (.func 81) #[] #[.pointer (some ⟨Bm, 0, none⟩)]] w fun e w' => ∃ v ks, e = .returned v ∧ KeysOf f ks ∧ KLs B w' v (l ++ ks) ∧ Below B w w' := by
  have h := appseq_in Fence.wide 3 trivial rfl (by decide) _ _ trivial egW (KeysOf f) (fun _ => True) es.size B v0 l w hB (by have := es_len hk hp; omega) hv (keysW_stops Fence.wide 2 trivial rfl (by decide) Bm b es clk f hk w hm hb)
  rwa [callsIn_wide] at h
abbrev VF (w : World) (L : Lay) (W : World) : Prop := W.cell? ⟨L.v, 1, none⟩ = some (.map (some L.r)) ∧ W.cell? ⟨L.v, 2, none⟩ = some (.map (some L.m)) ∧ Below w.heap.size w W
theorem VF.below {w : World} {L : Lay} {W W' : World} (hs : L.v < w.heap.size) (h : VF w L W) (hb : Below w.heap.size W W') : VF w L W' :=
  ⟨(hb.cell (show (⟨L.v, 1, none⟩ : Addr).block < w.heap.size from hs)).trans h.1, (hb.cell (show (⟨L.v, 2, none⟩ : Addr).block < w.heap.size from hs)).trans h.2.1, h.2.2.trans hb⟩
attribute [local irreducible] Int.lt Int.le
set_option maxRecDepth 100000 in
theorem vreads_any (L : Lay) (st : VSt) (w : World) (hV : ViewAt w L st) (hO : VOk st) :
    Calls Try.prog 53 #[.pointer (some ⟨L.v, 0, none⟩)] w fun e w' => ∃ v, e = .returned v ∧ KL w.heap.size w' v (rdP st).length (sk (rdP st)) ∧ Below w.heap.size w w' := by
  obtain ⟨es, clk, hb, hk⟩ := hV.cr
  have c1 := cell_of_row w L.v 1 _ _ _ hV.cv
  simp only [List.getElem?_toArray, List.getElem?_cons_succ, List.getElem?_cons_zero] at c1
  have hp := fun k n v h => (hO.rd k n v h).1
  have HP := Lib.hid hp
  clear hp
  go_enter Try.func53, Try.ntmps53
  go_wp2_with fail
  refine (mkeysR _ _).mono ?_; rintro e w1 ⟨rfl, rfl⟩
  have b1 : Below w.heap.size w (w.alloc (.cells #[.map (some L.r)] 103)) := (Below.refl _ _).alloc (Nat.le_refl _) _
  have hm1 : (w.alloc (.cells #[.map (some L.r)] 103)).cell? ⟨w.heap.size, 0, none⟩ = some (.map (some L.r)) := cell_of_row _ _ 0 _ _ _ (heap_alloc_new _ _)
  have hb1 := (b1.block L.r (lt_of_heap hb)).trans hb
  have hc := ckeysR L.r es clk _ hk HP.out w.heap.size _ hm1 hb1
  have HC := Lib.hid hc
  clear hc hm1 hb1
  go_wp2_with fail
  refine HC.out.mono ?_; rintro e w2 ⟨v, ks, rfl, hK, hks, t2⟩
  have hl := hK.len HP.out
  have hs := kls_sort (h := fun k n => (st.rd k n).isSome) hks (by omega) (fun k n _ => (hK.2 (k, n)).symm)
  have b2 := b1.trans (t2.mono b1.size)
  have HS := Lib.hid hs
  clear hs hK hks t2 b1 HC
  go_wp2_with fail
  refine HS.out.mono ?_; rintro e w3 ⟨v3, rfl, h3, t3⟩
  have b3 := b2.trans (t3.mono b2.size)
  have h4 := h3.mono b2.size
  obtain ⟨a, c, rfl, _⟩ := h3.kr
  clear t3 b2 HS
  go_wp2_with fail
  go_ret
  exact ⟨_, rfl, h4, b3⟩
end Go.Proofs.Ytfcgkjbifnhjjaa.St
