/- The document's own Reads, Foot, Redo. No condition but those written in each statement. -/
import Derived.Test.YtfcgkjbifnhjjaaRefX
namespace Go.Proofs.Ytfcgkjbifnhjjaa.St
open Go.RowKit
set_option linter.unusedVariables false

theorem rlist_in (r : Nat) (es : Array MapEntry) (clk : Nat) (g : Int → Int → Option Value) (hk : KI es clk (inR g)) (hf : ∀ k n v, g k n = some v → v = .bool true) (w : World) (hb : blk w r = some (.map es clk)) :
    Calls Try.prog 71 #[.map (some r)] w fun e w' => ∃ v, e = .returned v ∧ KL w.heap.size w' v (plF fun k n => (g k n).isSome).length (sk (plF fun k n => (g k n).isSome)) ∧ Below w.heap.size w w' :=
  rlist_any r es clk (inR g) _ hk (fun p v h => by
    unfold inR at h
    split at h
    · exact hf _ _ _ h
    · cases h) (fun p hp => by unfold inR; rw [if_pos (by omega)]) w hb
attribute [local irreducible] Int.lt Int.le
set_option maxRecDepth 100000 in
theorem rvreads_any (L : RLay) (st : VSt) (w : World) (hV : RViewAt w L st) (hO : VOk st) :
    Calls Try.prog 54 #[.pointer (some ⟨L.q, 0, none⟩)] w fun e w' => ∃ v, e = .returned v ∧ KL w.heap.size w' v (rdP st).length (sk (rdP st)) ∧ Below w.heap.size w w' := by
  obtain ⟨es, clk, hb, hk⟩ := hV.cr
  have c1 := cell_of_row w L.q 1 _ _ _ hV.cq
  simp only [List.getElem?_toArray, List.getElem?_cons_succ, List.getElem?_cons_zero] at c1
  have hc := rlist_in L.r es clk st.rd hk (fun k n v h => (hO.rd k n v h).2) w hb
  rw [show (plF fun k n => (st.rd k n).isSome) = rdP st from rfl] at hc
  have HC := Lib.hid hc
  clear hc hk hb
  generalize rdP st = ps at *
  go_enter Try.func54, Try.ntmps54
  go_wp2_with fail
  refine HC.out.mono ?_; rintro e w2 ⟨v, rfl, hkl, hb⟩
  obtain ⟨a, c, rfl, _⟩ := hkl.kr
  go_wp2_with fail
  go_ret
  exact ⟨_, rfl, hkl, hb⟩

/-- An entry's key, as a number. -/
def iOf (e : MapEntry) : Int := match e.key with
  | .int .i64 a => a
  | _ => 0
theorem iOf_key {e : MapEntry} {p : Int} (h : e.key = .int .i64 p) : iOf e = p := by unfold iOf; rw [h]
theorem KI.at {es : Array MapEntry} {clk : Nat} {f : Int → Option Value} (h : KI es clk f) {e : MapEntry} (he : e ∈ es.toList) : e.key = .int .i64 (iOf e) ∧ wfI (iOf e) ∧ f (iOf e) = some e.val := by
  obtain ⟨i, hi, rfl⟩ := List.getElem_of_mem he
  obtain ⟨p, h0, h1, h2⟩ := h.keyed i (by simpa using hi)
  have h1' : (es.toList[i]).key = .int .i64 p := by simpa using h1
  rw [iOf_key h1']
  exact ⟨h1', h0, by simpa using h2⟩
theorem KI.all {es : Array MapEntry} {clk : Nat} {f : Int → Option Value} (h : KI es clk f) {xs : List MapEntry} (ha : ∀ e ∈ es.toList, e ∈ xs) (hs : ∀ e ∈ xs, e ∈ es.toList) (p : Int) : (∃ e ∈ xs, iOf e = p) ↔ (f p).isSome = true := by
  constructor
  · rintro ⟨e, he, rfl⟩
    rw [(h.at (hs e he)).2.2]; rfl
  · intro q
    obtain ⟨v, hv⟩ := Option.isSome_iff_exists.1 q
    obtain ⟨i, hi, e1⟩ := h.there p v hv
    have hm : es[i] ∈ es.toList := by simp
    exact ⟨es[i], ha _ hm, iOf_key e1⟩
/-- A map of trues: those that g says, and the numbers of xs. -/
def addX (g : Int → Option Value) (xs : List MapEntry) : Int → Option Value := fun p => if xs.any (fun e => iOf e == p) then some (.bool true) else g p
theorem addX_nil (g : Int → Option Value) : addX g [] = g := by funext p; simp [addX]
theorem addX_snoc (g : Int → Option Value) (xs : List MapEntry) (e : MapEntry) : addX g (xs ++ [e]) = updI (addX g xs) (iOf e) (.bool true) := by
  funext p
  unfold addX updI
  by_cases h : p = iOf e
  · subst h; simp
  · rw [if_neg h]
    simp [Ne.symm h]
theorem addX_in {es : Array MapEntry} {clk : Nat} {f : Int → Int → Option Value} {s : Int → Int → Bool} (hk : KI es clk (inR f)) {xs : List MapEntry} (ha : ∀ e ∈ es.toList, e ∈ xs) (hs : ∀ e ∈ xs, e ∈ es.toList) (hf : ∀ k n, (f k n).isSome = s k n) : addX (fun _ => none) xs = inR (fun k n => if s k n then some (.bool true) else none) := by
  funext p
  have h := hk.all ha hs p
  have h2 : xs.any (fun e => iOf e == p) = (inR f p).isSome := by
    rw [Bool.eq_iff_iff, List.any_eq_true]
    simp only [beq_iff_eq]
    exact h
  unfold addX
  rw [h2]
  unfold inR
  by_cases q : 0 ≤ p ∧ p < 55
  · rw [if_pos q, if_pos q, hf]
  · rw [if_neg q, if_neg q]; rfl
set_option maxRecDepth 100000 in
set_option maxHeartbeats 1000000 in
theorem rwritten_any (L : RLay) (st : VSt) (w : World) (hV : RViewAt w L st) :
    Calls Try.prog 72 #[.pointer (some ⟨L.q, 0, none⟩)] w fun e w' => ∃ b es clk g, e = .returned (.map (some b)) ∧ w.heap.size ≤ b ∧ blk w' b = some (.map es clk) ∧ KI es clk (inR g) ∧ (∀ k n v, g k n = some v → v = .bool true) ∧ (∀ k n, (g k n).isSome = (st.wr k n).isSome) ∧ Below w.heap.size w w' := by
  obtain ⟨es, clk, hb, hk⟩ := hV.cm
  have c1 := cell_of_row w L.q 2 _ _ _ hV.cq
  simp only [List.getElem?_toArray, List.getElem?_cons_succ, List.getElem?_cons_zero] at c1
  have hmm := @run_makeMap Try.prog
  have hlm := lt_of_heap hb
  go_enter Try.func72, Try.ntmps72
  have hb1 : (w.alloc (.map #[] 0)).heap[L.m]? = some (.map es clk) := (Below.heap_alloc _ _ _ hlm).trans hb
  have hrs := rng_start hb1
  have hbO : blk ((w.alloc (.map #[] 0)).alloc (.mapIter (some L.m) clk #[] clk)) w.heap.size = some (.map #[] 0) := heap_alloc2_old _ _ _
  have hbe : Below w.heap.size w ((w.alloc (.map #[] 0)).alloc (.mapIter (some L.m) clk #[] clk)) := ((Below.refl _ _).alloc (Nat.le_refl _) _).alloc (by simp) _
  have hszz : (w.alloc (.map #[] 0)).heap.size = w.heap.size + 1 := by simp
  rw [hszz] at hrs
  have c1' : (w.alloc (.map #[] 0)).cell? ⟨L.q, 2, none⟩ = some (.map (some L.m)) := by rw [World.cell?_alloc_lt _ _ _ (cell_block_lt c1)]; exact c1
  have hkB := hk.born
  have HK := Lib.hid hk
  clear hk hV
  go_wp2_with (first
    | (at_range; refine wpList_range_e rfl _ _ rfl _ _ Try.underlying85 rfl hb1 ?_)
    | fail)
  rw [hszz]
  go_frame
  clear c1' hb1 hszz c1
  go_loopw [4] (fun _ wr => ∃ xs esO clkO, Rng wr L.m (w.heap.size + 1) es clk xs ∧ blk wr w.heap.size = some (.map esO clkO) ∧ KI esO clkO (addX (fun _ => none) xs) ∧ Below w.heap.size w wr) (fun _ wr => wr.rangeLeft L.m (w.heap.size + 1))
  case atStart => exact ⟨[], #[], 0, hrs, hbO, by rw [addX_nil]; exact ki_empty, hbe⟩
  case round =>
    obtain ⟨xs, esO, clkO, hrg, hbo, hko, hbw⟩ := hrel
    clear hrs hbO hbe
    go_wp2_with (first
      | (at_next; refine wpList_next_e rfl _ rfl rfl hrg hkB ?_ ?_)
      | fail)
    · intro hall
      have hg : addX (fun _ => none) xs = inR (fun k n => if (st.wr k n).isSome then some (.bool true) else none) := addX_in (s := fun k n => (st.wr k n).isSome) HK.out (fun e he => hall e (Array.mem_toList_iff.1 he)) hrg.sub (fun k n => by unfold wrV; rw [Option.isSome_map])
      rw [hg] at hko
      clear hall hg hrg
      go_wp2_with fail
      go_ret
      exact ⟨_, _, _, _, rfl, Nat.le_refl _, hbo, hko, fun k n v h => by split at h <;> cases h; rfl, fun k n => by cases st.wr k n <;> rfl, hbw⟩
    · intro e w2 hem hnx hrg2 hen ht2 hz2 hg2 hlt
      obtain ⟨hek, hwf, _⟩ := HK.out.at (Array.mem_toList_iff.2 hem)
      obtain ⟨es', clk', hk', hput⟩ := run_putI (r := w.heap.size) Try.underlying84 hko (iOf e) hwf (.bool true)
      rw [← addX_snoc] at hk'
      have hbo2 : blk w2 w.heap.size = some (.map esO clkO) := blk_of_turn ht2 hbo (by omega)
      have hput2 := hput w2 hbo2
      rw [hek] at hen ⊢
      have hlt2 := lt_of_heap hbo2
      have hrg3 : Rng (setB w2 w.heap.size (.map es' clk')) L.m (w.heap.size + 1) es clk (xs ++ [e]) := hrg2.keep (setB_other _ _ _ _ (by omega)) (setB_other _ _ _ _ (by omega))
      have hl3 : (setB w2 w.heap.size (.map es' clk')).rangeLeft L.m (w.heap.size + 1) = w2.rangeLeft L.m (w.heap.size + 1) := by
        unfold World.rangeLeft
        rw [setB_other _ _ _ _ (show L.m ≠ w.heap.size by omega), setB_other _ _ _ _ (show w.heap.size + 1 ≠ w.heap.size by omega)]
      have hbw2 : Below w.heap.size w (setB w2 w.heap.size (.map es' clk')) := hbw.trans (((ht2.mono (T := fun i => i = w.heap.size + 1 ∨ i = w.heap.size) (fun _ _ q => Or.inl q)).setB (b := w.heap.size) (Or.inl (Or.inr rfl)) _).below hbw.size (fun i q => by rcases q with q | q <;> omega))
      clear hput hrg hrg2 ht2 hg2 hbo hbo2 hko
      go_wp2_with fail
      refine ⟨⟨xs ++ [e], es', clk', hrg3, blk_setB_same _ _ _ hlt2, hk', hbw2⟩, by rw [hl3]; exact hlt⟩
end Go.Proofs.Ytfcgkjbifnhjjaa.St
