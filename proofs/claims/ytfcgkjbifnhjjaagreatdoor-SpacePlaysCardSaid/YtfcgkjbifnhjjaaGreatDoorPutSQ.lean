/- The contract of Store.Put: what a store has behind it. No condition but those written in each statement. -/
import Derived.Test.YtfcgkjbifnhjjaaGreatDoorQ52
import Derived.Deep.RegionWith
import Derived.Deep.MidRow
import Derived.Deep.Cut
import Derived.Lib.Hide
namespace Go.Proofs.YtfcgkjbifnhjjaaGreatDoor.St
open Go.RowKit
set_option linter.unusedVariables false

/-- A row with some cells put in. -/
def putC : Array Value → Nat → List Value → Array Value
  | c, _, [] => c
  | c, o, v :: vs => putC (c.setIfInBounds o v) (o + 1) vs
theorem putC_size : ∀ (vs : List Value) (c : Array Value) (o : Nat), (putC c o vs).size = c.size
  | [], c, o => rfl
  | v :: vs, c, o => by unfold putC; rw [putC_size vs]; simp
theorem putC_at : ∀ (vs : List Value) (c : Array Value) (o i : Nat), o + vs.length ≤ c.size → (putC c o vs)[i]? = if o ≤ i ∧ i < o + vs.length then vs[i - o]? else c[i]?
  | [], c, o, i, h => by
    rw [if_neg (by show ¬(o ≤ i ∧ i < o + 0); omega)]; unfold putC; trivial
  | v :: vs, c, o, i, h => by
    unfold putC
    simp at h
    rw [putC_at vs _ _ i (by simp; omega)]
    by_cases h1 : i = o
    · subst h1
      rw [if_neg (by omega), if_pos (by simp), Array.getElem?_setIfInBounds_self_of_lt (by omega)]
      simp
    · by_cases h2 : o + 1 ≤ i ∧ i < o + 1 + vs.length
      · rw [if_pos h2, if_pos (by simp; omega)]
        rw [show i - o = (i - (o + 1)) + 1 by omega]
        simp
      · rw [if_neg h2, if_neg (by simp; omega), Array.getElem?_setIfInBounds_ne (Ne.symm h1)]
theorem blk_setCells : ∀ (vs : List Value) (W : World) (l o : Nat) (c : Array Value) (t : TypeId) (fz : Nat × Nat), blk W l = some (.cells c t fz) → blk (W.setCells l o vs) l = some (.cells (putC c o vs) t fz)
  | [], W, l, o, c, t, fz, h => h
  | v :: vs, W, l, o, c, t, fz, h => by
    unfold putC World.setCells
    exact blk_setCells vs _ l (o + 1) _ t fz (blk_setCell_same h o v)
theorem turn_setCells : ∀ (vs : List Value) (W : World) (l o : Nat), Turn (· = l) W (W.setCells l o vs)
  | [], W, l, o => Turn.refl _ _
  | v :: vs, W, l, o => by
    unfold World.setCells
    exact ((Turn.refl (· = l) W).setCell (p := ⟨l, o, none⟩) (Or.inl rfl) v).trans (turn_setCells vs _ l (o + 1))
theorem putC_ext (c : Array Value) (p q : Nat) (x : Val) (hc : 935 ≤ c.size) (hp : p < 55) (hq : q < 55) : (putC c (p * 17) x.cells.toList).extract (q * 17) (q * 17 + 17) = if q = p then x.cells else c.extract (q * 17) (q * 17 + 17) := by
  have hl : x.cells.toList.length = 17 := by simp [Val.cells]
  apply Array.ext_getElem?
  intro i
  by_cases e : q = p
  · subst e
    rw [if_pos rfl]
    by_cases hi : i < 17
    · rw [Array.getElem?_extract_of_lt (by rw [putC_size]; omega), ← Array.getElem?_eq_getElem, putC_at _ _ _ _ (by omega), if_pos (by omega), show q * 17 + i - q * 17 = i by omega]
      simp
    · rw [Array.getElem?_eq_none (by rw [Array.size_extract, putC_size]; omega), Array.getElem?_eq_none (by rw [cells_size]; omega)]
  · rw [if_neg e]
    by_cases hi : i < 17
    · rw [Array.getElem?_extract_of_lt (by rw [putC_size]; omega), Array.getElem?_extract_of_lt (by omega), ← Array.getElem?_eq_getElem, ← Array.getElem?_eq_getElem, putC_at _ _ _ _ (by omega), if_neg (by omega)]
    · rw [Array.getElem?_eq_none (by rw [Array.size_extract, putC_size]; omega), Array.getElem?_eq_none (by rw [Array.size_extract]; omega)]
def updB (base : Nat → Val) (p : Nat) (x : Val) : Nat → Val := fun q => if q = p then x else base q
theorem StoreAt.put {W : World} {s l : Nat} {base : Nat → Val} (h : StoreAt W s l base) (hsl : s ≠ l) {p : Nat} (hp : p < 55) (x : Val) : StoreAt (W.setCells l (p * 17) x.cells.toList) s l (updB base p x) := by
  obtain ⟨c, h1, h2, h3⟩ := h.cl
  refine ⟨by obtain ⟨cap, q0, q1⟩ := h.cs; exact ⟨cap, q0, blk_of_turn (turn_setCells _ _ _ _) q1 hsl⟩, _, blk_setCells _ _ _ _ _ _ _ h1, by rw [putC_size]; exact h2, fun q hq => ?_⟩
  rw [putC_ext c p q x h2 hp hq]
  unfold updB
  by_cases e : q = p
  · rw [if_pos e, if_pos e]
  · rw [if_neg e, if_neg e]; exact h3 q hq
theorem run_storeV_row (W : World) (l p : Nat) (c : Array Value) (x : Val) (hl : blk W l = some (.cells c 60 (0, 0))) (hc : 935 ≤ c.size) (hp : p < 55) :
    (storeV (.pointer (some ⟨l, p * 17, none⟩)) (.agg x.cells)).run Tryz.prog W = .ok .skip (W.setCells l (p * 17) x.cells.toList) := by
  have ht : W.there l (p * 17) x.cells.size := fun j hj => by
    rw [cells_size] at hj
    refine ⟨?_, frozen_blk hl _⟩
    rw [cell_of_row _ _ _ _ _ _ hl, Array.getElem?_eq_getElem (by omega)]; rfl
  have := run_storeAt_mid (P := Tryz.prog) W l (p * 17) 60 x.cells ht (by rw [val_size, cells_size]) (cells_one x)
  unfold storeV
  simp only [Sem.run_bind, Sem.run_pure, Result.andThen_ok, this]

attribute [local go_sem] blk_alloc_at blk_alloc_past blk_drew blk_drewN blk_setB_same blk_setB_other blk_setRow_other setRow_alloc_at setRow_alloc_past setRow_drewN setRow_drew setB_size setB_cell setB_frozen setB_alloc_past setB_drewN setB_drew run_loadV loadOr_cells run_storeV storeOr_cells cells_size ones_cells cells_0 cells_1 cells_2 cells_16
attribute [local go_sem ↓] execOp_loadV execOp_storeV
attribute [local go_sem ↓] wp_at0 wp_at1 wp_at2 wp_at3 wp_at4 wp_at5 wp_at6 wp_at7

attribute [local irreducible] Int.lt Int.le
set_option maxRecDepth 100000 in
set_option maxHeartbeats 1000000 in
theorem sput_yes (s l : Nat) (base : Nat → Val) (k n : Int) (p : Nat) (x : Val) (h : placeI k n = (p : Int)) (hp : p < 55) (hsl : s ≠ l) (w : World) (hS : StoreAt w s l base) :
    Calls Tryz.prog 26 #[.pointer (some ⟨s, 0, none⟩), keyV k n, .agg x.cells] w fun e w' => e = .returned (.bool true) ∧ StoreAt w' s l (updB base p x) ∧ Turn (· = l) w w' := by
  obtain ⟨c, hc, hcs, hx⟩ := hS.cl
  have hls := hS.lts
  have hll := lt_of_heap hc
  have hp0 : (0 : Int) ≤ (p : Int) := by omega
  go_enter Tryz.func26, Tryz.ntmps26
  go_wp2_with fail
  refine (place_any k n _).mono ?_; rintro e w1 ⟨rfl, hb⟩
  obtain ⟨_, h2, h3, h4, h5⟩ := after2 hb
  rw [h]
  have S1 : StoreAt w1 s l base := hS.keep (Turn.of_below h5 (fun _ => False)) (fun q => q) (fun q => q)
  have hl1 : blk w1 l = some (.cells c 60 (0, 0)) := (h3 l hll).trans hc
  have t1 := Turn.of_below h5 (· = l)
  clear hb h3 h5 hS hc hx h
  go_upto_region 4 with fail
  have b2 : blk w1.drew (w.heap.size + 1) = some (.cells x.cells 60 (0, 0)) := (blk_drew _ _).trans h2
  have l2 : blk w1.drew l = some (.cells c 60 (0, 0)) := (blk_drew _ _).trans hl1
  have S2 : StoreAt w1.drew s l base := S1.keep (Turn.refl (fun _ => False) w1).drew (fun q => q) (fun q => q)
  have t2 := t1.drew
  obtain ⟨cap, hcap, hcs0⟩ := S2.cs
  have s0 := cell_of_row w1.drew s 0 _ _ _ hcs0
  simp only [List.getElem?_toArray, List.getElem?_cons_zero] at s0
  have hst := run_storeV_row w1.drew l p c x l2 hcs hp
  have S3 := S2.put hsl hp x
  have t3 := t2.trans (turn_setCells x.cells.toList w1.drew l (p * 17))
  clear h2 hl1 S1 t1
  go_region_with (fail)
  all_goals
    clear s0 hst b2 l2 S2 t2
    go_wp2_with fail
    go_ret
    exact ⟨rfl, S3, t3⟩
theorem sput_no (s l : Nat) (base : Nat → Val) (k n : Int) (x : Val) (h : placeI k n < 0) (w : World) (hS : StoreAt w s l base) :
    Calls Tryz.prog 26 #[.pointer (some ⟨s, 0, none⟩), keyV k n, .agg x.cells] w fun e w' => e = .returned (.bool false) ∧ StoreAt w' s l base ∧ Turn (· = l) w w' := by
  have hd : decide (placeI k n < 0) = true := decide_eq_true h
  go_enter Tryz.func26, Tryz.ntmps26
  go_wp2_with fail
  refine (place_any k n _).mono ?_; rintro e w1 ⟨rfl, hb⟩
  obtain ⟨_, h2, h3, h4, h5⟩ := after2 hb
  have S1 : StoreAt w1 s l base := hS.keep (Turn.of_below h5 (fun _ => False)) (fun q => q) (fun q => q)
  clear hb h3 hS
  generalize placeI k n = p at *
  go_wp2_with fail
  go_ret
  exact ⟨rfl, S1, Turn.of_below h5 _⟩
/-- What a store has behind a Put. -/
def storePut (base : Nat → Val) (k n : Int) (x : Val) : Nat → Val := if placeI k n < 0 then base else updB base (placeI k n).toNat x
theorem sput_any (s l : Nat) (base : Nat → Val) (k n : Int) (x : Val) (hsl : s ≠ l) (w : World) (hS : StoreAt w s l base) :
    Calls Tryz.prog 26 #[.pointer (some ⟨s, 0, none⟩), keyV k n, .agg x.cells] w fun e w' => e = .returned (.bool (decide (0 ≤ placeI k n))) ∧ StoreAt w' s l (storePut base k n x) ∧ Turn (· = l) w w' := by
  unfold storePut
  by_cases h : placeI k n < 0
  · rw [if_pos h, decide_eq_false (by omega)]; exact sput_no s l base k n x h w hS
  · have := place_lt k n
    rw [if_neg h, decide_eq_true (by omega)]
    exact sput_yes s l base k n _ x (by omega) (by omega) hsl w hS
end Go.Proofs.YtfcgkjbifnhjjaaGreatDoor.St
