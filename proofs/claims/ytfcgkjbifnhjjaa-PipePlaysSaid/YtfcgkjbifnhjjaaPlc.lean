/- The row of the keys that a plain test says, by rising places; what key.Sort makes of a map's keys. No condition but those written in each statement. -/
import Derived.Test.YtfcgkjbifnhjjaaKeyC
import Derived.Test.YtfcgkjbifnhjjaaReg
namespace Go.Proofs.Ytfcgkjbifnhjjaa.St
open Go.RowKit
set_option linter.unusedVariables false

theorem rise_from : ∀ (l : List Int) (a : Int), l.Pairwise (· < ·) → (∀ p ∈ l, a ≤ p ∧ p < 55) → (l.length : Int) ≤ max (55 - a) 0
  | [], a, _, _ => by simp; omega
  | x :: l, a, hr, h => by
    have h1 := List.pairwise_cons.1 hr
    have := rise_from l (x + 1) h1.2 (fun p hp => ⟨by have := h1.1 p hp; omega, (h p (List.mem_cons_of_mem _ hp)).2⟩)
    have hx := h x (List.mem_cons_self ..)
    rw [List.length_cons]
    omega
theorem rise_len (l : List Int) (hr : l.Pairwise (· < ·)) (h : ∀ p ∈ l, 0 ≤ p ∧ p < 55) : l.length ≤ 55 := by
  have := rise_from l 0 hr h
  omega
/-- The key at a place. -/
def keyP (p : Int) : Int × Int := (atK p).getD (0, 0)
/-- The places, rising, whose keys h says. -/
def plF (h : Int → Int → Bool) : List Int := ((List.range 55).filter fun (p : Nat) => h (keyP p).1 (keyP p).2).map fun (p : Nat) => (p : Int)
theorem place_keyP (p : Nat) (h : p < 55) : placeI (keyP p).1 (keyP p).2 = (p : Int) := (k_row_at p h).2
theorem keyP_place (k m : Int) (h : 0 ≤ placeI k m) : keyP (placeI k m) = (k, m) := key_of_place k m h
theorem plF_mem (h : Int → Int → Bool) (p : Int) : p ∈ plF h ↔ 0 ≤ p ∧ p < 55 ∧ h (keyP p).1 (keyP p).2 = true := by
  unfold plF
  simp only [List.mem_map, List.mem_filter, List.mem_range]
  constructor
  · rintro ⟨q, ⟨h1, h2⟩, rfl⟩
    exact ⟨by omega, by omega, h2⟩
  · rintro ⟨h0, h1, h2⟩
    obtain ⟨q, rfl⟩ := Int.eq_ofNat_of_zero_le h0
    exact ⟨q, ⟨by omega, h2⟩, rfl⟩
theorem plF_rises (h : Int → Int → Bool) : (plF h).Pairwise (· < ·) := by
  unfold plF
  rw [List.pairwise_map]
  refine List.Pairwise.imp (R := fun a b : Nat => a < b) (fun h => by omega) ?_
  exact (List.pairwise_lt_range (n := 55)).filter _
theorem plF_lt (h : Int → Int → Bool) : ∀ p ∈ plF h, 0 ≤ p ∧ p < 55 := fun p hp => by
  have := (plF_mem h p).1 hp; omega
theorem plF_congr {h h' : Int → Int → Bool} (e : ∀ k n, 0 ≤ placeI k n → h k n = h' k n) : plF h = plF h' :=
  rise_eq _ _ (plF_rises h) (plF_rises h') fun p => by
    rw [plF_mem, plF_mem]
    constructor
    · rintro ⟨a, b, c⟩
      obtain ⟨q, rfl⟩ := Int.eq_ofNat_of_zero_le a
      have := place_keyP q (by omega)
      exact ⟨a, b, by rw [← e _ _ (by rw [this]; omega)]; exact c⟩
    · rintro ⟨a, b, c⟩
      obtain ⟨q, rfl⟩ := Int.eq_ofNat_of_zero_le a
      have := place_keyP q (by omega)
      exact ⟨a, b, by rw [e _ _ (by rw [this]; omega)]; exact c⟩
theorem kS_plF (ks : List (Int × Int)) (h : Int → Int → Bool) (e : ∀ k n, 0 ≤ placeI k n → (h k n = true ↔ (k, n) ∈ ks)) : kS (fun i => ks.getD i (0, 0)) ks.length = plF h :=
  rise_eq _ _ (kS_rises _ _) (plF_rises h) fun p => by
    rw [kS_iff, plF_mem]
    constructor
    · rintro ⟨h0, i, hi, rfl⟩
      have hg : ks.getD i (0, 0) = ks[i] := by simp [List.getD, List.getElem?_eq_getElem hi]
      rw [hg] at h0 ⊢
      refine ⟨h0, k_place_lt _ _ h0, ?_⟩
      rw [keyP_place _ _ h0]
      exact (e _ _ h0).2 (List.getElem_mem hi)
    · rintro ⟨h0, h1, h2⟩
      obtain ⟨q, rfl⟩ := Int.eq_ofNat_of_zero_le h0
      have hp := place_keyP q (by omega)
      have hm := (e _ _ (by rw [hp]; omega)).1 h2
      obtain ⟨i, hi, hk⟩ := List.getElem_of_mem hm
      have hg : ks.getD i (0, 0) = ks[i] := by simp [List.getD, List.getElem?_eq_getElem hi]
      refine ⟨h0, i, hi, ?_⟩
      rw [hg, hk]; exact hp
/-- A list of keys that are objects, each once, is no longer than the row. -/
theorem keys_len (ks : List (Int × Int)) (hn : ks.Nodup) (hp : ∀ k ∈ ks, 0 ≤ placeI k.1 k.2) : ks.length ≤ 55 := by
  have h := nodup_len (ks.map fun k => (placeI k.1 k.2).toNat) (List.range 55) (by
    rw [List.nodup_iff_pairwise_ne, List.pairwise_map]
    refine (List.nodup_iff_pairwise_ne.1 hn).imp_of_mem fun {a b} ha hb hne q => hne ?_
    have e : placeI a.1 a.2 = placeI b.1 b.2 := by have := hp a ha; have := hp b hb; omega
    have h1 := keyP_place _ _ (hp a ha)
    have h2 := keyP_place _ _ (hp b hb)
    rw [e, h2] at h1
    exact h1.symm) (fun x hx => by
    obtain ⟨k, hk, rfl⟩ := List.mem_map.1 hx
    have := k_place_lt _ _ (hp k hk)
    have := hp k hk
    rw [List.mem_range]; omega)
  simpa using h

/-- What was read and written are objects; what was read is true. -/
structure VOk (st : VSt) : Prop where
  rd : ∀ k n v, st.rd k n = some v → 0 ≤ placeI k n ∧ v = .bool true
  wr : ∀ k n v, st.wr k n = some v → 0 ≤ placeI k n
theorem VOk.fresh (base : Nat → Val) : VOk (VSt.fresh base) := ⟨fun k n v h => (by cases h), fun k n v h => (by cases h)⟩
theorem VOk.saw {st : VSt} (h : VOk st) (k n : Int) : VOk (st.saw k n) := by
  unfold VSt.saw
  split
  · exact h
  · rename_i hp
    refine ⟨fun a b v hv => ?_, h.wr⟩
    unfold VSt.reads updK at hv
    simp only at hv
    split at hv
    · rename_i c; obtain ⟨rfl, rfl⟩ := c
      exact ⟨by omega, by cases hv; rfl⟩
    · exact h.rd a b v hv
theorem VOk.put {st : VSt} (h : VOk st) (k n : Int) (x : Val) : VOk (st.put k n x) := by
  unfold VSt.put
  split
  · exact h
  · rename_i hp
    refine ⟨h.rd, fun a b v hv => ?_⟩
    unfold updV at hv
    simp only at hv
    split at hv
    · rename_i c; obtain ⟨rfl, rfl⟩ := c; omega
    · exact h.wr a b v hv
/-- The places that were read; written; either. -/
def rdP (st : VSt) : List Int := plF fun k n => (st.rd k n).isSome
def wrP (st : VSt) : List Int := plF fun k n => (st.wr k n).isSome
def ftP (st : VSt) : List Int := plF fun k n => (st.rd k n).isSome || (st.wr k n).isSome
theorem es_len {es : Array MapEntry} {clk : Nat} {f : Int → Int → Option Value} (hk : KM es clk f) (hp : ∀ k n v, f k n = some v → 0 ≤ placeI k n) : es.size ≤ 55 := by
  have h1 : (es.toList.map kOf).Nodup := by
    rw [List.nodup_iff_pairwise_ne, List.pairwise_map]
    refine (List.nodup_iff_pairwise_ne.1 ?_).imp_of_mem fun hx hy hne q => hne (hk.inj hx hy q)
    have := hk.born.nodup
    rw [List.nodup_iff_pairwise_ne, List.pairwise_map] at this
    rw [List.nodup_iff_pairwise_ne]
    exact this.imp fun q e => q (by rw [e])
  have h2 := keys_len _ h1 fun k hk' => by
    obtain ⟨e, he, rfl⟩ := List.mem_map.1 hk'
    exact hp _ _ _ (hk.at he).2
  simpa using h2
end Go.Proofs.Ytfcgkjbifnhjjaa.St
