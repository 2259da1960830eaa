/- What a walk is told of a slice whose elements are of one cell, or structs of such fields, of whatever kinds. No condition but those written in each statement. -/
import Derived.Test.YtfcgkjbifnhjjaaGreatDoorLawKit
namespace Go.Proofs.YtfcgkjbifnhjjaaGreatDoor.St
open Go.RowKit Go.ChangeShapes Go.WideShapes Go.ChangeAt Go.Deep
variable {H : Type} {enc : TypeId × Value → H} {P : Program}

/-- The kind of a cell. -/
inductive FK where
  | int (k : IntKind)
  | bool
  | str
/-- A value of that kind. -/
def FK.fits : FK → Value → Prop
  | .int k, v => ∃ n, v = .int k n ∧ (Lit.int k n).wf = true
  | .bool, v => ∃ b, v = .bool b
  | .str, v => ∃ s : ByteArray, v = .string s ∧ s.size ≤ maxLen
def FK.is : FK → Option TypeDesc → Bool
  | .int k, some (.int l) => k == l
  | .bool, some .bool => true
  | .str, some .string => true
  | _, _ => false

/-- A slice: it is nil, or it leads to a row of len times as many cells as there are kinds. -/
def IsMix (ks : List FK) (w : World) (a : Option Addr) (len cap : Nat) : Prop :=
  (a = none ∧ len = 0 ∧ cap = 0) ∨
  ∃ x, a = some x ∧ len ≤ cap ∧ cap ≤ maxLen ∧ ∀ i, i < len → ∀ j k, ks[j]? = some k → ∃ v, w.cell? (x.add (i * ks.length + j)) = some v ∧ k.fits v

theorem fits_of {w : World} {base : Nat} {spare : Nat → Bool} {held : Bool} {fuel : Nat} {t : TypeId} {v : Value} {k : FK} {y : DataW H × List MemPlace} (hk : k.is (P.underlying t) = true) (h : DataW.trod enc P w base spare held fuel t [v] = some y) : k.fits v := by
  generalize ho : P.underlying t = o at hk
  cases k with
  | int k =>
    unfold FK.is at hk
    split at hk
    · rename_i l e1
      cases e1
      have : k = l := by simpa using hk
      subst this
      obtain ⟨n, e, _, wa⟩ := DataW.trod_int ho h
      exact ⟨n, by simpa using e, wa⟩
    · rename_i e1; cases e1
    · rename_i e1; cases e1
    · cases hk
  | bool =>
    unfold FK.is at hk
    split at hk
    · rename_i e1; cases e1
    · obtain ⟨b, e, _⟩ := DataW.trod_bool ho h
      exact ⟨b, by simpa using e⟩
    · rename_i e1; cases e1
    · cases hk
  | str =>
    unfold FK.is at hk
    split at hk
    · rename_i e1; cases e1
    · rename_i e1; cases e1
    · obtain ⟨s, e, _, ws⟩ := DataW.trod_string ho h
      exact ⟨s, by simpa using e, ws⟩
    · cases hk

/-- The fields are of these kinds. -/
def kindsB (P : Program) (ks : List FK) (fs : Array Field) : Bool :=
  ks.length == fs.size && (List.range fs.size).all fun j => match ks[j]?, fs[j]? with
    | some k, some f => k.is (P.underlying f.type)
    | _, _ => false
theorem kinds_at {ks : List FK} {fs : Array Field} (h : kindsB P ks fs = true) : ks.length = fs.size ∧ ∀ (j : Nat) (k : FK) (f : Field), ks[j]? = some k → fs[j]? = some f → k.is (P.underlying f.type) = true := by
  unfold kindsB at h
  rw [Bool.and_eq_true] at h
  refine ⟨by simpa using h.1, fun j k f h1 h2 => ?_⟩
  obtain ⟨hj, _⟩ := Array.getElem?_eq_some_iff.1 h2
  have := List.all_eq_true.1 h.2 j (by simpa using hj)
  rw [h1, h2] at this
  exact this

section
variable {w : World} {held : Bool}
theorem open_mix {ks : List FK} {t e : TypeId} {fs : Array Field} {fuel : Nat} {a : Option Addr} {len cap : Nat} {x : DataW H × List MemPlace} (ht : P.underlying t = some (.slice e)) (he : P.underlying e = some (.struct fs))
    (hone : oneCellFields P fs = true) (hC : P.cellsOf e = fs.size) (hks : kindsB P ks fs = true)
    (h : DataW.trod enc P w 0 (fun _ => true) held fuel t [.slice a len cap] = some x) : IsMix ks w a len cap := by
  rcases open_slice ht h with ⟨hcs, _⟩ | ⟨x, l, c, m, n, D, Pl, hcs, _, hl, hm, hmm, _, hi⟩
  · simp at hcs
    obtain ⟨rfl, rfl, rfl⟩ := hcs
    exact .inl ⟨rfl, rfl, rfl⟩
  · simp at hcs
    obtain ⟨rfl, rfl, rfl⟩ := hcs
    have hm2 : m = cap := by simpa using hmm
    obtain ⟨hlen, hkk⟩ := kinds_at hks
    refine .inr ⟨x, rfl, hl, hm, fun i h1 j k hk => ?_⟩
    have hj : j < fs.size := by
      obtain ⟨q, _⟩ := List.getElem?_eq_some_iff.1 hk
      omega
    obtain ⟨cs, hc, htr⟩ := hi i (by omega)
    rw [hC] at hc
    obtain ⟨ys, n', _, _, _, _, hf⟩ := DataW.trod_struct he htr
    obtain ⟨_, hcl, hat⟩ := World.cells?_some hc
    have hg := hf j fs[j] (by simp [hj])
    obtain ⟨ho, hk1⟩ := hone_of hone j fs[j] (by simp [hj])
    rw [ho, hk1] at hg
    have hd : (cs.drop j).take 1 = [cs[j]'(by omega)] := by rw [List.drop_eq_getElem_cons (by omega)]; rfl
    rw [hd] at hg
    obtain ⟨y, hy⟩ : ∃ y, ys[j]? = some y := ⟨ys[j]'(by omega), by simp⟩
    rw [hy] at hg
    have hfit := fits_of (hkk j k fs[j] hk (by simp [hj])) hg
    refine ⟨_, ?_, hfit⟩
    have hcell := hat j hj
    rw [hlen, ← add_add, hcell]
    simp

theorem open_mix1 {k : FK} {t e : TypeId} {fuel : Nat} {a : Option Addr} {len cap : Nat} {x : DataW H × List MemPlace} (ht : P.underlying t = some (.slice e)) (hC : P.cellsOf e = 1) (hk : k.is (P.underlying e) = true)
    (h : DataW.trod enc P w 0 (fun _ => true) held fuel t [.slice a len cap] = some x) : IsMix [k] w a len cap := by
  rcases open_slice ht h with ⟨hcs, _⟩ | ⟨x, l, c, m, n, D, Pl, hcs, _, hl, hm, hmm, _, hi⟩
  · simp at hcs
    obtain ⟨rfl, rfl, rfl⟩ := hcs
    exact .inl ⟨rfl, rfl, rfl⟩
  · simp at hcs
    obtain ⟨rfl, rfl, rfl⟩ := hcs
    have hm2 : m = cap := by simpa using hmm
    refine .inr ⟨x, rfl, hl, hm, fun i h1 j k' hk' => ?_⟩
    obtain rfl : j = 0 := by
      obtain ⟨q, _⟩ := List.getElem?_eq_some_iff.1 hk'
      simp at q; omega
    obtain rfl : k = k' := by simpa using hk'
    obtain ⟨cs, hc, htr⟩ := hi i (by omega)
    rw [hC] at hc
    obtain ⟨_, hcl, hat⟩ := World.cells?_some hc
    obtain ⟨v, rfl⟩ : ∃ v, cs = [v] := by
      match cs, hcl with
      | [v], _ => exact ⟨v, rfl⟩
    refine ⟨v, ?_, fits_of hk htr⟩
    have hcell := hat 0 (by omega)
    rw [show i * [k].length + 0 = i * 1 + 0 by simp, ← add_add, hcell]
    rfl

/-- An element's fields, in a world that keeps what was there. -/
theorem mix_field {ks : List FK} {x : Addr} {len : Nat} (hx : ∀ i, i < len → ∀ j k, ks[j]? = some k → ∃ v, w.cell? (x.add (i * ks.length + j)) = some v ∧ k.fits v) (F : Nat) (hF : ks.length = F) (i : Nat) (hi : i < len) (j : Nat) (k : FK) (hj : ks[j]? = some k) (h0 : 0 < j) :
    ∃ v, k.fits v ∧ ∀ w', Below w.heap.size w w' → w'.cell? ⟨(x.add (i * F)).block, (x.add (i * F)).off + j, none⟩ = some v := by
  obtain ⟨v, h1, h2⟩ := hx i hi j k hj
  rw [hF] at h1
  exact ⟨v, h2, fun w' hb => by rw [← add_field x _ j h0]; exact (hb.cell (cell_block_lt h1)).trans h1⟩
theorem mix_first {ks : List FK} {x : Addr} {len : Nat} (hx : ∀ i, i < len → ∀ j k, ks[j]? = some k → ∃ v, w.cell? (x.add (i * ks.length + j)) = some v ∧ k.fits v) (F : Nat) (hF : ks.length = F) (i : Nat) (hi : i < len) (k : FK) (hj : ks[0]? = some k) :
    ∃ v, k.fits v ∧ ∀ w', Below w.heap.size w w' → w'.cell? (x.add (i * F)) = some v := by
  obtain ⟨v, h1, h2⟩ := hx i hi 0 k hj
  rw [hF] at h1
  exact ⟨v, h2, fun w' hb => (hb.cell (cell_block_lt h1)).trans h1⟩
end
end Go.Proofs.YtfcgkjbifnhjjaaGreatDoor.St
