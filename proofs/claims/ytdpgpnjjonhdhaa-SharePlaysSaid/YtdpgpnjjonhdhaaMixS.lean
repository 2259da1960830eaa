/- What a walk is told of a slice whose elements are of one cell, or structs of such fields, of whatever kinds, slices of ints too. No condition but those written in each statement. -/
import Derived.Test.YtdpgpnjjonhdhaaLawKit
namespace Go.Proofs.Ytdpgpnjjonhdhaa.St
open Go.RowKit Go.ChangeShapes Go.WideShapes Go.ChangeAt Go.Deep
variable {H : Type} {enc : TypeId × Value → H} {P : Program}

/-- The kind of a cell. -/
inductive FS where
  | int (k : IntKind)
  | bool
  | str
  | ints (k : IntKind)
/-- A value of that kind. -/
def FS.fits (w : World) : FS → Value → Prop
  | .int k, v => ∃ n, v = .int k n ∧ (Lit.int k n).wf = true
  | .bool, v => ∃ b, v = .bool b
  | .str, v => ∃ s : ByteArray, v = .string s ∧ s.size ≤ maxLen
  | .ints k, v => ∃ a l c zs, v = .slice a l c ∧ IsRow k w a l c zs
def isKind (k : IntKind) : Option TypeDesc → Bool
  | some (.int l) => k == l
  | _ => false
def FS.is (P : Program) : FS → Option TypeDesc → Bool
  | .int k, o => isKind k o
  | .bool, some .bool => true
  | .str, some .string => true
  | .ints k, some (.slice e) => isKind k (P.underlying e) && (P.cellsOf e == 1)
  | _, _ => false
theorem isKind_eq {k : IntKind} {o : Option TypeDesc} (h : isKind k o = true) : o = some (.int k) := by
  unfold isKind at h
  split at h
  · rename_i l
    have : k = l := by simpa using h
    rw [this]
  · cases h

/-- A slice: it is nil, or it leads to a row of len times as many cells as there are kinds. -/
def IsMixS (ks : List FS) (w : World) (a : Option Addr) (len cap : Nat) : Prop :=
  (a = none ∧ len = 0 ∧ cap = 0) ∨
  ∃ x, a = some x ∧ len ≤ cap ∧ cap ≤ maxLen ∧ ∀ i, i < len → ∀ j k, ks[j]? = some k → ∃ v, w.cell? (x.add (i * ks.length + j)) = some v ∧ k.fits w v

theorem fitss_of {w : World} {held : Bool} {fuel : Nat} {t : TypeId} {v : Value} {k : FS} {y : DataW H × List MemPlace} (hk : k.is P (P.underlying t) = true) (h : DataW.trod enc P w 0 (fun _ => true) held fuel t [v] = some y) : k.fits w v := by
  generalize ho : P.underlying t = o at hk
  cases k with
  | int k =>
    obtain ⟨n, e, _, wa⟩ := DataW.trod_int (ho.trans (isKind_eq hk)) h
    exact ⟨n, by simpa using e, wa⟩
  | bool =>
    unfold FS.is at hk
    split at hk
    all_goals first
      | (rename_i e1; cases e1; done)
      | (obtain ⟨b, e, _⟩ := DataW.trod_bool ho h; exact ⟨b, by simpa using e⟩)
      | cases hk
  | str =>
    unfold FS.is at hk
    split at hk
    all_goals first
      | (rename_i e1; cases e1; done)
      | (obtain ⟨s, e, _, ws⟩ := DataW.trod_string ho h; exact ⟨s, by simpa using e, ws⟩)
      | cases hk
  | ints k =>
    unfold FS.is at hk
    split at hk
    all_goals first
      | (rename_i e1; cases e1; done)
      | (rename_i k' e e1
         cases e1
         rw [Bool.and_eq_true] at hk
         obtain ⟨h1, h2⟩ := hk
         have h3 : P.cellsOf e = 1 := by simpa using h2
         rcases open_ints ho (isKind_eq h1) h3 h with ⟨hcs, _⟩ | ⟨x, l, c, zs, hcs, _, hl, hm, hz, _, hcell, hwz⟩
         · exact ⟨none, 0, 0, [], by simpa using hcs, .inl ⟨rfl, rfl, rfl, rfl⟩⟩
         · exact ⟨some x, l, c, zs, by simpa using hcs, .inr ⟨x, rfl, hl, hm, by simpa using hz, hcell, hwz⟩⟩)
      | cases hk

/-- The fields are of these kinds. -/
def kindssB (P : Program) (ks : List FS) (fs : Array Field) : Bool :=
  ks.length == fs.size && (List.range fs.size).all fun j => match ks[j]?, fs[j]? with
    | some k, some f => k.is P (P.underlying f.type)
    | _, _ => false
theorem kindss_at {ks : List FS} {fs : Array Field} (h : kindssB P ks fs = true) : ks.length = fs.size ∧ ∀ (j : Nat) (k : FS) (f : Field), ks[j]? = some k → fs[j]? = some f → k.is P (P.underlying f.type) = true := by
  unfold kindssB at h
  rw [Bool.and_eq_true] at h
  refine ⟨by simpa using h.1, fun j k f h1 h2 => ?_⟩
  obtain ⟨hj, _⟩ := Array.getElem?_eq_some_iff.1 h2
  have := List.all_eq_true.1 h.2 j (by simpa using hj)
  rw [h1, h2] at this
  exact this

section
variable {w : World} {held : Bool}
theorem open_mixs {ks : List FS} {t e : TypeId} {fs : Array Field} {fuel : Nat} {a : Option Addr} {len cap : Nat} {x : DataW H × List MemPlace} (ht : P.underlying t = some (.slice e)) (he : P.underlying e = some (.struct fs))
    (hone : oneCellFields P fs = true) (hC : P.cellsOf e = fs.size) (hks : kindssB P ks fs = true)
    (h : DataW.trod enc P w 0 (fun _ => true) held fuel t [.slice a len cap] = some x) : IsMixS ks w a len cap := by
  rcases open_slice ht h with ⟨hcs, _⟩ | ⟨x, l, c, m, n, D, Pl, hcs, _, hl, hm, hmm, _, hi⟩
  · simp at hcs
    obtain ⟨rfl, rfl, rfl⟩ := hcs
    exact .inl ⟨rfl, rfl, rfl⟩
  · simp at hcs
    obtain ⟨rfl, rfl, rfl⟩ := hcs
    have hm2 : m = cap := by simpa using hmm
    obtain ⟨hlen, hkk⟩ := kindss_at hks
    refine .inr ⟨x, rfl, hl, hm, fun i h1 j k hk => ?_⟩
    have hj : j < fs.size := by
      obtain ⟨q, _⟩ := List.getElem?_eq_some_iff.1 hk
      omega
    obtain ⟨cs, hc, htr⟩ := hi i (by omega)
    rw [hC] at hc
    obtain ⟨ys, n', _, _, _, _, hf⟩ := DataW.trod_struct he htr
    obtain ⟨_, hcl, hat⟩ := World.cells?_some hc
    have hg := hf j fs[j] (by simp [hj])
    obtain ⟨ho, hk1⟩ := hone_of hone j fs[j] (by simp [hj])
    rw [ho, hk1] at hg
    have hd : (cs.drop j).take 1 = [cs[j]'(by omega)] := by rw [List.drop_eq_getElem_cons (by omega)]; rfl
    rw [hd] at hg
    obtain ⟨y, hy⟩ : ∃ y, ys[j]? = some y := ⟨ys[j]'(by omega), by simp⟩
    rw [hy] at hg
    have hfit := fitss_of (hkk j k fs[j] hk (by simp [hj])) hg
    refine ⟨_, ?_, hfit⟩
    have hcell := hat j hj
    rw [hlen, ← add_add, hcell]
    simp

theorem open_mixs1 {k : FS} {t e : TypeId} {fuel : Nat} {a : Option Addr} {len cap : Nat} {x : DataW H × List MemPlace} (ht : P.underlying t = some (.slice e)) (hC : P.cellsOf e = 1) (hk : k.is P (P.underlying e) = true)
    (h : DataW.trod enc P w 0 (fun _ => true) held fuel t [.slice a len cap] = some x) : IsMixS [k] w a len cap := by
  rcases open_slice ht h with ⟨hcs, _⟩ | ⟨x, l, c, m, n, D, Pl, hcs, _, hl, hm, hmm, _, hi⟩
  · simp at hcs
    obtain ⟨rfl, rfl, rfl⟩ := hcs
    exact .inl ⟨rfl, rfl, rfl⟩
  · simp at hcs
    obtain ⟨rfl, rfl, rfl⟩ := hcs
    have hm2 : m = cap := by simpa using hmm
    refine .inr ⟨x, rfl, hl, hm, fun i h1 j k' hk' => ?_⟩
    obtain rfl : j = 0 := by
      obtain ⟨q, _⟩ := List.getElem?_eq_some_iff.1 hk'
      simp at q; omega
    obtain rfl : k = k' := by simpa using hk'
    obtain ⟨cs, hc, htr⟩ := hi i (by omega)
    rw [hC] at hc
    obtain ⟨_, hcl, hat⟩ := World.cells?_some hc
    obtain ⟨v, rfl⟩ : ∃ v, cs = [v] := by
      match cs, hcl with
      | [v], _ => exact ⟨v, rfl⟩
    refine ⟨v, ?_, fitss_of hk htr⟩
    have hcell := hat 0 (by omega)
    rw [show i * [k].length + 0 = i * 1 + 0 by simp, ← add_add, hcell]
    rfl

/-- An element's fields, in a world that keeps what was there. -/
theorem mixs_field {ks : List FS} {x : Addr} {len : Nat} (hx : ∀ i, i < len → ∀ j k, ks[j]? = some k → ∃ v, w.cell? (x.add (i * ks.length + j)) = some v ∧ k.fits w v) (F : Nat) (hF : ks.length = F) (i : Nat) (hi : i < len) (j : Nat) (k : FS) (hj : ks[j]? = some k) (h0 : 0 < j) :
    ∃ v, k.fits w v ∧ ∀ w', Below w.heap.size w w' → w'.cell? ⟨(x.add (i * F)).block, (x.add (i * F)).off + j, none⟩ = some v := by
  obtain ⟨v, h1, h2⟩ := hx i hi j k hj
  rw [hF] at h1
  exact ⟨v, h2, fun w' hb => by rw [← add_field x _ j h0]; exact (hb.cell (cell_block_lt h1)).trans h1⟩
theorem mixs_first {ks : List FS} {x : Addr} {len : Nat} (hx : ∀ i, i < len → ∀ j k, ks[j]? = some k → ∃ v, w.cell? (x.add (i * ks.length + j)) = some v ∧ k.fits w v) (F : Nat) (hF : ks.length = F) (i : Nat) (hi : i < len) (k : FS) (hj : ks[0]? = some k) :
    ∃ v, k.fits w v ∧ ∀ w', Below w.heap.size w w' → w'.cell? (x.add (i * F)) = some v := by
  obtain ⟨v, h1, h2⟩ := hx i hi 0 k hj
  rw [hF] at h1
  exact ⟨v, h2, fun w' hb => (hb.cell (cell_block_lt h1)).trans h1⟩
end
end Go.Proofs.Ytdpgpnjjonhdhaa.St
