/- A law whose walk makes new memory alone: what it must leave is left. No condition but those written in the statement. -/
import Derived.Test.YtfcgkjbifnhjjaaGreatDoorRows
import Derived.WalkKit
import Derived.ProofKit
import Derived.ChangeSame
import Derived.Below
import Derived.Deep.Slices
import Derived.Deep.Fields
namespace Go.Proofs.YtfcgkjbifnhjjaaGreatDoor.St
open Go.RowKit Go.ChangeShapes Go.WideShapes Go.ChangeAt Go.Deep
variable {H : Type} {enc : TypeId × Value → H} {P : Program}

theorem post_of_below {f : Func} {s : ChangeSpec} {apart fresh handsOn again : Bool} {W W' : World} {args : Array Value} {v : Value} {ds gs : List (DataW H)} {before pa pv : List MemPlace}
    (hW : DataW.Whole enc P f.params.toList s.vars apart W args.toList ds gs before)
    (hres : ∀ (b : Nat) (sp : Nat → Bool) (hd : Bool), DataW.TrodAll enc P W' b sp hd f.resultTypes.toList (v.resultList f.resultTypes.size) (s.fn H (ds ++ gs)).results [])
    (hargs : ∀ sp : Nat → Bool, (∀ p ∈ before, sp p.block = true) → DataW.TrodAll enc P W' 0 sp true f.params.toList args.toList (s.fn H (ds ++ gs)).args pa)
    (hvars : ∀ sp : Nat → Bool, (∀ p ∈ before, sp p.block = true) → DataW.TrodVars enc P W' sp s.vars (s.fn H (ds ++ gs)).vars pv)
    (hps : before = pa ++ pv) (hb : Below W.heap.size W W')
    (hok : ∀ (j : Nat) (t : TypeId) (r : Value), f.resultTypes[j]? = some t → (v.resultList f.resultTypes.size)[j]? = some r → Value.okWide P W' .any 0 t r) :
    s.post enc P f apart fresh handsOn again W args v W' := by
  have hold : ∀ p ∈ before, (fun b => decide (b < W.heap.size)) p.block = true := fun p hp => by simpa using hW.lt p hp
  have hlt := hW.lt
  refine ⟨ds, gs, before, [], pa, pv, hW, hres _ _ _, hargs _ hold, hvars _ hold, World.keptBut_mono (fun p hp => ⟨hp, ?_⟩) (hb.frame (· ∈ before)), fun _ => ?_⟩
  · rw [hps, List.mem_append] at hp
    exact Or.inr hp
  · obtain ⟨_, _, _, _, _, hz, hn⟩ := hW
    refine ⟨hok, _, _, ([] ++ pa) ++ pv, ⟨[] ++ pa, pv, trodAll_append (hargs _ (fun _ _ => rfl)) (hres _ _ _), hvars _ (fun _ _ => rfl), rfl, ?_, ?_⟩, ?_⟩
    · intro b off hp
      have hp' : MemPlace.cell b off ∈ before := by rw [hps]; simpa using hp
      rw [hb.frozen (p := ⟨b, off, none⟩) (hlt _ hp')]
      exact hz b off hp'
    · intro ha
      have := hn ha
      rw [hps] at this
      simpa using this
    · intro p hp _
      rw [hps]
      simpa using hp

section
variable {w : World} {base : Nat} {spare : Nat → Bool} {held : Bool}
/-- What a walk is told of a slice of structs of F numbers: it is nil, or it leads to a row of len times F cells. -/
def IsRows (F : Nat) (w : World) (a : Option Addr) (len cap : Nat) (z : Nat → Nat → Int) : Prop :=
  (a = none ∧ len = 0 ∧ cap = 0) ∨
  ∃ x, a = some x ∧ len ≤ cap ∧ cap ≤ maxLen ∧ ∀ i, i < len → ∀ j, j < F → w.cell? (x.add (i * F + j)) = some (.int .i64 (z i j)) ∧ (Lit.int .i64 (z i j)).wf = true

theorem open_rows {t e : TypeId} {fs : Array Field} {fuel : Nat} {a : Option Addr} {len cap : Nat} {x : DataW H × List MemPlace} (ht : P.underlying t = some (.slice e)) (he : P.underlying e = some (.struct fs))
    (hone : oneCellFields P fs = true) (hC : P.cellsOf e = fs.size) (hint : ∀ (j : Nat) (f : Field), fs[j]? = some f → P.underlying f.type = some (.int .i64))
    (h : DataW.trod enc P w 0 (fun _ => true) held fuel t [.slice a len cap] = some x) : ∃ z, IsRows fs.size w a len cap z := by
  rcases open_slice ht h with ⟨hcs, _⟩ | ⟨x, l, c, m, n, D, Pl, hcs, _, hl, hm, hmm, _, hi⟩
  · simp at hcs
    obtain ⟨rfl, rfl, rfl⟩ := hcs
    exact ⟨fun _ _ => 0, .inl ⟨rfl, rfl, rfl⟩⟩
  · simp at hcs
    obtain ⟨rfl, rfl, rfl⟩ := hcs
    have hm2 : m = cap := by simpa using hmm
    have key : ∀ i j, ∃ n : Int, i < len → j < fs.size → w.cell? (x.add (i * fs.size + j)) = some (.int .i64 n) ∧ (Lit.int .i64 n).wf = true := by
      intro i j
      by_cases hij : i < len ∧ j < fs.size
      · obtain ⟨cs, hc, htr⟩ := hi i (by omega)
        rw [hC] at hc
        obtain ⟨ys, n', _, _, _, _, hf⟩ := DataW.trod_struct he htr
        obtain ⟨_, hcl, hat⟩ := World.cells?_some hc
        have hg := hf j fs[j] (by simp [hij.2])
        obtain ⟨ho, hk⟩ := hone_of hone j fs[j] (by simp [hij.2])
        rw [ho, hk] at hg
        have hd : (cs.drop j).take 1 = [cs[j]'(by omega)] := by rw [List.drop_eq_getElem_cons (by omega)]; rfl
        rw [hd] at hg
        obtain ⟨y, hy⟩ : ∃ y, ys[j]? = some y := ⟨ys[j]'(by omega), by simp⟩
        rw [hy] at hg
        obtain ⟨a', e0, _, wa⟩ := DataW.trod_int (hint j fs[j] (by simp [hij.2])) hg
        refine ⟨a', fun _ _ => ⟨?_, wa⟩⟩
        have hcell := hat j hij.2
        simp only [List.cons.injEq, and_true] at e0
        rw [← add_add, hcell, ← e0]
        simp
      · exact ⟨0, fun a b => absurd ⟨a, b⟩ hij⟩
    exact ⟨fun i j => Classical.choose (key i j), .inr ⟨x, rfl, hl, hm, fun i h1 j h2 => Classical.choose_spec (key i j) h1 h2⟩⟩

/-- What a walk is told of a slice of numbers: it is nil, or it leads to a row of cap cells, the first len its elements. -/
def IsRow (k : IntKind) (w : World) (a : Option Addr) (len cap : Nat) (zs : List Int) : Prop :=
  (a = none ∧ len = 0 ∧ cap = 0 ∧ zs = []) ∨
  ∃ x, a = some x ∧ len ≤ cap ∧ cap ≤ maxLen ∧ zs.length = cap ∧ (∀ i, i < zs.length → w.cell? (x.add i) = some (.int k (zs.getD i 0))) ∧ ∀ n ∈ zs, (Lit.int k n).wf = true

theorem open_row {t e : TypeId} {k : IntKind} {fuel : Nat} {a : Option Addr} {len cap : Nat} {x : DataW H × List MemPlace} (ht : P.underlying t = some (.slice e)) (he : P.underlying e = some (.int k))
    (hC : P.cellsOf e = 1) (h : DataW.trod enc P w 0 (fun _ => true) held fuel t [.slice a len cap] = some x) : ∃ zs, IsRow k w a len cap zs := by
  rcases open_ints ht he hC h with ⟨hcs, _⟩ | ⟨x, l, c, zs, hcs, _, hl, hm, hz, _, hcell, hwz⟩
  · simp at hcs
    obtain ⟨rfl, rfl, rfl⟩ := hcs
    exact ⟨[], .inl ⟨rfl, rfl, rfl, rfl⟩⟩
  · simp at hcs
    obtain ⟨rfl, rfl, rfl⟩ := hcs
    exact ⟨zs, .inr ⟨_, rfl, hl, hm, by simpa using hz, hcell, hwz⟩⟩

/-- Each field of a struct is an int. -/
def isInt64 : Option TypeDesc → Bool
  | some (.int .i64) => true
  | _ => false
theorem isInt64_eq {o : Option TypeDesc} (h : isInt64 o = true) : o = some (.int .i64) := by
  unfold isInt64 at h
  split at h
  · rfl
  · cases h
theorem ints_of {fs : Array Field} (h : fs.all (fun f => isInt64 (P.underlying f.type)) = true) : ∀ (j : Nat) (f : Field), fs[j]? = some f → P.underlying f.type = some (.int .i64) := by
  intro j f hj
  rw [Array.all_eq_true] at h
  obtain ⟨hj1, hj2⟩ := Array.getElem?_eq_some_iff.1 hj
  have := h j hj1
  rw [hj2] at this
  exact isInt64_eq this

theorem cell_block_lt {w : World} {a : Addr} {v : Value} (h : w.cell? a = some v) : a.block < w.heap.size := by
  by_cases hb : a.block < w.heap.size
  · exact hb
  · unfold World.cell? at h
    rw [Array.getElem?_eq_none (by omega)] at h
    simp at h
theorem rows_below {F : Nat} {w w' : World} {x : Addr} {len : Nat} {z : Nat → Nat → Int} (hx : ∀ i, i < len → ∀ j, j < F → w.cell? (x.add (i * F + j)) = some (.int .i64 (z i j)) ∧ (Lit.int .i64 (z i j)).wf = true) (hb : Below w.heap.size w w') :
    ∀ i, i < len → ∀ j, j < F → w'.cell? (x.add (i * F + j)) = some (.int .i64 (z i j)) :=
  fun i hi j hj => (hb.cell (cell_block_lt (hx i hi j hj).1)).trans (hx i hi j hj).1

theorem add_field (x : Addr) (a j : Nat) (hj : 0 < j) : x.add (a + j) = ⟨(x.add a).block, (x.add a).off + j, none⟩ := by
  unfold Addr.add
  rw [if_neg (by omega)]
  by_cases ha : a = 0
  · rw [if_pos ha]; subst ha; simp
  · rw [if_neg ha]; simp; omega
theorem rows_field {F : Nat} {w w' : World} {x : Addr} {len : Nat} {z : Nat → Nat → Int} (hx : ∀ i, i < len → ∀ j, j < F → w.cell? (x.add (i * F + j)) = some (.int .i64 (z i j)) ∧ (Lit.int .i64 (z i j)).wf = true) (hb : Below w.heap.size w w') (i : Nat) (hi : i < len) :
    (∀ j, 0 < j → j < F → w'.cell? ⟨(x.add (i * F)).block, (x.add (i * F)).off + j, none⟩ = some (.int .i64 (z i j))) ∧ (0 < F → w'.cell? (x.add (i * F)) = some (.int .i64 (z i 0))) :=
  ⟨fun j h0 hj => by rw [← add_field x _ j h0]; exact rows_below hx hb i hi j hj, fun h0 => rows_below hx hb i hi 0 h0⟩
end

end Go.Proofs.YtfcgkjbifnhjjaaGreatDoor.St
