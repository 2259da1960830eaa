/- What a walk is told of a slice whose elements are of one cell, or structs of such fields, of whatever kinds. The bits of a number, as the code asks them and sets them; plain. The contracts of the document's inodes (key, Is, Alloc) over its own view. The contract of the document's own change of an inode. The contracts of the document's own Read and Write of an inode. What cloisterlaw10.InodePlays keeps of a view's state: objects alone, texts of bounded size. The contracts of the document's own pipes (pkey, IsPipe, NewPipe) over its own view. The contract of the document's own read of a pipe. The contracts of the document's own write of a pipe, and of its ends. What cloisterlaw13.PipePlays keeps of a view's state. The walk of cloisterlaw13.PipePlays. No condition but those written in each statement. -/
import Derived.Test.YtfcgkjbifnhjjaaLawKit
import Derived.Test.YtfcgkjbifnhjjaaInoC
import Derived.Test.YtfcgkjbifnhjjaaRefW
import Derived.Test.YtfcgkjbifnhjjaaM1
import Derived.Deep.Cut
import Derived.Test.YtfcgkjbifnhjjaaInoD
import Derived.Test.YtfcgkjbifnhjjaaInoF
import Derived.Test.YtfcgkjbifnhjjaaM6
import Derived.Test.YtfcgkjbifnhjjaaMP
import Derived.Test.YtfcgkjbifnhjjaaText
import Derived.Test.YtfcgkjbifnhjjaaWithin
import Derived.Deep.CutBlock
namespace Go.Proofs.Ytfcgkjbifnhjjaa.St
open Go.RowKit Go.ChangeShapes Go.WideShapes Go.ChangeAt Go.Deep
variable {H : Type} {enc : TypeId × Value → H} {P : Program}

/-- The kind of a cell. -/
inductive FK where
  | int (k : IntKind)
  | bool
  | str
/-- A value of that kind. -/
def FK.fits : FK → Value → Prop
  | .int k, v => ∃ n, v = .int k n ∧ (Lit.int k n).wf = true
  | .bool, v => ∃ b, v = .bool b
  | .str, v => ∃ s : ByteArray, v = .string s ∧ s.size ≤ maxLen
def FK.is : FK → Option TypeDesc → Bool
  | .int k, some (.int l) => k == l
  | .bool, some .bool => true
  | .str, some .string => true
  | _, _ => false

/-- A slice: it is nil, or it leads to a row of len times as many cells as there are kinds. -/
def IsMix (ks : List FK) (w : World) (a : Option Addr) (len cap : Nat) : Prop :=
  (a = none ∧ len = 0 ∧ cap = 0) ∨
  ∃ x, a = some x ∧ len ≤ cap ∧ cap ≤ maxLen ∧ ∀ i, i < len → ∀ j k, ks[j]? = some k → ∃ v, w.cell? (x.add (i * ks.length + j)) = some v ∧ k.fits v

theorem fits_of {w : World} {base : Nat} {spare : Nat → Bool} {held : Bool} {fuel : Nat} {t : TypeId} {v : Value} {k : FK} {y : DataW H × List MemPlace} (hk : k.is (P.underlying t) = true) (h : DataW.trod enc P w base spare held fuel t [v] = some y) : k.fits v := by
  generalize ho : P.underlying t = o at hk
  cases k with
  | int k =>
    unfold FK.is at hk
    split at hk
    · rename_i l e1
      cases e1
      have : k = l := by simpa using hk
      subst this
      obtain ⟨n, e, _, wa⟩ := DataW.trod_int ho h
      exact ⟨n, by simpa using e, wa⟩
    · rename_i e1; cases e1
    · rename_i e1; cases e1
    · cases hk
  | bool =>
    unfold FK.is at hk
    split at hk
    · rename_i e1; cases e1
    · obtain ⟨b, e, _⟩ := DataW.trod_bool ho h
      exact ⟨b, by simpa using e⟩
    · rename_i e1; cases e1
    · cases hk
  | str =>
    unfold FK.is at hk
    split at hk
    · rename_i e1; cases e1
    · rename_i e1; cases e1
    · obtain ⟨s, e, _, ws⟩ := DataW.trod_string ho h
      exact ⟨s, by simpa using e, ws⟩
    · cases hk

/-- The fields are of these kinds. -/
def kindsB (P : Program) (ks : List FK) (fs : Array Field) : Bool :=
  ks.length == fs.size && (List.range fs.size).all fun j => match ks[j]?, fs[j]? with
    | some k, some f => k.is (P.underlying f.type)
    | _, _ => false
theorem kinds_at {ks : List FK} {fs : Array Field} (h : kindsB P ks fs = true) : ks.length = fs.size ∧ ∀ (j : Nat) (k : FK) (f : Field), ks[j]? = some k → fs[j]? = some f → k.is (P.underlying f.type) = true := by
  unfold kindsB at h
  rw [Bool.and_eq_true] at h
  refine ⟨by simpa using h.1, fun j k f h1 h2 => ?_⟩
  obtain ⟨hj, _⟩ := Array.getElem?_eq_some_iff.1 h2
  have := List.all_eq_true.1 h.2 j (by simpa using hj)
  rw [h1, h2] at this
  exact this

section
variable {w : World} {held : Bool}
theorem open_mix {ks : List FK} {t e : TypeId} {fs : Array Field} {fuel : Nat} {a : Option Addr} {len cap : Nat} {x : DataW H × List MemPlace} (ht : P.underlying t = some (.slice e)) (he : P.underlying e = some (.struct fs))
    (hone : oneCellFields P fs = true) (hC : P.cellsOf e = fs.size) (hks : kindsB P ks fs = true)
    (h : DataW.trod enc P w 0 (fun _ => true) held fuel t [.slice a len cap] = some x) : IsMix ks w a len cap := by
  rcases open_slice ht h with ⟨hcs, _⟩ | ⟨x, l, c, m, n, D, Pl, hcs, _, hl, hm, hmm, _, hi⟩
  · simp at hcs
    obtain ⟨rfl, rfl, rfl⟩ := hcs
    exact .inl ⟨rfl, rfl, rfl⟩
  · simp at hcs
    obtain ⟨rfl, rfl, rfl⟩ := hcs
    have hm2 : m = cap := by simpa using hmm
    obtain ⟨hlen, hkk⟩ := kinds_at hks
    refine .inr ⟨x, rfl, hl, hm, fun i h1 j k hk => ?_⟩
    have hj : j < fs.size := by
      obtain ⟨q, _⟩ := List.getElem?_eq_some_iff.1 hk
      omega
    obtain ⟨cs, hc, htr⟩ := hi i (by omega)
    rw [hC] at hc
    obtain ⟨ys, n', _, _, _, _, hf⟩ := DataW.trod_struct he htr
    obtain ⟨_, hcl, hat⟩ := World.cells?_some hc
    have hg := hf j fs[j] (by simp [hj])
    obtain ⟨ho, hk1⟩ := hone_of hone j fs[j] (by simp [hj])
    rw [ho, hk1] at hg
    have hd : (cs.drop j).take 1 = [cs[j]'(by omega)] := by rw [List.drop_eq_getElem_cons (by omega)]; rfl
    rw [hd] at hg
    obtain ⟨y, hy⟩ : ∃ y, ys[j]? = some y := ⟨ys[j]'(by omega), by simp⟩
    rw [hy] at hg
    have hfit := fits_of (hkk j k fs[j] hk (by simp [hj])) hg
    refine ⟨_, ?_, hfit⟩
    have hcell := hat j hj
    rw [hlen, ← add_add, hcell]
    simp

theorem open_mix1 {k : FK} {t e : TypeId} {fuel : Nat} {a : Option Addr} {len cap : Nat} {x : DataW H × List MemPlace} (ht : P.underlying t = some (.slice e)) (hC : P.cellsOf e = 1) (hk : k.is (P.underlying e) = true)
    (h : DataW.trod enc P w 0 (fun _ => true) held fuel t [.slice a len cap] = some x) : IsMix [k] w a len cap := by
  rcases open_slice ht h with ⟨hcs, _⟩ | ⟨x, l, c, m, n, D, Pl, hcs, _, hl, hm, hmm, _, hi⟩
  · simp at hcs
    obtain ⟨rfl, rfl, rfl⟩ := hcs
    exact .inl ⟨rfl, rfl, rfl⟩
  · simp at hcs
    obtain ⟨rfl, rfl, rfl⟩ := hcs
    have hm2 : m = cap := by simpa using hmm
    refine .inr ⟨x, rfl, hl, hm, fun i h1 j k' hk' => ?_⟩
    obtain rfl : j = 0 := by
      obtain ⟨q, _⟩ := List.getElem?_eq_some_iff.1 hk'
      simp at q; omega
    obtain rfl : k = k' := by simpa using hk'
    obtain ⟨cs, hc, htr⟩ := hi i (by omega)
    rw [hC] at hc
    obtain ⟨_, hcl, hat⟩ := World.cells?_some hc
    obtain ⟨v, rfl⟩ : ∃ v, cs = [v] := by
      match cs, hcl with
      | [v], _ => exact ⟨v, rfl⟩
    refine ⟨v, ?_, fits_of hk htr⟩
    have hcell := hat 0 (by omega)
    rw [show i * [k].length + 0 = i * 1 + 0 by simp, ← add_add, hcell]
    rfl

/-- An element's fields, in a world that keeps what was there. -/
theorem mix_field {ks : List FK} {x : Addr} {len : Nat} (hx : ∀ i, i < len → ∀ j k, ks[j]? = some k → ∃ v, w.cell? (x.add (i * ks.length + j)) = some v ∧ k.fits v) (F : Nat) (hF : ks.length = F) (i : Nat) (hi : i < len) (j : Nat) (k : FK) (hj : ks[j]? = some k) (h0 : 0 < j) :
    ∃ v, k.fits v ∧ ∀ w', Below w.heap.size w w' → w'.cell? ⟨(x.add (i * F)).block, (x.add (i * F)).off + j, none⟩ = some v := by
  obtain ⟨v, h1, h2⟩ := hx i hi j k hj
  rw [hF] at h1
  exact ⟨v, h2, fun w' hb => by rw [← add_field x _ j h0]; exact (hb.cell (cell_block_lt h1)).trans h1⟩
theorem mix_first {ks : List FK} {x : Addr} {len : Nat} (hx : ∀ i, i < len → ∀ j k, ks[j]? = some k → ∃ v, w.cell? (x.add (i * ks.length + j)) = some v ∧ k.fits v) (F : Nat) (hF : ks.length = F) (i : Nat) (hi : i < len) (k : FK) (hj : ks[0]? = some k) :
    ∃ v, k.fits v ∧ ∀ w', Below w.heap.size w w' → w'.cell? (x.add (i * F)) = some v := by
  obtain ⟨v, h1, h2⟩ := hx i hi 0 k hj
  rw [hF] at h1
  exact ⟨v, h2, fun w' hb => (hb.cell (cell_block_lt h1)).trans h1⟩
end
end Go.Proofs.Ytfcgkjbifnhjjaa.St

namespace Go.Proofs.Ytfcgkjbifnhjjaa.St
open Go.RowKit
set_option linter.unusedVariables false

/-! ### Bits of a number -/
/-- A bit of a number. -/
def bitB (x : Int) (j : Nat) : Bool := (BitVec.ofInt 64 x).getLsbD j
theorem wrap_i64 (x : Int) : IntKind.i64.wrap x = wrap64 x := by unfold IntKind.wrap wrap64; simp [IntKind.bits, IntKind.signed]; split <;> omega
theorem ofInt_wrap (v : BitVec 64) : BitVec.ofInt 64 (IntKind.i64.wrap (v.toNat : Int)) = v := by
  rw [wrap_i64]
  apply BitVec.eq_of_toNat_eq
  rw [BitVec.toNat_ofInt]
  have := v.isLt
  unfold wrap64; omega
theorem ofInt_wrap64 (x : Int) : BitVec.ofInt 64 (wrap64 x) = BitVec.ofInt 64 x := by
  apply BitVec.eq_of_toNat_eq
  rw [BitVec.toNat_ofInt, BitVec.toNat_ofInt]
  unfold wrap64; omega
theorem ofInt_pow (j : Nat) : BitVec.ofInt 64 (2 ^ j) = BitVec.twoPow 64 j := by
  apply BitVec.eq_of_toNat_eq
  rw [show ((2 : Int) ^ j) = ((2 ^ j : Nat) : Int) by simp, BitVec.ofInt_natCast, BitVec.toNat_ofNat, BitVec.toNat_twoPow]
theorem bit_mark (x : Int) (i j : Nat) (hj : j < 64) : bitB (markI x i) j = (bitB x j || decide (i = j)) := by
  unfold bitB markI
  show (BitVec.ofInt 64 (IntKind.i64.wrap (((BitVec.ofInt 64 x) ||| (BitVec.ofInt 64 (wrap64 (2 ^ i)))).toNat : Int))).getLsbD j = _
  rw [ofInt_wrap, BitVec.getLsbD_or, ofInt_wrap64, ofInt_pow, BitVec.getLsbD_twoPow]
  by_cases e : i = j
  · subst e; simp [hj]
  · simp [e]
theorem div_bit (x : Int) (j : Nat) (hj : j < 64) : ((BitVec.ofInt 64 x).getLsbD j = true) ↔ (x / 2 ^ j) % 2 = 1 := by
  rw [← BitVec.testBit_toNat, BitVec.toNat_ofInt, Nat.testBit_eq_decide_div_mod_eq]
  have h2 : ((2 ^ 64 : Nat) : Int) = 2 ^ j * 2 ^ (64 - j) := by
    rw [← Int.pow_add, show j + (64 - j) = 64 by omega]; rfl
  have hp : (0 : Int) < 2 ^ j := Int.pow_pos (by decide)
  have hx : x = x % ((2 ^ 64 : Nat) : Int) + ((2 ^ 64 : Nat) : Int) * (x / ((2 ^ 64 : Nat) : Int)) := (Int.emod_add_mul_ediv x _).symm
  have hn : 0 ≤ x % ((2 ^ 64 : Nat) : Int) := Int.emod_nonneg _ (by decide)
  generalize hq : x / ((2 ^ 64 : Nat) : Int) = q at hx
  obtain ⟨r, hr⟩ := Int.eq_ofNat_of_zero_le hn
  rw [hr] at hx ⊢
  have e : x / 2 ^ j = (r : Int) / 2 ^ j + 2 ^ (64 - j) * q := by
    rw [hx, h2, Int.mul_assoc, Int.add_mul_ediv_left _ _ (by omega)]
  have e2 : (2 : Int) ^ (64 - j) = 2 * 2 ^ (63 - j) := by
    rw [show 64 - j = (63 - j) + 1 by omega, Int.pow_succ, Int.mul_comm]
  have e3 : ((r : Int) / 2 ^ j) = ((r / 2 ^ j : Nat) : Int) := by simp
  rw [e, e2, e3, Int.mul_assoc, Int.add_mul_emod_self_left, Int.toNat_natCast]
  simp; omega
theorem used_bit (x : Int) (j : Nat) (hj : j < 64) : usedI x j = bitB x j := by
  have h := div_bit x j hj
  have hb : usedI x j = true ↔ (x / 2 ^ j) % 2 = 1 := by
    unfold usedI
    show (IntKind.i64.wrap (((BitVec.ofInt 64 (x / 2 ^ j)) &&& (BitVec.ofInt 64 1)).toNat : Int) == 1) = true ↔ _
    have h1 : (BitVec.ofInt 64 1).toNat = 2 ^ 1 - 1 := by decide
    rw [BitVec.toNat_and, h1, Nat.and_two_pow_sub_one_eq_mod, BitVec.toNat_ofInt, wrap_i64, beq_iff_eq]
    generalize x / 2 ^ j = y
    unfold wrap64; omega
  unfold bitB
  rw [Bool.eq_iff_iff, h, hb]
theorem used_mark (x : Int) (i j : Nat) (hj : j < 64) : usedI (markI x i) j = (usedI x j || decide (i = j)) := by
  rw [used_bit _ _ hj, used_bit _ _ hj, bit_mark x i j hj]
theorem used_zero (j : Nat) (hj : j < 64) : usedI 0 j = false := by
  rw [used_bit _ _ hj]; unfold bitB; simp
/-- The least bit that isn't set. -/
theorem free_is (x : Int) (m : Nat) (hm : m + 1 < 16) (h1 : ∀ j, 1 ≤ j → j ≤ m → usedI x j = true) (h2 : usedI x (m + 1) = false) : freeN x 15 = m + 1 := by
  have key : ∀ k, k ≤ m → freeN x 15 = freeN x (16 - (k + 1)) := by
    intro k
    induction k with
    | zero => intro _; rfl
    | succ k ih =>
      intro hk
      rw [ih (by omega), freeN_past x (k + 1) (by omega) (h1 (k + 1) (by omega) hk)]
  rw [key m (Nat.le_refl _), freeN_hit x (m + 1) hm h2]
end Go.Proofs.Ytfcgkjbifnhjjaa.St

namespace Go.Proofs.Ytfcgkjbifnhjjaa.St
open Go.RowKit
set_option linter.unusedVariables false
attribute [local go_sem] blk_alloc_at blk_alloc_past blk_drew blk_drewN blk_setB_same blk_setB_other blk_setRow_other setRow_alloc_at setRow_alloc_past setRow_drewN setRow_drew setB_size setB_cell setB_frozen setB_alloc_past setB_drewN setB_drew run_loadV loadOr_cells run_storeV storeOr_cells cells_size ones_cells cells_0 cells_1 cells_2 cells_16 cells_g0 cells_g1 cells_g2 cells_g16 cells_set0 cells_set1 cells_set2 cells_text
attribute [local go_sem ↓] execOp_loadV execOp_storeV
theorem and_zero (y : Int) : (bits BinOp.and IntKind.i64 y 1 == 0) = !(bits BinOp.and IntKind.i64 y 1 == 1) := by
  have h1 : (BitVec.ofInt 64 1).toNat = 2 ^ 1 - 1 := by decide
  have e : bits BinOp.and IntKind.i64 y 1 = wrap64 (((BitVec.ofInt 64 y).toNat % 2 : Nat) : Int) := by
    show IntKind.i64.wrap (((BitVec.ofInt 64 y) &&& (BitVec.ofInt 64 1)).toNat : Int) = _
    rw [BitVec.toNat_and, h1, Nat.and_two_pow_sub_one_eq_mod, wrap_i64]
  rw [e]
  have : (BitVec.ofInt 64 y).toNat % 2 = 0 ∨ (BitVec.ofInt 64 y).toNat % 2 = 1 := by omega
  have w0 : wrap64 ((0 : Nat) : Int) = 0 := by unfold wrap64; omega
  have w1 : wrap64 ((1 : Nat) : Int) = 1 := by unfold wrap64; omega
  rcases this with q | q
  · rw [q, w0]; rfl
  · rw [q, w1]; rfl
attribute [local irreducible] Int.lt Int.le
/-- A value's numbers. -/
def Val.ns (x : Val) : Array Value :=
  #[.int .i64 (x.n 0), .int .i64 (x.n 1), .int .i64 (x.n 2), .int .i64 (x.n 3), .int .i64 (x.n 4), .int .i64 (x.n 5), .int .i64 (x.n 6), .int .i64 (x.n 7),
    .int .i64 (x.n 8), .int .i64 (x.n 9), .int .i64 (x.n 10), .int .i64 (x.n 11), .int .i64 (x.n 12), .int .i64 (x.n 13), .int .i64 (x.n 14), .int .i64 (x.n 15)]
theorem run_field0 (x : Val) (w : World) : (Instr.field 47 (.agg x.cells) 0).run Try.prog w = .ok (.agg x.ns) w := by kernel_rfl
theorem run_field1 (x : Val) (w : World) : (Instr.field 47 (.agg x.cells) 1).run Try.prog w = .ok (.string x.s) w := by kernel_rfl
theorem run_index0 (x : Val) (w : World) : (Instr.index 45 (.agg x.ns) (.int .i64 0)).run Try.prog w = .ok (.int .i64 (x.n 0)) w := by kernel_rfl
attribute [local go_sem] run_field0 run_field1 run_index0
theorem rikey_any (i : Int) (w : World) :
    Calls Try.prog 47 #[.int .i64 i] w fun e w' => e = .returned (keyV 10 i) ∧ Below w.heap.size w w' := by
  go_enter Try.func47, Try.ntmps47
  go_wp2_with fail
  exact bodyPost_key (b := w.heap.size) rfl rfl rfl (heap_alloc_new _ _) rfl ⟨rfl, (Below.refl _ _).alloc (Nat.le_refl _) _⟩
theorem RViewAt.off {B : Nat} {W W' : World} {R : RLay} {st : VSt} (h : RViewAt W R st) (hT : Turn (fun j => B ≤ j) W W') (lt : R.q < B ∧ R.d < B ∧ R.s < B ∧ R.r < B ∧ R.m < B) : RViewAt W' R st :=
  h.keep hT (fun i q => by omega)
set_option maxRecDepth 100000 in
set_option maxHeartbeats 1000000 in
theorem ris_any (R : RLay) (st : VSt) (i : Int) (w : World) (hV : RViewAt w R st) :
    Calls Try.prog 17 #[.pointer (some ⟨R.q, 0, none⟩), .int .i64 i] w fun e w' => e = .returned (.bool (iHas st i)) ∧ RViewAt w' R (iSaw st i) ∧ Turn (· = R.r) w w' := by
  unfold iHas iSaw
  by_cases h : i < 1 ∨ 16 ≤ i
  · rw [if_pos h, if_pos h]
    have hh : decide (1 ≤ i) = false ∨ decide (1 ≤ i) = true ∧ decide (i < 16) = false := by simp; omega
    rcases hh with h1 | ⟨h1, h2⟩
    all_goals
      go_enter Try.func17, Try.ntmps17
      go_wp2_with fail
      go_ret
      exact ⟨rfl, hV, Turn.refl _ _⟩
  · rw [if_neg h, if_neg h]
    have h1 : decide (1 ≤ i) = true := by simp; omega
    have h2 : decide (i < 16) = true := by simp; omega
    have lt := hV.lts
    go_enter Try.func17, Try.ntmps17
    go_wp2_with fail
    refine (rikey_any i _).mono ?_; rintro e w1 ⟨rfl, t1⟩
    have hv1 := hV.below t1
    go_wp2_with fail
    refine (rvget_any R st 10 i (by decide) _ hv1).mono ?_; rintro e w2 ⟨rfl, hv2, t2⟩
    generalize hg : st.get 10 i = x at *
    go_wp2_with fail
    go_ret
    exact ⟨by rw [hg]; rfl, hv2, (Turn.of_below t1 _).trans t2⟩
theorem rmaps {R : RLay} {W W' : World} (h : Turn (· = R.r) W W') : Turn (fun k => k = R.r ∨ k = R.m) W W' := h.mono fun _ _ => Or.inl
theorem rmaps' {R : RLay} {W W' : World} (h : Turn (· = R.m) W W') : Turn (fun k => k = R.r ∨ k = R.m) W W' := h.mono fun _ _ => Or.inr
theorem rvput_at {R : RLay} {st : VSt} {k n : Int} {x : Val} (hk : k ≤ 9223372036854775807) {w : World} (hV : RViewAt w R st) :
    Calls Try.prog 46 #[.pointer (some ⟨R.q, 0, none⟩), keyV k n, .agg x.cells] w fun e w' => (∃ v, e = .returned v) ∧ RViewAt w' R (st.put k n x) ∧ Turn (fun k => k = R.r ∨ k = R.m) w w' :=
  (rvput_any R st k n x hk w hV).mono fun e w' ⟨a, b, c⟩ => ⟨a, b, rmaps' c⟩
set_option maxRecDepth 100000 in
set_option maxHeartbeats 4000000 in
theorem ralloc_any (R : RLay) (st : VSt) (t : Int) (w : World) (hV : RViewAt w R st) :
    Calls Try.prog 7 #[.pointer (some ⟨R.q, 0, none⟩), .int .i64 t] w fun e w' => e = .returned (.tuple #[.int .i64 (iGot st), .bool (decide (iFree st < 16))]) ∧ RViewAt w' R (iAlloc st t) ∧ Turn (fun k => k = R.r ∨ k = R.m) w w' := by
  have lt := hV.lts
  have hz := zero_val
  go_enter Try.func7, Try.ntmps7
  go_upto_region 2 with fail
  have t1 : Below w.heap.size w (w.alloc (.cells #[.int .i64 9, .int .i64 0] 51)) := (Below.refl _ _).alloc (Nat.le_refl _) _
  have hK1 : K2 w.heap.size 9 0 (w.alloc (.cells #[.int .i64 9, .int .i64 0] 51)) := ⟨cell_of_row _ _ 0 _ _ _ (heap_alloc_new _ _), cell_of_row _ _ 1 _ _ _ (heap_alloc_new _ _)⟩
  have hv1 := hV.below t1
  have T1 : Turn (fun k => k = R.r ∨ k = R.m) w (w.alloc (.cells #[.int .i64 9, .int .i64 0] 51)) := Turn.of_below t1 _
  clear t1 hV
  generalize w.alloc (.cells #[.int .i64 9, .int .i64 0] 51) = W1 at *
  have hKm : w.heap.size ≠ R.r ∧ w.heap.size ≠ R.m := by omega
  clear lt
  generalize w.heap.size = K at *
  have lt := hv1.lts
  obtain ⟨k0, k1⟩ := hK1
  go_wp2_with fail
  refine (rvget_any R st 9 0 (by decide) _ hv1).mono ?_; rintro e w2 ⟨rfl, hv2, t2⟩
  have hK2 := turn_cells_two ⟨k0, k1⟩ t2 hKm.1
  have T2 := T1.trans (rmaps t2)
  generalize hx : st.get 9 0 = x at *
  clear hv1 t2 k0 k1 T1
  go_upto_region 3 with fail
  have b3 : Below w2.heap.size w2 (w2.alloc (Obj.cells x.cells 47)) := (Below.refl _ _).alloc (Nat.le_refl _) _
  have hK3 := cells_two hK2 b3
  have hv3 := hv2.below b3
  have r3 : blk (w2.alloc (Obj.cells x.cells 47)) w2.heap.size = some (.cells x.cells 47 (0, 0)) := blk_alloc_at _ _ _ rfl
  have T3 := T2.trans (Turn.of_below b3 _)
  have hl3 := hv2.lts
  have hB0 := T2.size
  have hKB : K < w2.heap.size := cell_block_lt hK2.1
  clear hK2 hv2 T2 b3
  generalize (w2.alloc (Obj.cells x.cells 47)) = W3 at *
  generalize w2.heap.size = B at *
  have f3 := frozen_blk r3 0
  have c0 := cell_of_row _ _ 0 _ _ _ r3
  rw [cells_0] at c0
  go_wp2_with fail
  go_loop [8] (fun i => ∃ j : Nat, 1 ≤ j ∧ j ≤ 16 ∧ i = .int .i64 (j : Int) ∧ iFree st = freeN (x.n 0) (16 - j)) (fun i => 16 - (intOf i).toNat)
  case atStart => exact ⟨1, by omega, by omega, rfl, by unfold iFree; rw [hx]⟩
  case round =>
    obtain ⟨j, j1, j2, rfl, hfree⟩ := hrel
    have j0 : (0 : Int) ≤ (j : Int) := by omega
    by_cases hlt : j < 16
    · have hj : (j : Int) < 16 := by omega
      cases hbit : (bits BinOp.and IntKind.i64 (x.n 0 / 2 ^ j) 1 == 0)
      · have hu : usedI (x.n 0) j = true := by
          have := and_zero (x.n 0 / 2 ^ j)
          rw [hbit] at this
          unfold usedI
          cases h : (bits BinOp.and IntKind.i64 (x.n 0 / 2 ^ j) 1 == 1)
          · rw [h] at this; cases this
          · rfl
        go_wp2_with fail
        go_round
        case rel => exact ⟨j + 1, by omega, by omega, by go_num, hfree.trans (freeN_past _ _ hlt hu)⟩
        case measure => simp [intOf]; omega
      · have hu : usedI (x.n 0) j = false := by
          have := and_zero (x.n 0 / 2 ^ j)
          rw [hbit] at this
          unfold usedI
          cases h : (bits BinOp.and IntKind.i64 (x.n 0 / 2 ^ j) 1 == 1)
          · rfl
          · rw [h] at this; cases this
        have hf : iFree st = j := hfree.trans (freeN_hit _ _ hlt hu)
        go_upto_region 7 with fail
        go_region
        rw [markI_def]
        have r4 := blk_setCell_same r3 0 (Value.int IntKind.i64 (markI (x.n 0) j))
        rw [cells_set0] at r4
        have tl : Turn (fun k => B ≤ k) W3 (W3.setCell ⟨B, 0, none⟩ (Value.int IntKind.i64 (markI (x.n 0) j))).drew := ((Turn.refl _ W3).setCell (p := ⟨B, 0, none⟩) (Or.inl (show B ≤ B from Nat.le_refl _)) _).drew
        have hv4 := hv3.off tl hl3
        have hK4 := turn_cells_two hK3 tl (by omega)
        have T4 := T3.offS tl hB0
        have r4d : blk (W3.setCell ⟨B, 0, none⟩ (Value.int IntKind.i64 (markI (x.n 0) j))).drew B = some (.cells (x.set 0 (markI (x.n 0) j)).cells 47 (0, 0)) := by rw [blk_drew]; exact r4
        clear tl r4 r3 f3 c0 hv3 hK3 T3
        generalize (W3.setCell ⟨B, 0, none⟩ (Value.int IntKind.i64 (markI (x.n 0) j))).drew = W4 at *
        generalize hy : x.set 0 (markI (x.n 0) j) = y at *
        obtain ⟨k0, k1⟩ := hK4
        go_wp2_with fail
        refine (rvput_at (R := R) (st := st.saw 9 0) (k := 9) (n := 0) (x := y) (by decide) hv4).mono ?_; rintro e w5 ⟨⟨v5, rfl⟩, hv5, t5⟩
        have T5 := T4.trans t5
        have hB5 := T5.size
        have hl5 := hv5.lts
        clear hv4 t5 k0 k1 r4d T4
        go_upto_region 11 with fail
        have b7 : Below w5.heap.size w5 (w5.alloc (Obj.cells (Val.zero.set 0 t).cells 47)).drew := below_drewN ((Below.refl w5.heap.size w5).alloc (Nat.le_refl _) (Obj.cells (Val.zero.set 0 t).cells 47)) 1
        have r7 : blk (w5.alloc (Obj.cells (Val.zero.set 0 t).cells 47)).drew w5.heap.size = some (.cells (Val.zero.set 0 t).cells 47 (0, 0)) := by rw [blk_drew]; exact heap_alloc_new _ _
        have hv7 := hv5.below b7
        have T7 := T5.trans (Turn.of_below b7 _)
        clear b7 hv5 T5
        refine wp_region_held_drew (S := fun W => blk W w5.heap.size = some (.cells (Val.zero.set 0 t).cells 47 (0, 0))) (by kernel_rfl) r7 (fun hHeld => ?_)
        clear r7
        generalize (w5.alloc (Obj.cells (Val.zero.set 0 t).cells 47)).drew = W7 at *
        generalize w5.heap.size = D at *
        refine reg_take (i := 0) (v := ?_) rfl rfl (by kernel_rfl) (by kernel_rfl) (by kernel_rfl) (fun _ _ _ h => h) (by assumption) (by rfl) ?_ ?_
        rotate_left 1
        · (intro w hSw; (try dsimp only at hSw); go_simp; try with_reducible rfl)
        try simp only [List.setIfInBounds_toArray, List.set_cons_zero, List.set_cons_succ]
        refine reg_take (i := 1) (v := ?_) rfl rfl (by kernel_rfl) (by kernel_rfl) (by kernel_rfl) (fun _ _ _ h => h) (by assumption) (by rfl) ?_ ?_
        rotate_left 1
        · (intro w hSw; (try dsimp only at hSw); go_simp; try with_reducible rfl)
        try simp only [List.setIfInBounds_toArray, List.set_cons_zero, List.set_cons_succ]
        refine reg_take (i := 3) (v := (.agg (Val.zero.set 0 t).cells)) rfl rfl (by kernel_rfl) (by kernel_rfl) (by kernel_rfl) (fun _ _ _ h => h) (by assumption) (by rfl) (fun W hW => loadV_blk hW) ?_
        try simp only [List.setIfInBounds_toArray, List.set_cons_zero, List.set_cons_succ]
        refine reg_step (i := 2) (by kernel_rfl) rfl (by rfl) (fun KC hKC => ?_)
        go_simp
        refine (rikey_any j _).mono ?_; rintro e w8 ⟨rfl, t8⟩
        have r8 := (t8.block D (lt_of_heap hHeld)).trans hHeld
        have hv8 := hv7.below t8
        have T8 := T7.trans (Turn.of_below t8 _)
        clear hHeld hv7 T7 t8
        refine hKC.out _ _ ?_ (fun hHeld => ?_)
        · exact r8
        clear hKC KC
        refine reg_step (i := 4) (by kernel_rfl) rfl (by rfl) (fun KC hKC => ?_)
        go_simp
        refine (rvput_at (R := R) (st := (st.saw 9 0).put 9 0 y) (k := 10) (n := j) (x := Val.zero.set 0 t) (by decide) hv8).mono ?_; rintro e w9 ⟨⟨v9, rfl⟩, hv9, t9⟩
        have T9 := T8.trans t9
        have r9 : blk w9 D = some (.cells (Val.zero.set 0 t).cells 47 (0, 0)) := by
          refine blk_of_turn t9 r8 (fun e => ?_)
          obtain ⟨_, _, q1, _⟩ := hv8.cr
          obtain ⟨_, _, q2, _⟩ := hv8.cm
          have n1 := cells_ne_map r8 q1
          have n2 := cells_ne_map r8 q2
          omega
        clear T8 t9 hHeld r8 hv8
        refine hKC.out _ _ ?_ (fun hHeld => ?_)
        · exact r9
        clear hKC KC
        refine wpAnyH_done (by kernel_rfl) ?_ _
        clear hHeld r9
        go_wp2_with fail
        go_ret2
        exact ⟨by unfold iGot; rw [hf, if_pos hlt]; simp [hlt], by unfold iAlloc iTake; rw [hf, if_pos hlt, hx, hy]; exact hv9, T9⟩
    · obtain rfl : j = 16 := by omega
      go_wp2_with fail
      go_ret2
      have hf : iFree st = 16 := hfree
      refine ⟨by unfold iGot; rw [hf]; rfl, by unfold iAlloc; rw [hf]; exact hv3, T3⟩
end Go.Proofs.Ytfcgkjbifnhjjaa.St

namespace Go.Proofs.Ytfcgkjbifnhjjaa.St
open Go.RowKit
set_option linter.unusedVariables false
attribute [local go_sem] blk_alloc_at blk_alloc_past blk_drew blk_drewN blk_setB_same blk_setB_other blk_setRow_other setRow_alloc_at setRow_alloc_past setRow_drewN setRow_drew setB_size setB_cell setB_frozen setB_alloc_past setB_drewN setB_drew run_loadV loadOr_cells run_storeV storeOr_cells cells_size ones_cells cells_0 cells_1 cells_2 cells_16 cells_g0 cells_g1 cells_g2 cells_g16 cells_set0 cells_set1 cells_set2 cells_text
attribute [local go_sem ↓] execOp_loadV execOp_storeV
attribute [local irreducible] Int.lt Int.le
theorem saw_twice (st : VSt) (k n : Int) : (st.saw k n).saw k n = st.saw k n := by
  unfold VSt.saw
  by_cases h : placeI k n < 0
  · rw [if_pos h, if_pos h]
  · rw [if_neg h, if_neg h]
    unfold VSt.reads
    congr 1
    funext a b
    unfold updK
    by_cases e : a = k ∧ b = n <;> simp [e]
theorem get_saw' (st : VSt) (a b k n : Int) : (st.saw a b).get k n = st.get k n := by
  unfold VSt.saw
  split
  · rfl
  · rfl
/-- What is said of an inode that is there. -/
theorem has_val {st : VSt} {i : Int} (h : iHas st i = true) : iSaw st i = st.saw 10 i ∧ iVal st i = st.get 10 i := by
  have h1 := has_in h
  unfold iHas at h
  rw [if_neg (by omega)] at h
  refine ⟨by unfold iSaw; rw [if_neg (by omega)], ?_⟩
  unfold iVal iValIn
  rw [if_neg (by omega), if_neg (fun e => ?_)]
  rw [e] at h
  cases h
theorem rchange_no (R : RLay) (st : VSt) (i l h : Int) (hh : iHas st i = false) (w : World) (hV : RViewAt w R st) :
    Calls Try.prog 9 #[.pointer (some ⟨R.q, 0, none⟩), .int .i64 i, .int .i64 l, .int .i64 h] w fun e w' => e = .returned (.bool false) ∧ RViewAt w' R (iSaw st i) ∧ Turn (fun k => k = R.r ∨ k = R.m) w w' := by
  go_enter Try.func9, Try.ntmps9
  go_wp2_with fail
  refine (ris_any R st i _ hV).mono ?_; rintro e w1 ⟨rfl, hv1, t1⟩
  go_wp2_with fail
  go_ret
  exact ⟨rfl, hv1, rmaps t1⟩
set_option maxRecDepth 100000 in
set_option maxHeartbeats 4000000 in
theorem rchange_yes (R : RLay) (st : VSt) (i l h : Int) (hh : iHas st i = true) (w : World) (hV : RViewAt w R st) :
    Calls Try.prog 9 #[.pointer (some ⟨R.q, 0, none⟩), .int .i64 i, .int .i64 l, .int .i64 h] w fun e w' => e = .returned (.bool true) ∧ RViewAt w' R (iChange st i l h) ∧ Turn (fun k => k = R.r ∨ k = R.m) w w' := by
  have hz := zero_val
  obtain ⟨i1, i2⟩ := has_in hh
  obtain ⟨es, ev⟩ := has_val hh
  have HS := Lib.hid es
  have HV := Lib.hid ev
  clear es ev
  go_enter Try.func9, Try.ntmps9
  go_wp2_with fail
  refine (ris_any R st i _ hV).mono ?_; rintro e w1 ⟨rfl, hv1, t1⟩
  rw [HS.out] at hv1
  have T1 := rmaps t1
  clear t1 hV
  go_wp2_with fail
  refine (rikey_any i _).mono ?_; rintro e w2 ⟨rfl, t2⟩
  have hv2 := hv1.below t2
  have T2 := T1.trans (Turn.of_below t2 _)
  clear hv1 T1 t2
  go_wp2_with fail
  refine (rvget_any R _ 10 i (by decide) _ hv2).mono ?_; rintro e w3 ⟨rfl, hv3, t3⟩
  rw [saw_twice] at hv3
  rw [get_saw']
  have T3 := T2.trans (rmaps t3)
  generalize hx : st.get 10 i = x at *
  clear hv2 T2 t3
  go_upto_region 5 with fail
  have hch : iChange st i l h = if (iTurn x l h).n 1 ≤ 0 ∧ (iTurn x l h).n 2 ≤ 0 then (((st.saw 10 i).saw 9 0).put 9 0 (((st.saw 10 i).get 9 0).set 0 (unmarkI (((st.saw 10 i).get 9 0).n 0) i))).put 10 i Val.zero else (st.saw 10 i).put 10 i (iTurn x l h) := by
    unfold iChange
    rw [if_neg (by rw [hh]; decide), HS.out, HV.out]
  have HC := Lib.hid hch
  rw [show ((x.set 1 (wrap64 (x.n 1 + l))).set 2 (wrap64 (x.n 2 + h))) = iTurn x l h from rfl]
  clear hch
  generalize hy : iTurn x l h = y at *
  have b4 : Below w3.heap.size w3 (w3.alloc (Obj.cells y.cells 47)) := (Below.refl _ _).alloc (Nat.le_refl _) _
  have r4 : blk (w3.alloc (Obj.cells y.cells 47)) w3.heap.size = some (.cells y.cells 47 (0, 0)) := heap_alloc_new _ _
  have hv4 := hv3.below b4
  have T4 := T3.trans (Turn.of_below b4 _)
  have hl4 := hv3.lts
  have hB0 := T3.size
  clear hv3 b4 T3 hy
  generalize (w3.alloc (Obj.cells y.cells 47)) = W4 at *
  generalize w3.heap.size = B at *
  generalize st.saw 10 i = st1 at *
  have c1 := cell_of_row _ _ 1 _ _ _ r4
  have c2 := cell_of_row _ _ 2 _ _ _ r4
  rw [cells_1] at c1
  rw [cells_2] at c2
  by_cases gone : y.n 1 ≤ 0 ∧ y.n 2 ≤ 0
  · have hC : iChange st i l h = ((st1.saw 9 0).put 9 0 ((st1.get 9 0).set 0 (unmarkI ((st1.get 9 0).n 0) i))).put 10 i Val.zero := by rw [HC.out, if_pos gone]
    have HC2 := Lib.hid hC
    have g1 : decide (y.n 1 ≤ 0) = true := decide_eq_true gone.1
    have g2 : decide (y.n 2 ≤ 0) = true := decide_eq_true gone.2
    clear gone hC HC
    go_upto_region 8 with fail
    have t5 : Turn (fun k => B ≤ k) W4 ((W4.setRow B Val.zero.cells).alloc (.cells #[.int .i64 9, .int .i64 0] 51)) := ((Turn.refl _ W4).setRow (Or.inl (Nat.le_refl B)) _).alloc _
    have r5 : blk ((W4.setRow B Val.zero.cells).alloc (.cells #[.int .i64 9, .int .i64 0] 51)) B = some (.cells Val.zero.cells 47 (0, 0)) := by
      rw [blk_alloc_past _ _ _ (by have := lt_of_heap r4; simp; omega)]; exact setRow_heap _ _ _ _ _ _ r4
    have hs5 : (W4.setRow B Val.zero.cells).heap.size = W4.heap.size := by simp
    have k5 : K2 W4.heap.size 9 0 ((W4.setRow B Val.zero.cells).alloc (.cells #[.int .i64 9, .int .i64 0] 51)) := by
      rw [← hs5]; exact ⟨cell_of_row _ _ 0 _ _ _ (heap_alloc_new _ _), cell_of_row _ _ 1 _ _ _ (heap_alloc_new _ _)⟩
    have hv5 := hv4.off t5 hl4
    have T5 := T4.offS t5 hB0
    have hKB : B < W4.heap.size := lt_of_heap r4
    clear t5 r4 hs5 hv4 T4 c1 c2
    generalize (W4.setRow B Val.zero.cells).alloc (.cells #[.int .i64 9, .int .i64 0] 51) = W5 at *
    generalize W4.heap.size = K at *
    obtain ⟨k0, k1⟩ := k5
    go_wp2_with fail
    refine (rvget_any R st1 9 0 (by decide) _ hv5).mono ?_; rintro e w6 ⟨rfl, hv6, t6⟩
    have T6 := T5.trans (rmaps t6)
    have r6 := blk_of_turn t6 r5 (show ¬ B = R.r by omega)
    have k6 := turn_cells_two ⟨k0, k1⟩ t6 (show ¬ K = R.r by omega)
    have hl6 := hv6.lts
    have hK6 : K < w6.heap.size := cell_block_lt k6.1
    have hB6 := T6.size
    generalize hu : st1.get 9 0 = u at *
    clear hv5 T5 r5 k0 k1 t6
    go_upto_region 9 with fail
    have b7 : Below w6.heap.size w6 (w6.alloc (Obj.cells u.cells 47)) := (Below.refl _ _).alloc (Nat.le_refl _) _
    have q7 : blk (w6.alloc (Obj.cells u.cells 47)) w6.heap.size = some (.cells u.cells 47 (0, 0)) := heap_alloc_new _ _
    have r7 := (b7.block B (lt_of_heap r6)).trans r6
    have k7 := cells_two k6 b7
    have hv7 := hv6.below b7
    have T7 := T6.trans (Turn.of_below b7 _)
    clear b7 r6 k6 hv6 T6
    generalize w6.alloc (Obj.cells u.cells 47) = W7 at *
    generalize w6.heap.size = C at *
    have f7 := frozen_blk q7 0
    have c0 := cell_of_row _ _ 0 _ _ _ q7
    rw [cells_0] at c0
    go_region
    have eu : bits BinOp.andNot IntKind.i64 (u.n 0) (wrap64 (2 ^ i.toNat)) = unmarkI (u.n 0) i := by rw [unmarkI]
    rw [eu]
    have q8 := blk_setCell_same q7 0 (Value.int IntKind.i64 (unmarkI (u.n 0) i))
    rw [cells_set0] at q8
    have tl : Turn (· = C) W7 (W7.setCell ⟨C, 0, none⟩ (Value.int IntKind.i64 (unmarkI (u.n 0) i))).drew := ((Turn.refl (· = C) W7).setCell (p := ⟨C, 0, none⟩) (Or.inl (show C = C from rfl)) _).drew
    have hv8 := hv7.keep tl (fun i (e : i = C) => by omega)
    have k8 := turn_cells_two k7 tl (show ¬ K = C by omega)
    have r8 := blk_of_turn tl r7 (show ¬ B = C by omega)
    have T8 := T7.offS (tl.mono fun i _ (e : i = C) => (show B ≤ i by omega)) hB0
    have q8d : blk (W7.setCell ⟨C, 0, none⟩ (Value.int IntKind.i64 (unmarkI (u.n 0) i))).drew C = some (.cells (u.set 0 (unmarkI (u.n 0) i)).cells 47 (0, 0)) := by rw [blk_drew]; exact q8
    clear tl q8 q7 f7 c0 hv7 k7 r7 T7 eu
    generalize (W7.setCell ⟨C, 0, none⟩ (Value.int IntKind.i64 (unmarkI (u.n 0) i))).drew = W8 at *
    generalize hzz : u.set 0 (unmarkI (u.n 0) i) = z at *
    obtain ⟨k0, k1⟩ := k8
    go_wp2_with fail
    refine (rvput_at (R := R) (st := st1.saw 9 0) (k := 9) (n := 0) (x := z) (by decide) hv8).mono ?_; rintro e WA ⟨⟨vA, rfl⟩, hvA, tA⟩
    have TA := T8.trans tA
    have rA : blk WA B = some (.cells Val.zero.cells 47 (0, 0)) := blk_of_turn tA r8 (show ¬ (B = R.r ∨ B = R.m) by omega)
    clear hv8 T8 tA r8 k0 k1 q8d
    go_upto_region 11 with fail
    have b7 : Below WA.heap.size WA WA.drew := below_drewN (Below.refl _ WA) 1
    have r7 : blk WA.drew B = some (.cells Val.zero.cells 47 (0, 0)) := rA
    have hv7 := hvA.below b7
    have T7 := TA.trans (Turn.of_below b7 _)
    clear b7 hvA TA rA
    refine wp_region_held_drew (S := fun W => blk W B = some (.cells Val.zero.cells 47 (0, 0))) (by kernel_rfl) r7 (fun hHeld => ?_)
    clear r7
    refine reg_take (i := 0) (v := ?_) rfl rfl (by kernel_rfl) (by kernel_rfl) (by kernel_rfl) (fun _ _ _ h => h) (by assumption) (by rfl) ?_ ?_
    rotate_left 1
    · (intro w hSw; (try dsimp only at hSw); go_simp; try with_reducible rfl)
    try simp only [List.setIfInBounds_toArray, List.set_cons_zero, List.set_cons_succ]
    refine reg_take (i := 1) (v := ?_) rfl rfl (by kernel_rfl) (by kernel_rfl) (by kernel_rfl) (fun _ _ _ h => h) (by assumption) (by rfl) ?_ ?_
    rotate_left 1
    · (intro w hSw; (try dsimp only at hSw); go_simp; try with_reducible rfl)
    try simp only [List.setIfInBounds_toArray, List.set_cons_zero, List.set_cons_succ]
    refine reg_take (i := 3) (v := (.agg Val.zero.cells)) rfl rfl (by kernel_rfl) (by kernel_rfl) (by kernel_rfl) (fun _ _ _ h => h) (by assumption) (by rfl) (fun W hW => loadV_blk hW) ?_
    try simp only [List.setIfInBounds_toArray, List.set_cons_zero, List.set_cons_succ]
    refine reg_step (i := 2) (by kernel_rfl) rfl (by rfl) (fun KC hKC => ?_)
    go_simp
    refine (rikey_any i _).mono ?_; rintro e w8 ⟨rfl, t8⟩
    have r8 := (t8.block B (lt_of_heap hHeld)).trans hHeld
    have hv8 := hv7.below t8
    have T8 := T7.trans (Turn.of_below t8 _)
    clear hHeld hv7 T7 t8
    refine hKC.out _ _ ?_ (fun hHeld => ?_)
    · exact r8
    clear hKC KC
    refine reg_step (i := 4) (by kernel_rfl) rfl (by rfl) (fun KC hKC => ?_)
    go_simp
    refine (rvput_at (R := R) (st := (st1.saw 9 0).put 9 0 z) (k := 10) (n := i) (x := Val.zero) (by decide) hv8).mono ?_; rintro e w9 ⟨⟨v9, rfl⟩, hv9, t9⟩
    have T9 := T8.trans t9
    have r9 : blk w9 B = some (.cells Val.zero.cells 47 (0, 0)) := by
      refine blk_of_turn t9 r8 (fun e => ?_)
      obtain ⟨_, _, q1, _⟩ := hv8.cr
      obtain ⟨_, _, q2, _⟩ := hv8.cm
      have n1 := cells_ne_map r8 q1
      have n2 := cells_ne_map r8 q2
      omega
    clear T8 t9 hHeld r8 hv8
    refine hKC.out _ _ ?_ (fun hHeld => ?_)
    · exact r9
    clear hKC KC
    refine wpAnyH_done (by kernel_rfl) ?_ _
    clear hHeld r9
    go_wp2_with fail
    go_ret
    exact ⟨rfl, by rw [HC2.out]; exact hv9, T9⟩
  · have hC : iChange st i l h = st1.put 10 i y := by rw [HC.out, if_neg gone]
    have HC2 := Lib.hid hC
    clear hC HC
    have hg : decide (y.n 1 ≤ 0) = false ∨ decide (y.n 1 ≤ 0) = true ∧ decide (y.n 2 ≤ 0) = false := by
      by_cases h1 : y.n 1 ≤ 0
      · exact Or.inr ⟨decide_eq_true h1, decide_eq_false fun h2 => gone ⟨h1, h2⟩⟩
      · exact Or.inl (decide_eq_false h1)
    clear gone
    rcases hg with g1 | ⟨g1, g2⟩
    all_goals
      go_upto_region 11 with fail
      have b7 : Below W4.heap.size W4 W4.drew := below_drewN (Below.refl _ W4) 1
      have r7 : blk W4.drew B = some (.cells y.cells 47 (0, 0)) := r4
      have hv7 := hv4.below b7
      have T7 := T4.trans (Turn.of_below b7 _)
      clear b7 hv4 T4 r4
      refine wp_region_held_drew (S := fun W => blk W B = some (.cells y.cells 47 (0, 0))) (by kernel_rfl) r7 (fun hHeld => ?_)
      clear r7
      refine reg_take (i := 0) (v := ?_) rfl rfl (by kernel_rfl) (by kernel_rfl) (by kernel_rfl) (fun _ _ _ h => h) (by assumption) (by rfl) ?_ ?_
      rotate_left 1
      · (intro w hSw; (try dsimp only at hSw); go_simp; try with_reducible rfl)
      try simp only [List.setIfInBounds_toArray, List.set_cons_zero, List.set_cons_succ]
      refine reg_take (i := 1) (v := ?_) rfl rfl (by kernel_rfl) (by kernel_rfl) (by kernel_rfl) (fun _ _ _ h => h) (by assumption) (by rfl) ?_ ?_
      rotate_left 1
      · (intro w hSw; (try dsimp only at hSw); go_simp; try with_reducible rfl)
      try simp only [List.setIfInBounds_toArray, List.set_cons_zero, List.set_cons_succ]
      refine reg_take (i := 3) (v := (.agg y.cells)) rfl rfl (by kernel_rfl) (by kernel_rfl) (by kernel_rfl) (fun _ _ _ h => h) (by assumption) (by rfl) (fun W hW => loadV_blk hW) ?_
      try simp only [List.setIfInBounds_toArray, List.set_cons_zero, List.set_cons_succ]
      refine reg_step (i := 2) (by kernel_rfl) rfl (by rfl) (fun KC hKC => ?_)
      go_simp
      refine (rikey_any i _).mono ?_; rintro e w8 ⟨rfl, t8⟩
      have r8 := (t8.block B (lt_of_heap hHeld)).trans hHeld
      have hv8 := hv7.below t8
      have T8 := T7.trans (Turn.of_below t8 _)
      clear hHeld hv7 T7 t8
      refine hKC.out _ _ ?_ (fun hHeld => ?_)
      · exact r8
      clear hKC KC
      refine reg_step (i := 4) (by kernel_rfl) rfl (by rfl) (fun KC hKC => ?_)
      go_simp
      refine (rvput_at (R := R) (st := st1) (k := 10) (n := i) (x := y) (by decide) hv8).mono ?_; rintro e w9 ⟨⟨v9, rfl⟩, hv9, t9⟩
      have T9 := T8.trans t9
      have r9 : blk w9 B = some (.cells y.cells 47 (0, 0)) := by
        refine blk_of_turn t9 r8 (fun e => ?_)
        obtain ⟨_, _, q1, _⟩ := hv8.cr
        obtain ⟨_, _, q2, _⟩ := hv8.cm
        have n1 := cells_ne_map r8 q1
        have n2 := cells_ne_map r8 q2
        omega
      clear T8 t9 hHeld r8 hv8
      refine hKC.out _ _ ?_ (fun hHeld => ?_)
      · exact r9
      clear hKC KC
      refine wpAnyH_done (by kernel_rfl) ?_ _
      clear hHeld r9
      go_wp2_with fail
      go_ret
      exact ⟨rfl, by rw [HC2.out]; exact hv9, T9⟩
theorem rchange_any (R : RLay) (st : VSt) (i l h : Int) (w : World) (hV : RViewAt w R st) :
    Calls Try.prog 9 #[.pointer (some ⟨R.q, 0, none⟩), .int .i64 i, .int .i64 l, .int .i64 h] w fun e w' => e = .returned (.bool (iHas st i)) ∧ RViewAt w' R (iChange st i l h) ∧ Turn (fun k => k = R.r ∨ k = R.m) w w' := by
  cases hh : iHas st i with
  | false =>
    have e : iChange st i l h = iSaw st i := by unfold iChange; rw [if_pos hh]
    rw [e]; exact rchange_no R st i l h hh w hV
  | true => exact rchange_yes R st i l h hh w hV
end Go.Proofs.Ytfcgkjbifnhjjaa.St

namespace Go.Proofs.Ytfcgkjbifnhjjaa.St
open Go.RowKit
set_option linter.unusedVariables false
theorem val_none {st : VSt} {i : Int} (h : iHas st i = false) : iVal st i = Val.zero := by
  unfold iHas at h
  unfold iVal iValIn
  by_cases c : i < 1 ∨ 16 ≤ i
  · rw [if_pos c]
  · rw [if_neg c] at h ⊢
    rw [if_pos (by simpa using h)]
theorem read_none {st : VSt} {i off n : Int} (h : iHas st i = false) : iRead st i off n = ByteArray.empty := by
  unfold iRead
  rw [val_none h, if_pos]
  rw [show ((Val.zero.s.size : Nat) : Int) = 0 from rfl]
  omega
theorem ext_ext (s : ByteArray) (a m : Nat) (h : a + m ≤ s.size) : (s.extract a s.size).extract 0 m = s.extract a (a + m) := by
  apply ByteArray.ext
  simp only [ByteArray.data_extract, Array.extract_extract]
  congr 1
  omega
attribute [local go_sem] blk_alloc_at blk_alloc_past blk_drew blk_drewN blk_setB_same blk_setB_other blk_setRow_other setRow_alloc_at setRow_alloc_past setRow_drewN setRow_drew setB_size setB_cell setB_frozen setB_alloc_past setB_drewN setB_drew run_loadV loadOr_cells run_storeV storeOr_cells cells_size ones_cells cells_0 cells_1 cells_2 cells_16 cells_g0 cells_g1 cells_g2 cells_g16 cells_set0 cells_set1 cells_set2 cells_text run_field1
attribute [local go_sem ↓] execOp_loadV execOp_storeV
attribute [local irreducible] Int.lt Int.le
set_option maxRecDepth 100000 in
set_option maxHeartbeats 1000000 in
theorem rread_any (R : RLay) (st : VSt) (i off n : Int) (hs : ((iVal st i).s.size : Int) ≤ 140737488351232) (w : World) (hV : RViewAt w R st) :
    Calls Try.prog 11 #[.pointer (some ⟨R.q, 0, none⟩), .int .i64 i, .int .i64 off, .int .i64 n] w fun e w' => e = .returned (.string (iRead st i off n)) ∧ RViewAt w' R (iSaw st i) ∧ Turn (· = R.r) w w' := by
  have hz := zero_val
  cases hh : iHas st i with
  | false =>
    rw [read_none hh]
    go_enter Try.func11, Try.ntmps11
    go_wp2_with fail
    refine (ris_any R st i _ hV).mono ?_; rintro e w1 ⟨rfl, hv1, t1⟩
    go_wp2_with fail
    go_ret
    exact ⟨rfl, hv1, t1⟩
  | true =>
    obtain ⟨es, ev⟩ := has_val hh
    have HS := Lib.hid es
    have HV := Lib.hid ev
    by_cases a1 : off < 0 ∨ n ≤ 0
    · have e : iRead st i off n = ByteArray.empty := by
        unfold iRead; rw [if_pos (by omega)]
      rw [e]
      have hg : decide (off < 0) = true ∨ decide (off < 0) = false ∧ decide (n ≤ 0) = true := by simp; omega
      clear es ev e hs
      rcases hg with g1 | ⟨g1, g2⟩
      all_goals
        go_enter Try.func11, Try.ntmps11
        go_wp2_with fail
        refine (ris_any R st i _ hV).mono ?_; rintro e w1 ⟨rfl, hv1, t1⟩
        go_wp2_with fail
        go_ret
        exact ⟨rfl, hv1, t1⟩
    · have g1 : decide (off < 0) = false := decide_eq_false (by omega)
      have g2 : decide (n ≤ 0) = false := decide_eq_false (by omega)
      have hr : iRead st i off n = if ((st.get 10 i).s.size : Int) ≤ off then ByteArray.empty else (st.get 10 i).s.extract off.toNat (off + min n ((st.get 10 i).s.size - off)).toNat := by
        unfold iRead
        rw [ev]
        by_cases c : ((st.get 10 i).s.size : Int) ≤ off
        · rw [if_pos (Or.inr (Or.inl c)), if_pos c]
        · rw [if_neg (by omega), if_neg c]
      have HR := Lib.hid hr
      rw [ev] at hs
      have o0 : 0 ≤ off := by omega
      have n1 : 1 ≤ n := by omega
      clear es ev hr a1
      go_enter Try.func11, Try.ntmps11
      go_wp2_with fail
      refine (ris_any R st i _ hV).mono ?_; rintro e w1 ⟨rfl, hv1, t1⟩
      rw [HS.out] at hv1
      go_wp2_with fail
      refine (rikey_any i _).mono ?_; rintro e w2 ⟨rfl, t2⟩
      have hv2 := hv1.below t2
      have T2 := t1.trans (Turn.of_below t2 _)
      clear hv1 t1 t2 hV
      go_wp2_with fail
      refine (rvget_any R _ 10 i (by decide) _ hv2).mono ?_; rintro e w3 ⟨rfl, hv3, t3⟩
      rw [saw_twice] at hv3
      rw [get_saw']
      have T3 := T2.trans t3
      generalize hx : st.get 10 i = x at *
      clear hv2 T2 t3
      by_cases c : (x.s.size : Int) ≤ off
      · have g3 : decide ((x.s.size : Int) ≤ off) = true := decide_eq_true c
        go_wp2_with fail
        go_ret
        exact ⟨by rw [HR.out, if_pos c]; rfl, by rw [HS.out]; exact hv3, T3⟩
      · have g3 : decide ((x.s.size : Int) ≤ off) = false := decide_eq_false c
        have q1 : off ≤ (x.s.size : Int) := by omega
        have e1 : wrap64 ((x.s.size : Int) - off) = (x.s.size : Int) - off := wrap_small _ (by omega) (by omega)
        have m0 : 0 ≤ min n ((x.s.size : Int) - off) := by omega
        have m1 : min n ((x.s.size : Int) - off) ≤ (((x.s.extract off.toNat x.s.size).size : Nat) : Int) := by
          rw [ByteArray.size_extract]; omega
        go_wp2_with fail
        go_ret
        refine ⟨?_, by rw [HS.out]; exact hv3, T3⟩
        rw [HR.out, if_neg (by omega)]
        show Ending.returned (.string ((x.s.extract off.toNat x.s.size).extract 0 (min n ((x.s.size : Int) - off)).toNat)) = _
        rw [ext_ext _ _ _ (by omega), show off.toNat + (min n ((x.s.size : Int) - off)).toNat = (off + min n ((x.s.size : Int) - off)).toNat by omega]
/-- Where nothing may be written. -/
theorem rwrite_no (R : RLay) (st : VSt) (i off : Int) (d : ByteArray) (hm : ¬ iMay st i off) (w : World) (hV : RViewAt w R st) :
    Calls Try.prog 15 #[.pointer (some ⟨R.q, 0, none⟩), .int .i64 i, .int .i64 off, .string d] w fun e w' => e = .returned (.int .i64 (-1)) ∧ RViewAt w' R (iSaw st i) ∧ Turn (· = R.r) w w' := by
  have hz := zero_val
  cases hh : iHas st i with
  | false =>
    clear hm
    go_enter Try.func15, Try.ntmps15
    go_wp2_with fail
    refine (ris_any R st i _ hV).mono ?_; rintro e w1 ⟨rfl, hv1, t1⟩
    go_wp2_with fail
    go_ret
    exact ⟨rfl, hv1, t1⟩
  | true =>
    obtain ⟨es, ev⟩ := has_val hh
    have HS := Lib.hid es
    by_cases a1 : off < 0 ∨ 128 < off
    · have hg : decide (off < 0) = true ∨ decide (off < 0) = false ∧ decide (128 < off) = true := by simp; omega
      clear es ev hm a1
      rcases hg with g1 | ⟨g1, g2⟩
      all_goals
        go_enter Try.func15, Try.ntmps15
        go_wp2_with fail
        refine (ris_any R st i _ hV).mono ?_; rintro e w1 ⟨rfl, hv1, t1⟩
        go_wp2_with fail
        go_ret
        exact ⟨rfl, hv1, t1⟩
    · have g1 : decide (off < 0) = false := decide_eq_false (by omega)
      have g2 : decide (128 < off) = false := decide_eq_false (by omega)
      have g3 : ((st.get 10 i).s.size : Int) < off := by
        apply Decidable.byContradiction; intro c
        exact hm ⟨hh, by omega, by omega, by rw [ev]; omega⟩
      have g4 : decide (((st.get 10 i).s.size : Int) < off) = true := decide_eq_true g3
      clear es ev hm a1 g3
      go_enter Try.func15, Try.ntmps15
      go_wp2_with fail
      refine (ris_any R st i _ hV).mono ?_; rintro e w1 ⟨rfl, hv1, t1⟩
      rw [HS.out] at hv1
      go_wp2_with fail
      refine (rikey_any i _).mono ?_; rintro e w2 ⟨rfl, t2⟩
      have hv2 := hv1.below t2
      have T2 := t1.trans (Turn.of_below t2 _)
      clear hv1 t1 t2 hV
      go_wp2_with fail
      refine (rvget_any R _ 10 i (by decide) _ hv2).mono ?_; rintro e w3 ⟨rfl, hv3, t3⟩
      rw [saw_twice] at hv3
      rw [get_saw']
      have T3 := T2.trans t3
      generalize hx : st.get 10 i = x at *
      clear hv2 T2 t3
      have b4 : Below w3.heap.size w3 (w3.alloc (Obj.cells x.cells 47)) := (Below.refl _ _).alloc (Nat.le_refl _) _
      have hv4 := hv3.below b4
      have T4 := T3.trans (Turn.of_below b4 _)
      clear hv3 T3 b4
      go_wp2_with fail
      go_ret
      exact ⟨rfl, by rw [HS.out]; exact hv4, T4⟩
set_option maxRecDepth 100000 in
set_option maxHeartbeats 4000000 in
theorem rwrite_yes (R : RLay) (st : VSt) (i off : Int) (d : ByteArray) (hm : iMay st i off) (hs : ((iVal st i).s.size : Int) ≤ 140737488351232) (hd : (d.size : Int) ≤ 140737488351232) (w : World) (hV : RViewAt w R st) :
    Calls Try.prog 15 #[.pointer (some ⟨R.q, 0, none⟩), .int .i64 i, .int .i64 off, .string d] w fun e w' => e = .returned (.int .i64 ((iPart d off).size : Int)) ∧ RViewAt w' R ((iSaw st i).put 10 i ((iVal st i).text (iOver (iVal st i).s off (iPart d off)))) ∧ Turn (fun k => k = R.r ∨ k = R.m) w w' := by
  have hz := zero_val
  obtain ⟨hh, o1, o2, o3⟩ := hm
  obtain ⟨es, ev⟩ := has_val hh
  have HS := Lib.hid es
  have HV := Lib.hid ev
  rw [ev] at o3 hs
  have g1 : decide (off < 0) = false := decide_eq_false (by omega)
  have g2 : decide (128 < off) = false := decide_eq_false (by omega)
  have e1 : wrap64 (128 - off) = 128 - off := wrap_small _ (by omega) (by omega)
  clear es ev
  go_enter Try.func15, Try.ntmps15
  go_wp2_with fail
  refine (ris_any R st i _ hV).mono ?_; rintro e w1 ⟨rfl, hv1, t1⟩
  rw [HS.out] at hv1
  go_wp2_with fail
  refine (rikey_any i _).mono ?_; rintro e w2 ⟨rfl, t2⟩
  have hv2 := hv1.below t2
  have T2 := t1.trans (Turn.of_below t2 _)
  clear hv1 t1 t2 hV
  go_wp2_with fail
  refine (rvget_any R _ 10 i (by decide) _ hv2).mono ?_; rintro e w3 ⟨rfl, hv3, t3⟩
  rw [saw_twice] at hv3
  rw [get_saw']
  have T3 := rmaps (T2.trans t3)
  generalize hx : st.get 10 i = x at *
  clear hv2 T2 t3
  have g3 : decide ((x.s.size : Int) < off) = false := decide_eq_false (by omega)
  go_upto_region 6 with fail
  have b4 : Below w3.heap.size w3 (w3.alloc (Obj.cells x.cells 47)) := (Below.refl _ _).alloc (Nat.le_refl _) _
  have r4 : blk (w3.alloc (Obj.cells x.cells 47)) w3.heap.size = some (.cells x.cells 47 (0, 0)) := heap_alloc_new _ _
  have hv4 := hv3.below b4
  have T4 := T3.trans (Turn.of_below b4 _)
  have hB0 := T3.size
  have hl4 := hv3.lts
  clear hv3 T3 b4
  generalize (w3.alloc (Obj.cells x.cells 47)) = W4 at *
  generalize w3.heap.size = B at *
  have c16 := cell_of_row _ _ 16 _ _ _ r4
  rw [cells_16] at c16
  have f16 := frozen_blk r4 16
  have m0 : 0 ≤ min (d.size : Int) (128 - off) := by omega
  have m1 : min (d.size : Int) (128 - off) ≤ (d.size : Int) := by omega
  go_upto_region 7 with fail
  rw [show d.extract 0 (min (d.size : Int) (128 - off)).toNat = iPart d off from rfl]
  have hDs := part_size d off (by omega)
  have HD := Lib.hid hDs
  have hD8 : ((iPart d off).size : Int) ≤ 128 := by omega
  clear hDs m0 m1
  generalize hDD : iPart d off = D at *
  have e2 : wrap64 (off + (D.size : Int)) = off + (D.size : Int) := wrap_small _ (by omega) (by omega)
  have m2 : 0 ≤ min (x.s.size : Int) (off + (D.size : Int)) := by omega
  have m3 : min (x.s.size : Int) (off + (D.size : Int)) ≤ (x.s.size : Int) := by omega
  have z1 : (((x.s.extract 0 off.toNat).size : Nat) : Int) + (D.size : Int) ≤ 9223372036854775807 := by
    rw [ByteArray.size_extract]; omega
  have z2 : ((((x.s.extract 0 off.toNat) ++ D).size : Nat) : Int) + (((x.s.extract (min (x.s.size : Int) (off + (D.size : Int))).toNat x.s.size).size : Nat) : Int) ≤ 9223372036854775807 := by
    rw [ByteArray.size_append, ByteArray.size_extract, ByteArray.size_extract]; omega
  go_upto_region 8 with fail
  go_region
  rw [show x.s.extract 0 off.toNat ++ D ++ x.s.extract (min (x.s.size : Int) (off + (D.size : Int))).toNat x.s.size = iOver x.s off D from rfl]
  have r5 := blk_setCell_same r4 16 (Value.string (iOver x.s off D))
  rw [cells_text] at r5
  have tl : Turn (fun k => B ≤ k) W4 (W4.setCell ⟨B, 16, none⟩ (Value.string (iOver x.s off D))).drew := ((Turn.refl _ W4).setCell (p := ⟨B, 16, none⟩) (Or.inl (show B ≤ B from Nat.le_refl _)) _).drew
  have hv6 := hv4.off tl hl4
  have T6 := T4.offS tl hB0
  have r6 : blk (W4.setCell ⟨B, 16, none⟩ (Value.string (iOver x.s off D))).drew B = some (.cells (x.text (iOver x.s off D)).cells 47 (0, 0)) := by rw [blk_drew]; exact r5
  clear r5 tl hv4 T4 r4 c16 f16
  generalize (W4.setCell ⟨B, 16, none⟩ (Value.string (iOver x.s off D))).drew = W6 at *
  generalize hy : x.text (iOver x.s off D) = y at *
  go_upto_region 9 with fail
  have b7 : Below W6.heap.size W6 W6.drew := below_drewN (Below.refl _ W6) 1
  have r7 : blk W6.drew B = some (.cells y.cells 47 (0, 0)) := r6
  have hv7 := hv6.below b7
  have T7 := T6.trans (Turn.of_below b7 _)
  clear b7 hv6 T6 r6
  refine wp_region_held_drew (S := fun W => blk W B = some (.cells y.cells 47 (0, 0))) (by kernel_rfl) r7 (fun hHeld => ?_)
  clear r7
  refine reg_take (i := 0) (v := ?_) rfl rfl (by kernel_rfl) (by kernel_rfl) (by kernel_rfl) (fun _ _ _ h => h) (by assumption) (by rfl) ?_ ?_
  rotate_left 1
  · (intro w hSw; (try dsimp only at hSw); go_simp; try with_reducible rfl)
  try simp only [List.setIfInBounds_toArray, List.set_cons_zero, List.set_cons_succ]
  refine reg_take (i := 1) (v := ?_) rfl rfl (by kernel_rfl) (by kernel_rfl) (by kernel_rfl) (fun _ _ _ h => h) (by assumption) (by rfl) ?_ ?_
  rotate_left 1
  · (intro w hSw; (try dsimp only at hSw); go_simp; try with_reducible rfl)
  try simp only [List.setIfInBounds_toArray, List.set_cons_zero, List.set_cons_succ]
  refine reg_take (i := 3) (v := (.agg y.cells)) rfl rfl (by kernel_rfl) (by kernel_rfl) (by kernel_rfl) (fun _ _ _ h => h) (by assumption) (by rfl) (fun W hW => loadV_blk hW) ?_
  try simp only [List.setIfInBounds_toArray, List.set_cons_zero, List.set_cons_succ]
  refine reg_step (i := 2) (by kernel_rfl) rfl (by rfl) (fun KC hKC => ?_)
  go_simp
  refine (rikey_any i _).mono ?_; rintro e w8 ⟨rfl, t8⟩
  have r8 := (t8.block B (lt_of_heap hHeld)).trans hHeld
  have hv8 := hv7.below t8
  have T8 := T7.trans (Turn.of_below t8 _)
  clear hHeld hv7 T7 t8
  refine hKC.out _ _ ?_ (fun hHeld => ?_)
  · exact r8
  clear hKC KC
  refine reg_step (i := 4) (by kernel_rfl) rfl (by rfl) (fun KC hKC => ?_)
  go_simp
  refine (rvput_at (R := R) (st := st.saw 10 i) (k := 10) (n := i) (x := y) (by decide) hv8).mono ?_; rintro e w9 ⟨⟨v9, rfl⟩, hv9, t9⟩
  have T9 := T8.trans t9
  have r9 : blk w9 B = some (.cells y.cells 47 (0, 0)) := by
    refine blk_of_turn t9 r8 (fun e => ?_)
    obtain ⟨_, _, q1, _⟩ := hv8.cr
    obtain ⟨_, _, q2, _⟩ := hv8.cm
    have n1 := cells_ne_map r8 q1
    have n2 := cells_ne_map r8 q2
    omega
  clear T8 t9 hHeld r8 hv8
  refine hKC.out _ _ ?_ (fun hHeld => ?_)
  · exact r9
  clear hKC KC
  refine wpAnyH_done (by kernel_rfl) ?_ _
  clear hHeld r9
  go_wp2_with fail
  go_ret
  exact ⟨ret_int (by rw [hDD]), by rw [HS.out, HV.out, hDD, hy]; exact hv9, T9⟩
theorem rwrite_any (R : RLay) (st : VSt) (i off : Int) (d : ByteArray) (hs : ((iVal st i).s.size : Int) ≤ 140737488351232) (hd : (d.size : Int) ≤ 140737488351232) (w : World) (hV : RViewAt w R st) :
    Calls Try.prog 15 #[.pointer (some ⟨R.q, 0, none⟩), .int .i64 i, .int .i64 off, .string d] w fun e w' => e = .returned (.int .i64 (iWrote st i off d)) ∧ RViewAt w' R (iWrite st i off d) ∧ Turn (fun k => k = R.r ∨ k = R.m) w w' := by
  unfold iWrite iWrote
  by_cases h : iMay st i off
  · rw [if_pos h, if_pos h]; exact rwrite_yes R st i off d h hs hd w hV
  · rw [if_neg h, if_neg h]; exact (rwrite_no R st i off d h w hV).mono fun e w' ⟨a, b, c⟩ => ⟨a, b, rmaps c⟩
end Go.Proofs.Ytfcgkjbifnhjjaa.St

namespace Go.Proofs.Ytfcgkjbifnhjjaa.St
open Go.RowKit
set_option linter.unusedVariables false
/-- All texts are of bounded size. -/
structure Sz (st : VSt) : Prop where
  b : ∀ p, (st.base p).s.size ≤ 200
  w : ∀ k n x, st.wr k n = some x → x.s.size ≤ 200
theorem Sz.get {st : VSt} (h : Sz st) (k n : Int) : (st.get k n).s.size ≤ 200 := by
  unfold VSt.get
  split
  · simp [Val.zero]
  · cases hw : st.wr k n with
    | none => exact h.b _
    | some x => exact h.w k n x hw
theorem Sz.saw {st : VSt} (h : Sz st) (k n : Int) : Sz (st.saw k n) := by
  unfold VSt.saw
  split
  · exact h
  · exact ⟨h.b, h.w⟩
theorem Sz.put {st : VSt} (h : Sz st) (k n : Int) (x : Val) (hx : x.s.size ≤ 200) : Sz (st.put k n x) := by
  unfold VSt.put
  split
  · exact h
  · refine ⟨h.b, fun a b y hy => ?_⟩
    unfold updV at hy
    simp only at hy
    split at hy
    · injection hy with hy; subst hy; exact hx
    · exact h.w a b y hy
theorem Sz.fresh {base : Nat → Val} (h : ∀ p, (base p).s.size ≤ 200) : Sz (VSt.fresh base) := ⟨h, fun k n x hx => by cases hx⟩
theorem putAll_le : ∀ (l : List Wr) (base : Nat → Val), (∀ p, (base p).s.size ≤ 200) → (∀ y ∈ l, y.2.s.size ≤ 200) → ∀ p, (putAll base l p).s.size ≤ 200
  | [], base, h, _ => h
  | y :: l, base, h, hl => putAll_le l _ (putS_le h _ _ _ (hl y (List.mem_cons_self ..))) fun z hz => hl z (List.mem_cons_of_mem _ hz)
theorem Sz.all {st : VSt} (h : Sz st) : Sz (VSt.fresh (putAll st.base (wrL st))) := Sz.fresh (putAll_le _ _ h.b fun y hy => by
  unfold wrL at hy
  obtain ⟨p, hp, rfl⟩ := List.mem_map.1 hy
  have := ((plF_mem _ _).1 hp).2.2
  obtain ⟨x, hx⟩ := Option.isSome_iff_exists.1 this
  simp only [hx, Option.getD_some]
  exact h.w _ _ _ hx)
/-- What a state must be. -/
structure Ok (st : VSt) : Prop where
  v : VOk st
  z : Sz st
theorem Ok.saw {st : VSt} (h : Ok st) (k n : Int) : Ok (st.saw k n) := ⟨h.v.saw k n, h.z.saw k n⟩
theorem Ok.put {st : VSt} (h : Ok st) (k n : Int) (x : Val) (hx : x.s.size ≤ 200) : Ok (st.put k n x) := ⟨h.v.put k n x, h.z.put k n x hx⟩
theorem Ok.all {st : VSt} (h : Ok st) : Ok (VSt.fresh (putAll st.base (wrL st))) := ⟨VOk.fresh _, h.z.all⟩
theorem Ok.iSaw {st : VSt} (h : Ok st) (i : Int) : Ok (iSaw st i) := by
  unfold St.iSaw
  split
  · exact h
  · exact h.saw _ _
theorem zero_le : Val.zero.s.size ≤ 200 := by simp [Val.zero]
theorem set_le {x : Val} (h : x.s.size ≤ 200) (j : Nat) (v : Int) : (x.set j v).s.size ≤ 200 := h
theorem Ok.val {st : VSt} (h : Ok st) (i : Int) : (iVal st i).s.size ≤ 200 := by
  unfold iVal iValIn
  split
  · exact zero_le
  · split
    · exact zero_le
    · exact h.z.get _ _
theorem Ok.val' {st : VSt} (h : Ok st) (i : Int) : ((iVal st i).s.size : Int) ≤ 140737488351232 := by have := h.val i; omega
theorem Ok.iAlloc {st : VSt} (h : Ok st) (t : Int) : Ok (iAlloc st t) := by
  unfold St.iAlloc
  split
  · unfold iTake
    exact ((h.saw _ _).put _ _ _ (set_le (h.z.get _ _) _ _)).put _ _ _ (set_le zero_le _ _)
  · exact h.saw _ _
theorem Ok.iChange {st : VSt} (h : Ok st) (i l k : Int) : Ok (iChange st i l k) := by
  unfold St.iChange
  split
  · exact h.iSaw i
  · split
    · exact (((h.iSaw i).saw _ _).put _ _ _ (set_le ((h.iSaw i).z.get _ _) _ _)).put _ _ _ zero_le
    · exact (h.iSaw i).put _ _ _ (set_le (set_le (h.val i) _ _) _ _)
theorem Ok.iWrite {st : VSt} (h : Ok st) (i off : Int) (d : ByteArray) : Ok (iWrite st i off d) := by
  unfold St.iWrite
  split
  · rename_i hm
    obtain ⟨_, h0, h1, h2⟩ := hm
    refine (h.iSaw i).put _ _ _ ?_
    show (iOver (iVal st i).s off (iPart d off)).size ≤ 200
    have e1 := over_size (iVal st i).s (iPart d off) off h0 h2
    have e2 := part_size d off (by omega)
    have := h.val i
    omega
  · exact h.iSaw i
theorem iSaw_twice (st : VSt) (i : Int) : iSaw (iSaw st i) i = iSaw st i := by
  unfold iSaw
  split
  · rfl
  · exact saw_twice _ _ _
theorem iHas_saw (st : VSt) (i : Int) : iHas (iSaw st i) i = iHas st i := by
  unfold iHas
  rw [get_iSaw]
theorem iVal_saw (st : VSt) (i : Int) : iVal (iSaw st i) i = iVal st i := by
  unfold iVal
  rw [get_iSaw]
theorem has_ne (st : VSt) (i : Int) : ((iVal st i).n 0 != 0) = iHas st i := by
  unfold iVal iHas iValIn
  split
  · rfl
  · by_cases e : (st.get 10 i).n 0 = 0
    · rw [if_pos e, e]; rfl
    · rw [if_neg e]; rfl
end Go.Proofs.Ytfcgkjbifnhjjaa.St

namespace Go.Proofs.Ytfcgkjbifnhjjaa.St
open Go.RowKit
set_option linter.unusedVariables false
theorem mark_unmark (x : Int) (j : Nat) : markI (unmarkN x j) j = markI x j := by
  unfold markI unmarkN
  show IntKind.i64.wrap (((BitVec.ofInt 64 (IntKind.i64.wrap (((BitVec.ofInt 64 x) &&& ~~~ (BitVec.ofInt 64 (wrap64 (2 ^ j)))).toNat : Int))) ||| (BitVec.ofInt 64 (wrap64 (2 ^ j)))).toNat : Int) = IntKind.i64.wrap (((BitVec.ofInt 64 x) ||| (BitVec.ofInt 64 (wrap64 (2 ^ j)))).toNat : Int)
  rw [ofInt_wrap]
  congr 3
  apply BitVec.eq_of_getLsbD_eq
  intro i hi
  simp only [BitVec.getLsbD_or, BitVec.getLsbD_and, BitVec.getLsbD_not]
  cases (BitVec.ofInt 64 (wrap64 (2 ^ j))).getLsbD i <;> cases (BitVec.ofInt 64 x).getLsbD i <;> simp [hi]
theorem pMark_saw (st : VSt) (j : Nat) : pMark (st.saw 7 0) j true = (st.saw 7 0).put 7 0 ((st.get 7 0).set 0 (markI ((st.get 7 0).n 0) j)) := by
  unfold pMark
  rw [saw_twice, get_saw', pMarkI_on, mark_unmark]
attribute [local go_sem] blk_alloc_at blk_alloc_past blk_drew blk_drewN blk_setB_same blk_setB_other blk_setRow_other setRow_alloc_at setRow_alloc_past setRow_drewN setRow_drew setB_size setB_cell setB_frozen setB_alloc_past setB_drewN setB_drew run_loadV loadOr_cells run_storeV storeOr_cells cells_size ones_cells cells_0 cells_1 cells_2 cells_16 cells_g0 cells_g1 cells_g2 cells_g16 cells_set0 cells_set1 cells_set2 cells_text run_field0 run_field1 run_index0
attribute [local go_sem ↓] execOp_loadV execOp_storeV
attribute [local irreducible] Int.lt Int.le
theorem rpkey_any (i : Int) (w : World) :
    Calls Try.prog 64 #[.int .i64 i] w fun e w' => e = .returned (keyV 8 i) ∧ Below w.heap.size w w' := by
  go_enter Try.func64, Try.ntmps64
  go_wp2_with fail
  exact bodyPost_key (b := w.heap.size) rfl rfl rfl (heap_alloc_new _ _) rfl ⟨rfl, (Below.refl _ _).alloc (Nat.le_refl _) _⟩
set_option maxRecDepth 100000 in
set_option maxHeartbeats 1000000 in
theorem rispipe_any (R : RLay) (st : VSt) (q : Int) (w : World) (hV : RViewAt w R st) :
    Calls Try.prog 35 #[.pointer (some ⟨R.q, 0, none⟩), .int .i64 q] w fun e w' => e = .returned (.bool (pHas st q)) ∧ RViewAt w' R (pSaw st q) ∧ Turn (· = R.r) w w' := by
  unfold pHas pSaw
  by_cases h : q < 0 ∨ 4 ≤ q
  · rw [if_pos h, if_pos h]
    have hh : decide (0 ≤ q) = false ∨ decide (0 ≤ q) = true ∧ decide (q < 4) = false := by simp; omega
    rcases hh with h1 | ⟨h1, h2⟩
    all_goals
      go_enter Try.func35, Try.ntmps35
      go_wp2_with fail
      go_ret
      exact ⟨rfl, hV, Turn.refl _ _⟩
  · rw [if_neg h, if_neg h]
    obtain ⟨j, rfl⟩ := Int.eq_ofNat_of_zero_le (show 0 ≤ q by omega)
    have g1 : (0 : Int) ≤ (j : Int) := by omega
    have g2 : (j : Int) < 4 := by omega
    go_enter Try.func35, Try.ntmps35
    go_wp2_with fail
    refine (rvget_any R st 7 0 (by decide) _ hV).mono ?_; rintro e w2 ⟨rfl, hv2, t2⟩
    generalize hx : st.get 7 0 = x at *
    go_wp2_with fail
    go_ret
    exact ⟨by rw [hx, Int.toNat_natCast, ← usedI_def]; rfl, hv2, t2⟩
set_option maxRecDepth 100000 in
set_option maxHeartbeats 4000000 in
theorem rnewpipe_any (R : RLay) (st : VSt) (w : World) (hV : RViewAt w R st) :
    Calls Try.prog 27 #[.pointer (some ⟨R.q, 0, none⟩)] w fun e w' => e = .returned (.tuple #[.int .i64 (pGot st), .bool (decide (pFree st < 4))]) ∧ RViewAt w' R (pAlloc st) ∧ Turn (fun k => k = R.r ∨ k = R.m) w w' := by
  have lt := hV.lts
  have hz := zero_val
  go_enter Try.func27, Try.ntmps27
  go_upto_region 2 with fail
  have t1 : Below w.heap.size w (w.alloc (.cells #[.int .i64 7, .int .i64 0] 51)) := (Below.refl _ _).alloc (Nat.le_refl _) _
  have hK1 : K2 w.heap.size 7 0 (w.alloc (.cells #[.int .i64 7, .int .i64 0] 51)) := ⟨cell_of_row _ _ 0 _ _ _ (heap_alloc_new _ _), cell_of_row _ _ 1 _ _ _ (heap_alloc_new _ _)⟩
  have hv1 := hV.below t1
  have T1 : Turn (fun k => k = R.r ∨ k = R.m) w (w.alloc (.cells #[.int .i64 7, .int .i64 0] 51)) := Turn.of_below t1 _
  clear t1 hV
  generalize w.alloc (.cells #[.int .i64 7, .int .i64 0] 51) = W1 at *
  have hKm : w.heap.size ≠ R.r ∧ w.heap.size ≠ R.m := by omega
  clear lt
  generalize w.heap.size = K at *
  have lt := hv1.lts
  obtain ⟨k0, k1⟩ := hK1
  go_wp2_with fail
  refine (rvget_any R st 7 0 (by decide) _ hv1).mono ?_; rintro e w2 ⟨rfl, hv2, t2⟩
  have hK2 := turn_cells_two ⟨k0, k1⟩ t2 hKm.1
  have T2 := T1.trans (rmaps t2)
  generalize hx : st.get 7 0 = x at *
  clear hv1 t2 k0 k1 T1
  go_upto_region 3 with fail
  have b3 : Below w2.heap.size w2 (w2.alloc (Obj.cells x.cells 47)) := (Below.refl _ _).alloc (Nat.le_refl _) _
  have hK3 := cells_two hK2 b3
  have hv3 := hv2.below b3
  have r3 : blk (w2.alloc (Obj.cells x.cells 47)) w2.heap.size = some (.cells x.cells 47 (0, 0)) := blk_alloc_at _ _ _ rfl
  have T3 := T2.trans (Turn.of_below b3 _)
  have hl3 := hv2.lts
  have hB0 := T2.size
  have hKB : K < w2.heap.size := cell_block_lt hK2.1
  clear hK2 hv2 T2 b3
  generalize (w2.alloc (Obj.cells x.cells 47)) = W3 at *
  generalize w2.heap.size = B at *
  have f3 := frozen_blk r3 0
  have c0 := cell_of_row _ _ 0 _ _ _ r3
  rw [cells_0] at c0
  go_wp2_with fail
  go_loop [6] (fun i => ∃ j : Nat, j ≤ 4 ∧ i = .int .i64 (j : Int) ∧ pFree st = freeP (x.n 0) (4 - j)) (fun i => 4 - (intOf i).toNat)
  case atStart => exact ⟨0, by omega, rfl, by unfold pFree; rw [hx]⟩
  case round =>
    obtain ⟨j, j2, rfl, hfree⟩ := hrel
    have j0 : (0 : Int) ≤ (j : Int) := by omega
    by_cases hlt : j < 4
    · have hj : (j : Int) < 4 := by omega
      cases hbit : (bits BinOp.and IntKind.i64 (x.n 0 / 2 ^ j) 1 == 0)
      · have hu : usedI (x.n 0) j = true := by
          have := and_zero (x.n 0 / 2 ^ j)
          rw [hbit] at this
          unfold usedI
          cases h : (bits BinOp.and IntKind.i64 (x.n 0 / 2 ^ j) 1 == 1)
          · rw [h] at this; cases this
          · rfl
        go_wp2_with fail
        go_round
        case rel => exact ⟨j + 1, by omega, by go_num, hfree.trans (freeP_past _ _ hlt hu)⟩
        case measure => simp [intOf]; omega
      · have hu : usedI (x.n 0) j = false := by
          have := and_zero (x.n 0 / 2 ^ j)
          rw [hbit] at this
          unfold usedI
          cases h : (bits BinOp.and IntKind.i64 (x.n 0 / 2 ^ j) 1 == 1)
          · rfl
          · rw [h] at this; cases this
        have hf : pFree st = j := hfree.trans (freeP_hit _ _ hlt hu)
        go_upto_region 7 with fail
        go_region
        rw [markI_def]
        have r4 := blk_setCell_same r3 0 (Value.int IntKind.i64 (markI (x.n 0) j))
        rw [cells_set0] at r4
        have tl : Turn (fun k => B ≤ k) W3 (W3.setCell ⟨B, 0, none⟩ (Value.int IntKind.i64 (markI (x.n 0) j))).drew := ((Turn.refl _ W3).setCell (p := ⟨B, 0, none⟩) (Or.inl (show B ≤ B from Nat.le_refl _)) _).drew
        have hv4 := hv3.off tl hl3
        have hK4 := turn_cells_two hK3 tl (by omega)
        have T4 := T3.offS tl hB0
        have r4d : blk (W3.setCell ⟨B, 0, none⟩ (Value.int IntKind.i64 (markI (x.n 0) j))).drew B = some (.cells (x.set 0 (markI (x.n 0) j)).cells 47 (0, 0)) := by rw [blk_drew]; exact r4
        clear tl r4 r3 f3 c0 hv3 hK3 T3
        generalize (W3.setCell ⟨B, 0, none⟩ (Value.int IntKind.i64 (markI (x.n 0) j))).drew = W4 at *
        generalize hy : x.set 0 (markI (x.n 0) j) = y at *
        obtain ⟨k0, k1⟩ := hK4
        go_wp2_with fail
        refine (rvput_at (R := R) (st := st.saw 7 0) (k := 7) (n := 0) (x := y) (by decide) hv4).mono ?_; rintro e w5 ⟨⟨v5, rfl⟩, hv5, t5⟩
        have T5 := T4.trans t5
        have hB5 := T5.size
        have hl5 := hv5.lts
        clear hv4 t5 k0 k1 r4d T4
        go_upto_region 11 with fail
        rw [show (Val.zero.set 0 1).set 1 1 = pNew from rfl]
        have b7 : Below w5.heap.size w5 (w5.alloc (Obj.cells pNew.cells 47)).drew := below_drewN ((Below.refl w5.heap.size w5).alloc (Nat.le_refl _) (Obj.cells pNew.cells 47)) 1
        have r7 : blk (w5.alloc (Obj.cells pNew.cells 47)).drew w5.heap.size = some (.cells pNew.cells 47 (0, 0)) := by rw [blk_drew]; exact heap_alloc_new _ _
        have hv7 := hv5.below b7
        have T7 := T5.trans (Turn.of_below b7 _)
        clear b7 hv5 T5
        refine wp_region_held_drew (S := fun W => blk W w5.heap.size = some (.cells pNew.cells 47 (0, 0))) (by kernel_rfl) r7 (fun hHeld => ?_)
        clear r7
        generalize (w5.alloc (Obj.cells pNew.cells 47)).drew = W7 at *
        generalize w5.heap.size = D at *
        refine reg_take (i := 0) (v := ?_) rfl rfl (by kernel_rfl) (by kernel_rfl) (by kernel_rfl) (fun _ _ _ h => h) (by assumption) (by rfl) ?_ ?_
        rotate_left 1
        · (intro w hSw; (try dsimp only at hSw); go_simp; try with_reducible rfl)
        try simp only [List.setIfInBounds_toArray, List.set_cons_zero, List.set_cons_succ]
        refine reg_take (i := 1) (v := ?_) rfl rfl (by kernel_rfl) (by kernel_rfl) (by kernel_rfl) (fun _ _ _ h => h) (by assumption) (by rfl) ?_ ?_
        rotate_left 1
        · (intro w hSw; (try dsimp only at hSw); go_simp; try with_reducible rfl)
        try simp only [List.setIfInBounds_toArray, List.set_cons_zero, List.set_cons_succ]
        refine reg_take (i := 3) (v := (.agg pNew.cells)) rfl rfl (by kernel_rfl) (by kernel_rfl) (by kernel_rfl) (fun _ _ _ h => h) (by assumption) (by rfl) (fun W hW => loadV_blk hW) ?_
        try simp only [List.setIfInBounds_toArray, List.set_cons_zero, List.set_cons_succ]
        refine reg_step (i := 2) (by kernel_rfl) rfl (by rfl) (fun KC hKC => ?_)
        go_simp
        refine (rpkey_any j _).mono ?_; rintro e w8 ⟨rfl, t8⟩
        have r8 := (t8.block D (lt_of_heap hHeld)).trans hHeld
        have hv8 := hv7.below t8
        have T8 := T7.trans (Turn.of_below t8 _)
        clear hHeld hv7 T7 t8
        refine hKC.out _ _ ?_ (fun hHeld => ?_)
        · exact r8
        clear hKC KC
        refine reg_step (i := 4) (by kernel_rfl) rfl (by rfl) (fun KC hKC => ?_)
        go_simp
        refine (rvput_at (R := R) (st := (st.saw 7 0).put 7 0 y) (k := 8) (n := j) (x := pNew) (by decide) hv8).mono ?_; rintro e w9 ⟨⟨v9, rfl⟩, hv9, t9⟩
        have T9 := T8.trans t9
        have r9 : blk w9 D = some (.cells pNew.cells 47 (0, 0)) := by
          refine blk_of_turn t9 r8 (fun e => ?_)
          obtain ⟨_, _, q1, _⟩ := hv8.cr
          obtain ⟨_, _, q2, _⟩ := hv8.cm
          have n1 := cells_ne_map r8 q1
          have n2 := cells_ne_map r8 q2
          omega
        clear T8 t9 hHeld r8 hv8
        refine hKC.out _ _ ?_ (fun hHeld => ?_)
        · exact r9
        clear hKC KC
        refine wpAnyH_done (by kernel_rfl) ?_ _
        clear hHeld r9
        go_wp2_with fail
        go_ret2
        exact ⟨by unfold pGot; rw [hf, if_pos hlt]; simp [hlt], by unfold pAlloc; rw [hf, if_pos hlt, pMark_saw, hx, hy]; exact hv9, T9⟩
    · obtain rfl : j = 4 := by omega
      go_wp2_with fail
      go_ret2
      have hf : pFree st = 4 := hfree
      refine ⟨by unfold pGot; rw [hf]; rfl, by unfold pAlloc; rw [hf]; exact hv3, T3⟩
end Go.Proofs.Ytfcgkjbifnhjjaa.St

namespace Go.Proofs.Ytfcgkjbifnhjjaa.St
open Go.RowKit
set_option linter.unusedVariables false
attribute [local go_sem] blk_alloc_at blk_alloc_past blk_drew blk_drewN blk_setB_same blk_setB_other blk_setRow_other setRow_alloc_at setRow_alloc_past setRow_drewN setRow_drew setB_size setB_cell setB_frozen setB_alloc_past setB_drewN setB_drew run_loadV loadOr_cells run_storeV storeOr_cells cells_size ones_cells cells_0 cells_1 cells_2 cells_16 cells_g0 cells_g1 cells_g2 cells_g16 cells_set0 cells_set1 cells_set2 cells_text run_field0 run_field1 run_index0
attribute [local go_sem ↓] execOp_loadV execOp_storeV
attribute [local irreducible] Int.lt Int.le
set_option maxRecDepth 100000 in
set_option maxHeartbeats 4000000 in
theorem rpread_no (R : RLay) (st : VSt) (q n : Int) (hc : pHas st q = false ∨ pHas st q = true ∧ decide (n < 0) = true) (w : World) (hV : RViewAt w R st) :
    Calls Try.prog 29 #[.pointer (some ⟨R.q, 0, none⟩), .int .i64 q, .int .i64 n] w fun e w' => e = .returned (.tuple #[.string ⟨#[]⟩, .int .i64 1]) ∧ RViewAt w' R (pSaw st q) ∧ Turn (· = R.r) w w' := by
  have hz := zero_val
  rcases hc with h1 | ⟨h1, h2⟩
  all_goals
    go_enter Try.func29, Try.ntmps29
    go_wp2_with fail
    refine (rispipe_any R st q _ hV).mono ?_; rintro e w1 ⟨rfl, hv1, t1⟩
    go_wp2_with fail
    go_ret2
    exact ⟨rfl, hv1, t1⟩
set_option maxRecDepth 100000 in
set_option maxHeartbeats 4000000 in
theorem rpread_none (R : RLay) (st : VSt) (q n : Int) (x : Val) (hx : st.get 8 q = x) (hh : pHas st q = true) (r : Int) (hc : n = 0 ∧ r = 0 ∨ 0 < n ∧ x.s.size = 0 ∧ x.n 1 ≤ 0 ∧ r = 0 ∨ 0 < n ∧ x.s.size = 0 ∧ 0 < x.n 1 ∧ r = 2) (w : World) (hV : RViewAt w R st) :
    Calls Try.prog 29 #[.pointer (some ⟨R.q, 0, none⟩), .int .i64 q, .int .i64 n] w fun e w' => e = .returned (.tuple #[.string ⟨#[]⟩, .int .i64 r]) ∧ RViewAt w' R (pLook st q) ∧ Turn (· = R.r) w w' := by
  have hz := zero_val
  have gx := gx_of hx
  have hnn : decide (n < 0) = false := decide_eq_false (by omega)
  rcases hc with ⟨h1, rfl⟩ | ⟨h1, h2, h3, rfl⟩ | ⟨h1, h2, h3, rfl⟩
  case' inl => have e0 : (n == 0) = true := by simp [h1]
  case' inr.inl =>
    have e0 : (n == 0) = false := by simp; omega
    have e1 : decide (0 < (x.s.size : Int)) = false := decide_eq_false (by omega)
    have e2 : decide (x.n 1 ≤ 0) = true := decide_eq_true h3
  case' inr.inr =>
    have e0 : (n == 0) = false := by simp; omega
    have e1 : decide (0 < (x.s.size : Int)) = false := decide_eq_false (by omega)
    have e2 : decide (x.n 1 ≤ 0) = false := decide_eq_false (by omega)
  all_goals
    go_enter Try.func29, Try.ntmps29
    go_wp2_with fail
    refine (rispipe_any R st q _ hV).mono ?_; rintro e w1 ⟨rfl, hv1, t1⟩
    go_wp2_with fail
    refine (rpkey_any q _).mono ?_; rintro e w2 ⟨rfl, t2⟩
    have hv2 := hv1.below t2
    have T2 := t1.trans (Turn.of_below t2 _)
    clear hv1 t1 t2 hV
    go_wp2_with fail
    refine (rvget_any R (pSaw st q) 8 q (by decide) _ hv2).mono ?_; rintro e w3 ⟨rfl, hv3, t3⟩
    rw [gx]
    have T3 := T2.trans t3
    clear hv2 T2 t3
    have b4 : Below w3.heap.size w3 (w3.alloc (Obj.cells x.cells 47)) := (Below.refl _ _).alloc (Nat.le_refl _) _
    have hv4 := hv3.below b4
    have T4 := T3.trans (Turn.of_below b4 _)
    clear hv3 T3 b4
    go_wp2_with fail
    go_ret2
    exact ⟨rfl, hv4, T4⟩
set_option maxRecDepth 100000 in
set_option maxHeartbeats 4000000 in
theorem rpread_some (R : RLay) (st : VSt) (q n : Int) (x : Val) (hx : st.get 8 q = x) (hh : pHas st q = true) (h1 : 0 < n) (h2 : 0 < x.s.size) (w : World) (hV : RViewAt w R st) :
    Calls Try.prog 29 #[.pointer (some ⟨R.q, 0, none⟩), .int .i64 q, .int .i64 n] w fun e w' => e = .returned (.tuple #[.string (pTook x.s n), .int .i64 0]) ∧ RViewAt w' R ((pLook st q).put 8 q (x.text (pLeft x.s n))) ∧ Turn (fun k => k = R.r ∨ k = R.m) w w' := by
  have hz := zero_val
  have gx := gx_of hx
  have hnn : decide (n < 0) = false := decide_eq_false (by omega)
  have e0 : (n == 0) = false := by simp; omega
  have e1 : decide (0 < (x.s.size : Int)) = true := decide_eq_true (by omega)
  go_enter Try.func29, Try.ntmps29
  go_wp2_with fail
  refine (rispipe_any R st q _ hV).mono ?_; rintro e w1 ⟨rfl, hv1, t1⟩
  go_wp2_with fail
  refine (rpkey_any q _).mono ?_; rintro e w2 ⟨rfl, t2⟩
  have hv2 := hv1.below t2
  have T2 := t1.trans (Turn.of_below t2 _)
  clear hv1 t1 t2 hV
  go_wp2_with fail
  refine (rvget_any R (pSaw st q) 8 q (by decide) _ hv2).mono ?_; rintro e w3 ⟨rfl, hv3, t3⟩
  rw [gx]
  have T3 := rmaps (T2.trans t3)
  clear hv2 T2 t3
  have m0 : 0 ≤ min n (x.s.size : Int) := by omega
  have m1 : min n (x.s.size : Int) ≤ (x.s.size : Int) := by omega
  go_upto_region 8 with fail
  rw [show x.s.extract 0 (min n (x.s.size : Int)).toNat = pTook x.s n from rfl]
  have b4 : Below w3.heap.size w3 (w3.alloc (Obj.cells x.cells 47)) := (Below.refl _ _).alloc (Nat.le_refl _) _
  have r4 : blk (w3.alloc (Obj.cells x.cells 47)) w3.heap.size = some (.cells x.cells 47 (0, 0)) := heap_alloc_new _ _
  have hv4 := hv3.below b4
  have T4 := T3.trans (Turn.of_below b4 _)
  have hB0 := T3.size
  have hl4 := hv3.lts
  have hd : ((pTook x.s n).size : Int) = min n (x.s.size : Int) := by
    unfold pTook; rw [ByteArray.size_extract]; omega
  have d0 : (0 : Int) ≤ ((pTook x.s n).size : Int) := by omega
  have d1 : ((pTook x.s n).size : Int) ≤ (x.s.size : Int) := by omega
  have hlf : x.s.extract (pTook x.s n).size x.s.size = pLeft x.s n := by
    unfold pLeft; congr 1; omega
  have HL := Lib.hid hlf
  clear hv3 T3 b4 m0 m1 hd hlf
  generalize (w3.alloc (Obj.cells x.cells 47)) = W4 at *
  generalize w3.heap.size = B at *
  have c16 := cell_of_row _ _ 16 _ _ _ r4
  rw [cells_16] at c16
  have f16 := frozen_blk r4 16
  go_upto_region 9 with fail
  rw [HL.out]
  have r5 := blk_setCell_same r4 16 (Value.string (pLeft x.s n))
  rw [cells_text] at r5
  have tl : Turn (fun k => B ≤ k) W4 (W4.setCell ⟨B, 16, none⟩ (Value.string (pLeft x.s n))) := (Turn.refl _ W4).setCell (p := ⟨B, 16, none⟩) (Or.inl (show B ≤ B from Nat.le_refl _)) _
  have hv6 := hv4.off tl hl4
  have T6 := T4.offS tl hB0
  have r6 : blk (W4.setCell ⟨B, 16, none⟩ (Value.string (pLeft x.s n))) B = some (.cells (x.text (pLeft x.s n)).cells 47 (0, 0)) := r5
  clear r5 tl hv4 T4 r4 c16 f16
  generalize (W4.setCell ⟨B, 16, none⟩ (Value.string (pLeft x.s n))) = W6 at *
  generalize hy : x.text (pLeft x.s n) = y at *
  go_upto_region 9 with fail
  have b7 : Below W6.heap.size W6 W6.drew := below_drewN (Below.refl _ W6) 1
  have r7 : blk W6.drew B = some (.cells y.cells 47 (0, 0)) := r6
  have hv7 := hv6.below b7
  have T7 := T6.trans (Turn.of_below b7 _)
  clear b7 hv6 T6 r6
  refine wp_region_held_drew (S := fun W => blk W B = some (.cells y.cells 47 (0, 0))) (by kernel_rfl) r7 (fun hHeld => ?_)
  clear r7
  refine reg_take (i := 0) (v := ?_) rfl rfl (by kernel_rfl) (by kernel_rfl) (by kernel_rfl) (fun _ _ _ h => h) (by assumption) (by rfl) ?_ ?_
  rotate_left 1
  · (intro w hSw; (try dsimp only at hSw); go_simp; try with_reducible rfl)
  try simp only [List.setIfInBounds_toArray, List.set_cons_zero, List.set_cons_succ]
  refine reg_take (i := 1) (v := ?_) rfl rfl (by kernel_rfl) (by kernel_rfl) (by kernel_rfl) (fun _ _ _ h => h) (by assumption) (by rfl) ?_ ?_
  rotate_left 1
  · (intro w hSw; (try dsimp only at hSw); go_simp; try with_reducible rfl)
  try simp only [List.setIfInBounds_toArray, List.set_cons_zero, List.set_cons_succ]
  refine reg_take (i := 3) (v := (.agg y.cells)) rfl rfl (by kernel_rfl) (by kernel_rfl) (by kernel_rfl) (fun _ _ _ h => h) (by assumption) (by rfl) (fun W hW => loadV_blk hW) ?_
  try simp only [List.setIfInBounds_toArray, List.set_cons_zero, List.set_cons_succ]
  refine reg_step (i := 2) (by kernel_rfl) rfl (by rfl) (fun KC hKC => ?_)
  go_simp
  refine (rpkey_any q _).mono ?_; rintro e w8 ⟨rfl, t8⟩
  have r8 := (t8.block B (lt_of_heap hHeld)).trans hHeld
  have hv8 := hv7.below t8
  have T8 := T7.trans (Turn.of_below t8 _)
  clear hHeld hv7 T7 t8
  refine hKC.out _ _ ?_ (fun hHeld => ?_)
  · exact r8
  clear hKC KC
  refine reg_step (i := 4) (by kernel_rfl) rfl (by rfl) (fun KC hKC => ?_)
  go_simp
  refine (rvput_at (R := R) (st := pLook st q) (k := 8) (n := q) (x := y) (by decide) hv8).mono ?_; rintro e w9 ⟨⟨v9, rfl⟩, hv9, t9⟩
  have T9 := T8.trans t9
  have r9 : blk w9 B = some (.cells y.cells 47 (0, 0)) := by
    refine blk_of_turn t9 r8 (fun e => ?_)
    obtain ⟨_, _, q1, _⟩ := hv8.cr
    obtain ⟨_, _, q2, _⟩ := hv8.cm
    have n1 := cells_ne_map r8 q1
    have n2 := cells_ne_map r8 q2
    omega
  clear T8 t9 hHeld r8 hv8
  refine hKC.out _ _ ?_ (fun hHeld => ?_)
  · exact r9
  clear hKC KC
  refine wpAnyH_done (by kernel_rfl) ?_ _
  clear hHeld r9
  go_wp2_with fail
  go_ret2
  exact ⟨rfl, by rw [hy]; exact hv9, T9⟩
theorem rpread_any (R : RLay) (st : VSt) (q n : Int) (w : World) (hV : RViewAt w R st) :
    Calls Try.prog 29 #[.pointer (some ⟨R.q, 0, none⟩), .int .i64 q, .int .i64 n] w fun e w' => e = .returned (.tuple #[.string (pRead st q n), .int .i64 (pReadS st q n)]) ∧ RViewAt w' R (pReadV st q n) ∧ Turn (fun k => k = R.r ∨ k = R.m) w w' := by
  unfold pRead pReadS pReadV
  by_cases a1 : pHas st q = false ∨ n < 0
  · rw [if_pos a1, if_pos a1, if_pos a1]
    refine (rpread_no R st q n ?_ w hV).mono fun e w' ⟨a, b, c⟩ => ⟨a, b, rmaps c⟩
    cases h : pHas st q with
    | false => exact Or.inl rfl
    | true =>
      rw [h] at a1
      exact Or.inr ⟨rfl, decide_eq_true (a1.resolve_left (by decide))⟩
  · rw [if_neg a1, if_neg a1, if_neg a1]
    have hh : pHas st q = true := by
      cases h : pHas st q with
      | false => exact absurd (Or.inl h) a1
      | true => rfl
    have hn : 0 ≤ n := by omega
    by_cases a2 : 0 < n ∧ 0 < (st.get 8 q).s.size
    · rw [if_pos a2, if_neg (by omega), if_pos a2]
      exact rpread_some R st q n _ rfl hh a2.1 a2.2 w hV
    · rw [if_neg a2, if_neg a2]
      refine (rpread_none R st q n _ rfl hh _ ?_ w hV).mono fun e w' ⟨a, b, c⟩ => ⟨a, b, rmaps c⟩
      by_cases a3 : 0 < n ∧ (st.get 8 q).s.size = 0 ∧ 0 < (st.get 8 q).n 1
      · rw [if_pos a3]; exact Or.inr (Or.inr ⟨a3.1, a3.2.1, a3.2.2, rfl⟩)
      · rw [if_neg a3]
        by_cases h0 : n = 0
        · exact Or.inl ⟨h0, rfl⟩
        · exact Or.inr (Or.inl ⟨by omega, by omega, by omega, rfl⟩)
end Go.Proofs.Ytfcgkjbifnhjjaa.St

namespace Go.Proofs.Ytfcgkjbifnhjjaa.St
open Go.RowKit
set_option linter.unusedVariables false
attribute [local go_sem] blk_alloc_at blk_alloc_past blk_drew blk_drewN blk_setB_same blk_setB_other blk_setRow_other setRow_alloc_at setRow_alloc_past setRow_drewN setRow_drew setB_size setB_cell setB_frozen setB_alloc_past setB_drewN setB_drew run_loadV loadOr_cells run_storeV storeOr_cells cells_size ones_cells cells_0 cells_1 cells_2 cells_16 cells_g0 cells_g1 cells_g2 cells_g16 cells_set0 cells_set1 cells_set2 cells_text run_field0 run_field1 run_index0
attribute [local go_sem ↓] execOp_loadV execOp_storeV
attribute [local irreducible] Int.lt Int.le
set_option maxRecDepth 100000 in
set_option maxHeartbeats 4000000 in
theorem rpwrite_out (R : RLay) (st : VSt) (q : Int) (d : ByteArray) (h1 : pHas st q = false) (w : World) (hV : RViewAt w R st) :
    Calls Try.prog 31 #[.pointer (some ⟨R.q, 0, none⟩), .int .i64 q, .string d] w fun e w' => e = .returned (.tuple #[.int .i64 (-1), .int .i64 1]) ∧ RViewAt w' R (pSaw st q) ∧ Turn (· = R.r) w w' := by
  have hz := zero_val
  go_enter Try.func31, Try.ntmps31
  go_wp2_with fail
  refine (rispipe_any R st q _ hV).mono ?_; rintro e w1 ⟨rfl, hv1, t1⟩
  go_wp2_with fail
  go_ret2
  exact ⟨rfl, hv1, t1⟩
set_option maxRecDepth 100000 in
set_option maxHeartbeats 4000000 in
theorem rpwrite_nay (R : RLay) (st : VSt) (q : Int) (d : ByteArray) (x : Val) (hx : st.get 8 q = x) (hh : pHas st q = true) (hc : x.n 0 ≤ 0 ∨ ¬ x.n 0 ≤ 0 ∧ d.size = 0 ∨ ¬ x.n 0 ≤ 0 ∧ 0 < d.size ∧ 16 ≤ x.s.size) (w : World) (hV : RViewAt w R st) :
    Calls Try.prog 31 #[.pointer (some ⟨R.q, 0, none⟩), .int .i64 q, .string d] w fun e w' => e = .returned (.tuple #[.int .i64 (pNay x d).1, .int .i64 (pNay x d).2]) ∧ RViewAt w' R (pLook st q) ∧ Turn (· = R.r) w w' := by
  have hz := zero_val
  have gx := gx_of hx
  rcases hc with h1 | ⟨h1, h2⟩ | ⟨h1, h2, h3⟩
  case' inl =>
    have hp : pNay x d = (-1, 1) := by unfold pNay; rw [if_pos h1]
    have e0 : decide (x.n 0 ≤ 0) = true := decide_eq_true h1
  case' inr.inl =>
    have hp : pNay x d = (0, 0) := by unfold pNay; rw [if_neg h1, if_pos h2]
    have e0 : decide (x.n 0 ≤ 0) = false := decide_eq_false h1
    have e1 : ((d.size : Int) == 0) = true := by simp [h2]
    obtain rfl := size_none h2
  case' inr.inr =>
    have hp : pNay x d = (0, 2) := by unfold pNay; rw [if_neg h1, if_neg (by omega)]
    have e0 : decide (x.n 0 ≤ 0) = false := decide_eq_false h1
    have e1 : ((d.size : Int) == 0) = false := beq_eq_false_iff_ne.2 (by omega)
    have e3 : ¬ d = ByteArray.empty := fun e => by subst e; simp at h2
    have e2 : decide (16 ≤ (x.s.size : Int)) = true := decide_eq_true (by omega)
  all_goals
    rw [hp]
    clear hp
    go_enter Try.func31, Try.ntmps31
    go_wp2_with fail
    refine (rispipe_any R st q _ hV).mono ?_; rintro e w1 ⟨rfl, hv1, t1⟩
    go_wp2_with fail
    refine (rpkey_any q _).mono ?_; rintro e w2 ⟨rfl, t2⟩
    have hv2 := hv1.below t2
    have T2 := t1.trans (Turn.of_below t2 _)
    clear hv1 t1 t2 hV
    go_wp2_with fail
    refine (rvget_any R (pSaw st q) 8 q (by decide) _ hv2).mono ?_; rintro e w3 ⟨rfl, hv3, t3⟩
    rw [gx]
    have T3 := T2.trans t3
    clear hv2 T2 t3
    have b4 : Below w3.heap.size w3 (w3.alloc (Obj.cells x.cells 47)) := (Below.refl _ _).alloc (Nat.le_refl _) _
    have hv4 := hv3.below b4
    have T4 := T3.trans (Turn.of_below b4 _)
    clear hv3 T3 b4
    go_wp2_with fail
    go_ret2
    exact ⟨rfl, hv4, T4⟩
set_option maxRecDepth 100000 in
set_option maxHeartbeats 4000000 in
theorem rpwrite_yes (R : RLay) (st : VSt) (q : Int) (d : ByteArray) (x : Val) (hx : st.get 8 q = x) (hh : pHas st q = true) (h1 : ¬ x.n 0 ≤ 0) (h2 : 0 < d.size) (h3 : x.s.size < 16) (hd : (d.size : Int) ≤ 140737488351232) (w : World) (hV : RViewAt w R st) :
    Calls Try.prog 31 #[.pointer (some ⟨R.q, 0, none⟩), .int .i64 q, .string d] w fun e w' => e = .returned (.tuple #[.int .i64 ((pGive x.s d).size : Int), .int .i64 0]) ∧ RViewAt w' R ((pLook st q).put 8 q (x.text (x.s ++ pGive x.s d))) ∧ Turn (fun k => k = R.r ∨ k = R.m) w w' := by
  have hz := zero_val
  have gx := gx_of hx
  have e0 : decide (x.n 0 ≤ 0) = false := decide_eq_false h1
  have e1 : ((d.size : Int) == 0) = false := beq_eq_false_iff_ne.2 (by omega)
  have e3 : ¬ d = ByteArray.empty := fun e => by subst e; simp at h2
  have e2 : decide (16 ≤ (x.s.size : Int)) = false := decide_eq_false (by omega)
  have e4 : wrap64 (16 - (x.s.size : Int)) = 16 - (x.s.size : Int) := by unfold wrap64; omega
  go_enter Try.func31, Try.ntmps31
  go_wp2_with fail
  refine (rispipe_any R st q _ hV).mono ?_; rintro e w1 ⟨rfl, hv1, t1⟩
  go_wp2_with fail
  refine (rpkey_any q _).mono ?_; rintro e w2 ⟨rfl, t2⟩
  have hv2 := hv1.below t2
  have T2 := t1.trans (Turn.of_below t2 _)
  clear hv1 t1 t2 hV
  go_wp2_with fail
  refine (rvget_any R (pSaw st q) 8 q (by decide) _ hv2).mono ?_; rintro e w3 ⟨rfl, hv3, t3⟩
  rw [gx]
  have T3 := rmaps (T2.trans t3)
  clear hv2 T2 t3
  have m0 : 0 ≤ min (d.size : Int) (16 - (x.s.size : Int)) := by omega
  have m1 : min (d.size : Int) (16 - (x.s.size : Int)) ≤ (d.size : Int) := by omega
  go_upto_region 11 with fail
  have b4 : Below w3.heap.size w3 (w3.alloc (Obj.cells x.cells 47)) := (Below.refl _ _).alloc (Nat.le_refl _) _
  have r4 : blk (w3.alloc (Obj.cells x.cells 47)) w3.heap.size = some (.cells x.cells 47 (0, 0)) := heap_alloc_new _ _
  have hv4 := hv3.below b4
  have T4 := T3.trans (Turn.of_below b4 _)
  have hB0 := T3.size
  have hl4 := hv3.lts
  have hgs : ((pGive x.s d).size : Int) = min (d.size : Int) (16 - (x.s.size : Int)) := by
    unfold pGive; rw [ByteArray.size_extract]; omega
  have HG := Lib.hid hgs
  have z2 : (x.s.size : Int) + ((d.extract 0 (min (d.size : Int) (16 - (x.s.size : Int))).toNat).size : Int) ≤ 9223372036854775807 := by
    rw [ByteArray.size_extract]; omega
  clear hv3 T3 b4 hgs
  generalize (w3.alloc (Obj.cells x.cells 47)) = W4 at *
  generalize w3.heap.size = B at *
  have c16 := cell_of_row _ _ 16 _ _ _ r4
  rw [cells_16] at c16
  have f16 := frozen_blk r4 16
  go_region
  rw [show x.s ++ d.extract 0 (min (d.size : Int) (16 - (x.s.size : Int))).toNat = x.s ++ pGive x.s d from rfl]
  have r5 := blk_setCell_same r4 16 (Value.string (x.s ++ pGive x.s d))
  rw [cells_text] at r5
  have tl : Turn (fun k => B ≤ k) W4 (W4.setCell ⟨B, 16, none⟩ (Value.string (x.s ++ pGive x.s d))).drew := ((Turn.refl _ W4).setCell (p := ⟨B, 16, none⟩) (Or.inl (show B ≤ B from Nat.le_refl _)) _).drew
  have hv6 := hv4.off tl hl4
  have T6 := T4.offS tl hB0
  have r6 : blk (W4.setCell ⟨B, 16, none⟩ (Value.string (x.s ++ pGive x.s d))).drew B = some (.cells (x.text (x.s ++ pGive x.s d)).cells 47 (0, 0)) := by rw [blk_drew]; exact r5
  clear r5 tl hv4 T4 r4 c16 f16
  generalize (W4.setCell ⟨B, 16, none⟩ (Value.string (x.s ++ pGive x.s d))).drew = W6 at *
  generalize hy : x.text (x.s ++ pGive x.s d) = y at *
  go_upto_region 12 with fail
  have b7 : Below W6.heap.size W6 W6.drew := below_drewN (Below.refl _ W6) 1
  have r7 : blk W6.drew B = some (.cells y.cells 47 (0, 0)) := r6
  have hv7 := hv6.below b7
  have T7 := T6.trans (Turn.of_below b7 _)
  clear b7 hv6 T6 r6
  refine wp_region_held_drew (S := fun W => blk W B = some (.cells y.cells 47 (0, 0))) (by kernel_rfl) r7 (fun hHeld => ?_)
  clear r7
  refine reg_take (i := 0) (v := ?_) rfl rfl (by kernel_rfl) (by kernel_rfl) (by kernel_rfl) (fun _ _ _ h => h) (by assumption) (by rfl) ?_ ?_
  rotate_left 1
  · (intro w hSw; (try dsimp only at hSw); go_simp; try with_reducible rfl)
  try simp only [List.setIfInBounds_toArray, List.set_cons_zero, List.set_cons_succ]
  refine reg_take (i := 1) (v := ?_) rfl rfl (by kernel_rfl) (by kernel_rfl) (by kernel_rfl) (fun _ _ _ h => h) (by assumption) (by rfl) ?_ ?_
  rotate_left 1
  · (intro w hSw; (try dsimp only at hSw); go_simp; try with_reducible rfl)
  try simp only [List.setIfInBounds_toArray, List.set_cons_zero, List.set_cons_succ]
  refine reg_take (i := 3) (v := (.agg y.cells)) rfl rfl (by kernel_rfl) (by kernel_rfl) (by kernel_rfl) (fun _ _ _ h => h) (by assumption) (by rfl) (fun W hW => loadV_blk hW) ?_
  try simp only [List.setIfInBounds_toArray, List.set_cons_zero, List.set_cons_succ]
  refine reg_step (i := 2) (by kernel_rfl) rfl (by rfl) (fun KC hKC => ?_)
  go_simp
  refine (rpkey_any q _).mono ?_; rintro e w8 ⟨rfl, t8⟩
  have r8 := (t8.block B (lt_of_heap hHeld)).trans hHeld
  have hv8 := hv7.below t8
  have T8 := T7.trans (Turn.of_below t8 _)
  clear hHeld hv7 T7 t8
  refine hKC.out _ _ ?_ (fun hHeld => ?_)
  · exact r8
  clear hKC KC
  refine reg_step (i := 4) (by kernel_rfl) rfl (by rfl) (fun KC hKC => ?_)
  go_simp
  refine (rvput_at (R := R) (st := pLook st q) (k := 8) (n := q) (x := y) (by decide) hv8).mono ?_; rintro e w9 ⟨⟨v9, rfl⟩, hv9, t9⟩
  have T9 := T8.trans t9
  have r9 : blk w9 B = some (.cells y.cells 47 (0, 0)) := by
    refine blk_of_turn t9 r8 (fun e => ?_)
    obtain ⟨_, _, q1, _⟩ := hv8.cr
    obtain ⟨_, _, q2, _⟩ := hv8.cm
    have n1 := cells_ne_map r8 q1
    have n2 := cells_ne_map r8 q2
    omega
  clear T8 t9 hHeld r8 hv8
  refine hKC.out _ _ ?_ (fun hHeld => ?_)
  · exact r9
  clear hKC KC
  refine wpAnyH_done (by kernel_rfl) ?_ _
  clear hHeld r9
  go_wp2_with fail
  go_ret2
  exact ⟨by rw [HG.out]; rfl, by rw [hy]; exact hv9, T9⟩
theorem rpwrite_any (R : RLay) (st : VSt) (q : Int) (d : ByteArray) (hd : (d.size : Int) ≤ 140737488351232) (w : World) (hV : RViewAt w R st) :
    Calls Try.prog 31 #[.pointer (some ⟨R.q, 0, none⟩), .int .i64 q, .string d] w fun e w' => e = .returned (.tuple #[.int .i64 (pWrote st q d).1, .int .i64 (pWrote st q d).2]) ∧ RViewAt w' R (pWriteV st q d) ∧ Turn (fun k => k = R.r ∨ k = R.m) w w' := by
  unfold pWrote pWriteV
  cases hh : pHas st q with
  | false => rw [if_pos rfl, if_pos rfl]; exact (rpwrite_out R st q d hh w hV).mono fun e w' ⟨a, b, c⟩ => ⟨a, b, rmaps c⟩
  | true =>
    rw [if_neg (show ¬ (true = false) by decide), if_neg (show ¬ (true = false) by decide)]
    by_cases h : pMay st q d
    · rw [if_pos h, if_pos h]
      obtain ⟨_, a1, a2, a3⟩ := h
      exact rpwrite_yes R st q d _ rfl hh (by omega) a2 (by omega) hd w hV
    · rw [if_neg h, if_neg h]
      refine (rpwrite_nay R st q d _ rfl hh ?_ w hV).mono fun e w' ⟨a, b, c⟩ => ⟨a, b, rmaps c⟩
      by_cases a1 : (st.get 8 q).n 0 ≤ 0
      · exact Or.inl a1
      · by_cases a2 : d.size = 0
        · exact Or.inr (Or.inl ⟨a1, a2⟩)
        · refine Or.inr (Or.inr ⟨a1, by omega, ?_⟩)
          apply Decidable.byContradiction; intro a3
          exact h ⟨hh, by omega, by omega, by omega⟩
theorem rends_no (R : RLay) (st : VSt) (q : Int) (wr : Bool) (k : Int) (hh : pHas st q = false) (w : World) (hV : RViewAt w R st) :
    Calls Try.prog 33 #[.pointer (some ⟨R.q, 0, none⟩), .int .i64 q, .bool wr, .int .i64 k] w fun e w' => e = .returned (.bool false) ∧ RViewAt w' R (pSaw st q) ∧ Turn (fun k => k = R.r ∨ k = R.m) w w' := by
  go_enter Try.func33, Try.ntmps33
  go_wp2_with fail
  refine (rispipe_any R st q _ hV).mono ?_; rintro e w1 ⟨rfl, hv1, t1⟩
  go_wp2_with fail
  go_ret
  exact ⟨rfl, hv1, rmaps t1⟩
set_option maxRecDepth 100000 in
set_option maxHeartbeats 4000000 in
theorem rends_yes (R : RLay) (st : VSt) (q : Int) (wr : Bool) (k : Int) (hh : pHas st q = true) (w : World) (hV : RViewAt w R st) :
    Calls Try.prog 33 #[.pointer (some ⟨R.q, 0, none⟩), .int .i64 q, .bool wr, .int .i64 k] w fun e w' => e = .returned (.bool true) ∧ RViewAt w' R (pEnds st q wr k) ∧ Turn (fun k => k = R.r ∨ k = R.m) w w' := by
  have hz := zero_val
  obtain ⟨i1, i2⟩ := phas_in hh
  obtain ⟨x, hx⟩ : ∃ x, st.get 8 q = x := ⟨_, rfl⟩
  have gx := gx_of hx
  have hch : pEnds st q wr k = if (pTurn x wr k).n 0 ≤ 0 ∧ (pTurn x wr k).n 1 ≤ 0 then (((pLook st q).saw 7 0).put 7 0 (((pLook st q).get 7 0).set 0 (unmarkN (((pLook st q).get 7 0).n 0) q.toNat))).put 8 q Val.zero else (pLook st q).put 8 q (pTurn x wr k) := by
    unfold pEnds
    rw [if_neg (by rw [hh]; decide), hx]
    rfl
  have HC := Lib.hid hch
  clear hch
  go_enter Try.func33, Try.ntmps33
  go_wp2_with fail
  refine (rispipe_any R st q _ hV).mono ?_; rintro e w1 ⟨rfl, hv1, t1⟩
  have T1 := rmaps t1
  clear t1 hV
  go_wp2_with fail
  refine (rpkey_any q _).mono ?_; rintro e w2 ⟨rfl, t2⟩
  have hv2 := hv1.below t2
  have T2 := T1.trans (Turn.of_below t2 _)
  clear hv1 T1 t2
  go_wp2_with fail
  refine (rvget_any R (pSaw st q) 8 q (by decide) _ hv2).mono ?_; rintro e w3 ⟨rfl, hv3, t3⟩
  rw [gx]
  have T3 := T2.trans (rmaps t3)
  clear hv2 T2 t3 gx
  have hv3' : RViewAt w3 R (pLook st q) := hv3
  clear hv3
  have hv3 := hv3'
  clear hv3'
  cases wr
  all_goals
    go_upto_region 7 with fail
    first
      | rw [show x.set 1 (wrap64 (x.n 1 + k)) = pTurn x true k from rfl]
      | rw [show x.set 0 (wrap64 (x.n 0 + k)) = pTurn x false k from rfl]
    generalize hy : pTurn x _ k = y at *
    have b4 : Below w3.heap.size w3 (w3.alloc (Obj.cells y.cells 47)) := (Below.refl _ _).alloc (Nat.le_refl _) _
    have r4 : blk (w3.alloc (Obj.cells y.cells 47)) w3.heap.size = some (.cells y.cells 47 (0, 0)) := heap_alloc_new _ _
    have hv4 := hv3.below b4
    have T4 := T3.trans (Turn.of_below b4 _)
    have hl4 := hv3.lts
    have hB0 := T3.size
    clear hv3 b4 T3 hy
    generalize (w3.alloc (Obj.cells y.cells 47)) = W4 at *
    generalize w3.heap.size = B at *
    generalize pLook st q = st1 at *
    have c1 := cell_of_row _ _ 0 _ _ _ r4
    have c2 := cell_of_row _ _ 1 _ _ _ r4
    rw [cells_0] at c1
    rw [cells_1] at c2
    by_cases gone : y.n 0 ≤ 0 ∧ y.n 1 ≤ 0
    · have hC := HC.out; rw [if_pos gone] at hC
      have HC2 := Lib.hid hC
      have g1 : decide (y.n 0 ≤ 0) = true := decide_eq_true gone.1
      have g2 : decide (y.n 1 ≤ 0) = true := decide_eq_true gone.2
      clear gone hC HC
      go_upto_region 10 with fail
      have t5 : Turn (fun k => B ≤ k) W4 ((W4.setRow B Val.zero.cells).alloc (.cells #[.int .i64 7, .int .i64 0] 51)) := ((Turn.refl _ W4).setRow (Or.inl (Nat.le_refl B)) _).alloc _
      have r5 : blk ((W4.setRow B Val.zero.cells).alloc (.cells #[.int .i64 7, .int .i64 0] 51)) B = some (.cells Val.zero.cells 47 (0, 0)) := by
        rw [blk_alloc_past _ _ _ (by have := lt_of_heap r4; simp; omega)]; exact setRow_heap _ _ _ _ _ _ r4
      have hs5 : (W4.setRow B Val.zero.cells).heap.size = W4.heap.size := by simp
      have k5 : K2 W4.heap.size 7 0 ((W4.setRow B Val.zero.cells).alloc (.cells #[.int .i64 7, .int .i64 0] 51)) := by
        rw [← hs5]; exact ⟨cell_of_row _ _ 0 _ _ _ (heap_alloc_new _ _), cell_of_row _ _ 1 _ _ _ (heap_alloc_new _ _)⟩
      have hv5 := hv4.off t5 hl4
      have T5 := T4.offS t5 hB0
      have hKB : B < W4.heap.size := lt_of_heap r4
      clear t5 r4 hs5 hv4 T4 c1 c2
      generalize (W4.setRow B Val.zero.cells).alloc (.cells #[.int .i64 7, .int .i64 0] 51) = W5 at *
      generalize W4.heap.size = K at *
      obtain ⟨k0, k1⟩ := k5
      go_wp2_with fail
      refine (rvget_any R st1 7 0 (by decide) _ hv5).mono ?_; rintro e w6 ⟨rfl, hv6, t6⟩
      have T6 := T5.trans (rmaps t6)
      have r6 := blk_of_turn t6 r5 (show ¬ B = R.r by omega)
      have k6 := turn_cells_two ⟨k0, k1⟩ t6 (show ¬ K = R.r by omega)
      have hl6 := hv6.lts
      have hK6 : K < w6.heap.size := cell_block_lt k6.1
      have hB6 := T6.size
      generalize hu : st1.get 7 0 = u at *
      clear hv5 T5 r5 k0 k1 t6
      go_upto_region 11 with fail
      have b7 : Below w6.heap.size w6 (w6.alloc (Obj.cells u.cells 47)) := (Below.refl _ _).alloc (Nat.le_refl _) _
      have q7 : blk (w6.alloc (Obj.cells u.cells 47)) w6.heap.size = some (.cells u.cells 47 (0, 0)) := heap_alloc_new _ _
      have r7 := (b7.block B (lt_of_heap r6)).trans r6
      have k7 := cells_two k6 b7
      have hv7 := hv6.below b7
      have T7 := T6.trans (Turn.of_below b7 _)
      clear b7 r6 k6 hv6 T6
      generalize w6.alloc (Obj.cells u.cells 47) = W7 at *
      generalize w6.heap.size = C at *
      have f7 := frozen_blk q7 0
      have c0 := cell_of_row _ _ 0 _ _ _ q7
      rw [cells_0] at c0
      go_region
      have eu : bits BinOp.andNot IntKind.i64 (u.n 0) (wrap64 (2 ^ q.toNat)) = unmarkN (u.n 0) q.toNat := by rw [unmarkN]
      rw [eu]
      have q8 := blk_setCell_same q7 0 (Value.int IntKind.i64 (unmarkN (u.n 0) q.toNat))
      rw [cells_set0] at q8
      have tl : Turn (· = C) W7 (W7.setCell ⟨C, 0, none⟩ (Value.int IntKind.i64 (unmarkN (u.n 0) q.toNat))).drew := ((Turn.refl (· = C) W7).setCell (p := ⟨C, 0, none⟩) (Or.inl (show C = C from rfl)) _).drew
      have hv8 := hv7.keep tl (fun i (e : i = C) => by omega)
      have k8 := turn_cells_two k7 tl (show ¬ K = C by omega)
      have r8 := blk_of_turn tl r7 (show ¬ B = C by omega)
      have T8 := T7.offS (tl.mono fun i _ (e : i = C) => (show B ≤ i by omega)) hB0
      have q8d : blk (W7.setCell ⟨C, 0, none⟩ (Value.int IntKind.i64 (unmarkN (u.n 0) q.toNat))).drew C = some (.cells (u.set 0 (unmarkN (u.n 0) q.toNat)).cells 47 (0, 0)) := by rw [blk_drew]; exact q8
      clear tl q8 q7 f7 c0 hv7 k7 r7 T7 eu
      generalize (W7.setCell ⟨C, 0, none⟩ (Value.int IntKind.i64 (unmarkN (u.n 0) q.toNat))).drew = W8 at *
      generalize hzz : u.set 0 (unmarkN (u.n 0) q.toNat) = z at *
      obtain ⟨k0, k1⟩ := k8
      go_wp2_with fail
      refine (rvput_at (R := R) (st := st1.saw 7 0) (k := 7) (n := 0) (x := z) (by decide) hv8).mono ?_; rintro e WA ⟨⟨vA, rfl⟩, hvA, tA⟩
      have TA := T8.trans tA
      have rA : blk WA B = some (.cells Val.zero.cells 47 (0, 0)) := blk_of_turn tA r8 (show ¬ (B = R.r ∨ B = R.m) by omega)
      clear hv8 T8 tA r8 k0 k1 q8d
      go_upto_region 13 with fail
      have b7 : Below WA.heap.size WA WA.drew := below_drewN (Below.refl _ WA) 1
      have r7 : blk WA.drew B = some (.cells Val.zero.cells 47 (0, 0)) := rA
      have hv7 := hvA.below b7
      have T7 := TA.trans (Turn.of_below b7 _)
      clear b7 hvA TA rA
      refine wp_region_held_drew (S := fun W => blk W B = some (.cells Val.zero.cells 47 (0, 0))) (by kernel_rfl) r7 (fun hHeld => ?_)
      clear r7
      refine reg_take (i := 0) (v := ?_) rfl rfl (by kernel_rfl) (by kernel_rfl) (by kernel_rfl) (fun _ _ _ h => h) (by assumption) (by rfl) ?_ ?_
      rotate_left 1
      · (intro w hSw; (try dsimp only at hSw); go_simp; try with_reducible rfl)
      try simp only [List.setIfInBounds_toArray, List.set_cons_zero, List.set_cons_succ]
      refine reg_take (i := 1) (v := ?_) rfl rfl (by kernel_rfl) (by kernel_rfl) (by kernel_rfl) (fun _ _ _ h => h) (by assumption) (by rfl) ?_ ?_
      rotate_left 1
      · (intro w hSw; (try dsimp only at hSw); go_simp; try with_reducible rfl)
      try simp only [List.setIfInBounds_toArray, List.set_cons_zero, List.set_cons_succ]
      refine reg_take (i := 3) (v := (.agg Val.zero.cells)) rfl rfl (by kernel_rfl) (by kernel_rfl) (by kernel_rfl) (fun _ _ _ h => h) (by assumption) (by rfl) (fun W hW => loadV_blk hW) ?_
      try simp only [List.setIfInBounds_toArray, List.set_cons_zero, List.set_cons_succ]
      refine reg_step (i := 2) (by kernel_rfl) rfl (by rfl) (fun KC hKC => ?_)
      go_simp
      refine (rpkey_any q _).mono ?_; rintro e w8 ⟨rfl, t8⟩
      have r8 := (t8.block B (lt_of_heap hHeld)).trans hHeld
      have hv8 := hv7.below t8
      have T8 := T7.trans (Turn.of_below t8 _)
      clear hHeld hv7 T7 t8
      refine hKC.out _ _ ?_ (fun hHeld => ?_)
      · exact r8
      clear hKC KC
      refine reg_step (i := 4) (by kernel_rfl) rfl (by rfl) (fun KC hKC => ?_)
      go_simp
      refine (rvput_at (R := R) (st := (st1.saw 7 0).put 7 0 z) (k := 8) (n := q) (x := Val.zero) (by decide) hv8).mono ?_; rintro e w9 ⟨⟨v9, rfl⟩, hv9, t9⟩
      have T9 := T8.trans t9
      have r9 : blk w9 B = some (.cells Val.zero.cells 47 (0, 0)) := by
        refine blk_of_turn t9 r8 (fun e => ?_)
        obtain ⟨_, _, q1, _⟩ := hv8.cr
        obtain ⟨_, _, q2, _⟩ := hv8.cm
        have n1 := cells_ne_map r8 q1
        have n2 := cells_ne_map r8 q2
        omega
      clear T8 t9 hHeld r8 hv8
      refine hKC.out _ _ ?_ (fun hHeld => ?_)
      · exact r9
      clear hKC KC
      refine wpAnyH_done (by kernel_rfl) ?_ _
      clear hHeld r9
      go_wp2_with fail
      go_ret
      exact ⟨rfl, by rw [HC2.out]; exact hv9, T9⟩
    · have hC := HC.out; rw [if_neg gone] at hC
      have HC2 := Lib.hid hC
      clear hC HC
      have hg : decide (y.n 0 ≤ 0) = false ∨ decide (y.n 0 ≤ 0) = true ∧ decide (y.n 1 ≤ 0) = false := by
        by_cases h1 : y.n 0 ≤ 0
        · exact Or.inr ⟨decide_eq_true h1, decide_eq_false fun h2 => gone ⟨h1, h2⟩⟩
        · exact Or.inl (decide_eq_false h1)
      clear gone
      rcases hg with g1 | ⟨g1, g2⟩
      all_goals
        go_upto_region 13 with fail
        have b7 : Below W4.heap.size W4 W4.drew := below_drewN (Below.refl _ W4) 1
        have r7 : blk W4.drew B = some (.cells y.cells 47 (0, 0)) := r4
        have hv7 := hv4.below b7
        have T7 := T4.trans (Turn.of_below b7 _)
        clear b7 hv4 T4 r4
        refine wp_region_held_drew (S := fun W => blk W B = some (.cells y.cells 47 (0, 0))) (by kernel_rfl) r7 (fun hHeld => ?_)
        clear r7
        refine reg_take (i := 0) (v := ?_) rfl rfl (by kernel_rfl) (by kernel_rfl) (by kernel_rfl) (fun _ _ _ h => h) (by assumption) (by rfl) ?_ ?_
        rotate_left 1
        · (intro w hSw; (try dsimp only at hSw); go_simp; try with_reducible rfl)
        try simp only [List.setIfInBounds_toArray, List.set_cons_zero, List.set_cons_succ]
        refine reg_take (i := 1) (v := ?_) rfl rfl (by kernel_rfl) (by kernel_rfl) (by kernel_rfl) (fun _ _ _ h => h) (by assumption) (by rfl) ?_ ?_
        rotate_left 1
        · (intro w hSw; (try dsimp only at hSw); go_simp; try with_reducible rfl)
        try simp only [List.setIfInBounds_toArray, List.set_cons_zero, List.set_cons_succ]
        refine reg_take (i := 3) (v := (.agg y.cells)) rfl rfl (by kernel_rfl) (by kernel_rfl) (by kernel_rfl) (fun _ _ _ h => h) (by assumption) (by rfl) (fun W hW => loadV_blk hW) ?_
        try simp only [List.setIfInBounds_toArray, List.set_cons_zero, List.set_cons_succ]
        refine reg_step (i := 2) (by kernel_rfl) rfl (by rfl) (fun KC hKC => ?_)
        go_simp
        refine (rpkey_any q _).mono ?_; rintro e w8 ⟨rfl, t8⟩
        have r8 := (t8.block B (lt_of_heap hHeld)).trans hHeld
        have hv8 := hv7.below t8
        have T8 := T7.trans (Turn.of_below t8 _)
        clear hHeld hv7 T7 t8
        refine hKC.out _ _ ?_ (fun hHeld => ?_)
        · exact r8
        clear hKC KC
        refine reg_step (i := 4) (by kernel_rfl) rfl (by rfl) (fun KC hKC => ?_)
        go_simp
        refine (rvput_at (R := R) (st := st1) (k := 8) (n := q) (x := y) (by decide) hv8).mono ?_; rintro e w9 ⟨⟨v9, rfl⟩, hv9, t9⟩
        have T9 := T8.trans t9
        have r9 : blk w9 B = some (.cells y.cells 47 (0, 0)) := by
          refine blk_of_turn t9 r8 (fun e => ?_)
          obtain ⟨_, _, q1, _⟩ := hv8.cr
          obtain ⟨_, _, q2, _⟩ := hv8.cm
          have n1 := cells_ne_map r8 q1
          have n2 := cells_ne_map r8 q2
          omega
        clear T8 t9 hHeld r8 hv8
        refine hKC.out _ _ ?_ (fun hHeld => ?_)
        · exact r9
        clear hKC KC
        refine wpAnyH_done (by kernel_rfl) ?_ _
        clear hHeld r9
        go_wp2_with fail
        go_ret
        exact ⟨rfl, by rw [HC2.out]; exact hv9, T9⟩
theorem rends_any (R : RLay) (st : VSt) (q : Int) (wr : Bool) (k : Int) (w : World) (hV : RViewAt w R st) :
    Calls Try.prog 33 #[.pointer (some ⟨R.q, 0, none⟩), .int .i64 q, .bool wr, .int .i64 k] w fun e w' => e = .returned (.bool (pHas st q)) ∧ RViewAt w' R (pEnds st q wr k) ∧ Turn (fun k => k = R.r ∨ k = R.m) w w' := by
  cases hh : pHas st q with
  | false =>
    have e : pEnds st q wr k = pSaw st q := by unfold pEnds; rw [if_pos hh]
    rw [e]; exact rends_no R st q wr k hh w hV
  | true => exact rends_yes R st q wr k hh w hV
end Go.Proofs.Ytfcgkjbifnhjjaa.St

namespace Go.Proofs.Ytfcgkjbifnhjjaa.St
open Go.RowKit
set_option linter.unusedVariables false
theorem Ok.pSaw {st : VSt} (h : Ok st) (q : Int) : Ok (pSaw st q) := by
  unfold St.pSaw
  split
  · exact h
  · exact h.saw _ _
theorem Ok.pLook {st : VSt} (h : Ok st) (q : Int) : Ok (pLook st q) := (h.pSaw q).saw _ _
theorem Ok.pMark {st : VSt} (h : Ok st) (j : Nat) (on : Bool) : Ok (pMark st j on) := (h.saw _ _).put _ _ _ (set_le (h.z.get _ _) _ _)
theorem Ok.pAlloc {st : VSt} (h : Ok st) : Ok (pAlloc st) := by
  unfold St.pAlloc
  split
  · exact ((h.saw _ _).pMark _ _).put _ _ _ (set_le (set_le zero_le _ _) _ _)
  · exact h.saw _ _
theorem Ok.pRead {st : VSt} (h : Ok st) (q n : Int) : Ok (pReadV st q n) := by
  unfold St.pReadV
  split
  · exact h.pSaw q
  · split
    · refine (h.pLook q).put _ _ _ ?_
      show (pLeft (st.get 8 q).s n).size ≤ 200
      have := h.z.get 8 q
      unfold pLeft
      rw [ByteArray.size_extract]
      omega
    · exact h.pLook q
theorem Ok.pWrite {st : VSt} (h : Ok st) (q : Int) (d : ByteArray) : Ok (pWriteV st q d) := by
  unfold St.pWriteV
  split
  · exact h.pSaw q
  · split
    · rename_i hm
      obtain ⟨_, _, _, h3⟩ := hm
      refine (h.pLook q).put _ _ _ ?_
      show ((st.get 8 q).s ++ pGive (st.get 8 q).s d).size ≤ 200
      rw [ByteArray.size_append]
      unfold pGive
      rw [ByteArray.size_extract]
      omega
    · exact h.pLook q
theorem Ok.pEnds {st : VSt} (h : Ok st) (q : Int) (wr : Bool) (k : Int) : Ok (pEnds st q wr k) := by
  unfold St.pEnds
  split
  · exact h.pSaw q
  · split
    · exact ((h.pLook q).pMark _ _).put _ _ _ zero_le
    · refine (h.pLook q).put _ _ _ ?_
      unfold pTurn
      split
      · exact set_le (h.z.get _ _) _ _
      · exact set_le (h.z.get _ _) _ _
theorem pSaw_twice (st : VSt) (q : Int) : pSaw (pSaw st q) q = pSaw st q := by
  unfold pSaw
  split
  · rfl
  · exact saw_twice _ _ _
end Go.Proofs.Ytfcgkjbifnhjjaa.St

namespace Go.Proofs.Ytfcgkjbifnhjjaa.St
open Go.RowKit
set_option linter.unusedVariables false
attribute [local go_sem] blk_alloc_at blk_alloc_past blk_drew blk_drewN blk_setB_same blk_setB_other blk_setRow_other setRow_alloc_at setRow_alloc_past setRow_drewN setRow_drew setB_size setB_cell setB_frozen setB_alloc_past setB_drewN setB_drew run_loadV loadOr_cells run_storeV storeOr_cells cells_size ones_cells
attribute [local go_sem ↓] execOp_loadV execOp_storeV
attribute [local irreducible] Int.lt Int.le
/-- An ask kept in a block of the call's own. -/
abbrev PQ (G : Nat) (k q n : Int) (b : Bool) (W : World) : Prop := blk W G = some (.cells #[.int .i64 k, .int .i64 q, .int .i64 n, .bool b] 58 (0, 0))
abbrev PC (G : Nat) (k q n : Int) (b : Bool) (W : World) : Prop := W.cell? ⟨G, 0, none⟩ = some (.int .i64 k) ∧ W.cell? ⟨G, 1, none⟩ = some (.int .i64 q) ∧ W.cell? ⟨G, 2, none⟩ = some (.int .i64 n) ∧ W.cell? ⟨G, 3, none⟩ = some (.bool b)
theorem pc_of {W : World} {G : Nat} {k q n : Int} {b : Bool} (h : PQ G k q n b W) : PC G k q n b W := ⟨cell_of_row W G 0 _ _ _ h, cell_of_row W G 1 _ _ _ h, cell_of_row W G 2 _ _ _ h, cell_of_row W G 3 _ _ _ h⟩
/-- What the loop keeps. -/
def PRel (w : World) (t : Nat) (W : World) : Prop := ∃ st L R, Dbl w t L R st st W ∧ Ok st
section
variable {w : World} {t : Nat} {L : Lay} {R : RLay} {a b : VSt} {W W' : World} {G : Nat} {k q n : Int} {c : Bool}
theorem pq_below (h : PQ G k q n c W) (hb : Below W.heap.size W W') : PQ G k q n c W' := (hb.block G (lt_of_heap h)).trans h
theorem Dbl.pqL (H : Dbl w t L R a b W) (h : PQ G k q n c W) {S : Nat → Prop} (T : Turn S W W') (hS : ∀ i, S i → i = L.l ∨ i = L.r ∨ i = L.m) : PQ G k q n c W' :=
  blk_of_turn T h (fun q => by have := hS G q; have := H.p.far h (by decide); omega)
theorem Dbl.pqR (H : Dbl w t L R a b W) (h : PQ G k q n c W) {S : Nat → Prop} (T : Turn S W W') (hS : ∀ i, S i → i = R.s ∨ i = R.r ∨ i = R.m) : PQ G k q n c W' :=
  blk_of_turn T h (fun q => by have := hS G q; have := H.p.far h (by decide); omega)
end
set_option maxRecDepth 100000 in
set_option maxHeartbeats 4000000 in
theorem pipePlays_walk (a0 : Option Addr) (len0 cap0 : Nat) (z0 : Nat → Wr) (a1 : Option Addr) (len1 cap1 : Nat) (w : World) (w0 : IsWrites w a0 len0 cap0 z0) (w1 : IsMix [.int .i64, .int .i64, .int .i64, .bool] w a1 len1 cap1) :
    Calls Try.prog 4 #[.slice a0 len0 cap0, .slice a1 len1 cap1] w fun e w' => e = .returned (.bool true) ∧ Below w.heap.size w w' := by
  have hz := zero_val
  go_enter Try.func4, Try.ntmps4
  go_wp2_with fail
  refine (dnew_any a0 len0 cap0 z0 w w0).mono ?_; rintro e w2 ⟨t, L, R, base, rfl, H, hzb⟩
  have O : Ok (VSt.fresh base) := ⟨VOk.fresh _, Sz.fresh hzb⟩
  have I0 : PRel w t w2 := ⟨_, L, R, H, O⟩
  clear H O hzb w0
  go_upto_block 0 with fail
  go_cut [4, 6] from 26 to 191 (fun rt _ wx => rt = .bool false ∧ PRel w t wx)
  case first =>
    go_wp2_with fail
    go_loopw [4, 6] (fun rt i wr => rt = .bool false ∧ ∃ j : Nat, j ≤ len1 ∧ i = .int .i64 (j : Int) ∧ PRel w t wr) (fun _ i _ => len1 - (intOf i).toNat)
    case atStart => exact ⟨rfl, 0, by omega, rfl, I0⟩
    case round =>
      as_aux_lemma =>
        clear I0
        obtain ⟨rfl, j, hj, rfl, st, L, R, H, O⟩ := hrel
        have j0 : (0 : Int) ≤ (j : Int) := by omega
        by_cases hlt : j < len1
        · have l1 : (j : Int) < (len1 : Int) := by omega
          by_cases h30 : (j : Int) < 30
          · rcases w1 with ⟨_, q, _⟩ | ⟨x, rfl, hlc, hc, hx⟩
            · omega
            obtain ⟨v0, ⟨k, rfl, _⟩, y0⟩ := mix_first hx 4 rfl j hlt (.int .i64) rfl
            obtain ⟨v1, ⟨q, rfl, _⟩, y1⟩ := mix_field hx 4 rfl j hlt 1 (.int .i64) rfl (by decide)
            obtain ⟨v2, ⟨n, rfl, _⟩, y2⟩ := mix_field hx 4 rfl j hlt 2 (.int .i64) rfl (by decide)
            obtain ⟨v3, ⟨b, rfl⟩, y3⟩ := mix_field hx 4 rfl j hlt 3 .bool rfl (by decide)
            have y0 := y0 wr H.p.b
            have y1 := y1 wr H.p.b
            have y2 := y2 wr H.p.b
            have y3 := y3 wr H.p.b
            clear hx
            go_upto_region 8 with fail
            have bA : Below wr.heap.size wr (wr.alloc (Obj.cells #[.int .i64 k, .int .i64 q, .int .i64 n, .bool b] 58)) := (Below.refl _ _).alloc (Nat.le_refl _) _
            have q0 : PQ wr.heap.size k q n b (wr.alloc (Obj.cells #[.int .i64 k, .int .i64 q, .int .i64 n, .bool b] 58)) := heap_alloc_new _ _
            have H0 := H.below bA
            clear bA H y0 y1 y2 y3
            generalize wr.alloc (Obj.cells #[.int .i64 k, .int .i64 q, .int .i64 n, .bool b] 58) = W1 at *
            generalize wr.heap.size = G at *
            go_upto_region 9 with fail
            have c0 := (pc_of q0).1
            go_upto_block 2 with fail
            clear c0
            go_cut [8] from 39 to 167 (fun ok wx => ok = .bool true ∧ PRel w t wx ∧ PQ G k q n b wx)
            case first =>
              by_cases k1 : k = 1
              ·
                as_aux_lemma =>
                  have c1 := H0.cv
                  go_wp2_with fail
                  refine (palloc_any L st _ H0.p.v).mono ?_; rintro e w2 ⟨rfl, hv2, t2⟩
                  have H2 := H0.left hv2 t2 (fun i q => by omega)
                  have q2 := H0.pqL q0 t2 (fun i q => by omega)
                  clear H0 q0 hv2 t2 c1
                  have c3 := H2.cq
                  go_wp2_with fail
                  refine (rnewpipe_any R st _ H2.p.r).mono ?_; rintro e w4 ⟨rfl, hv4, t4⟩
                  have H4 := H2.right hv4 t4 (fun i q => by omega)
                  have q4 := H2.pqR q2 t4 (fun i q => by omega)
                  clear H2 q2 hv4 t4 c3
                  go_wp2_with fail
                  go_meet
                  case rel => exact ⟨by simp, ⟨_, L, R, H4, O.pAlloc⟩, q4⟩
              by_cases k2 : k = 2
              ·
                as_aux_lemma =>
                  go_upto_region 15 with fail
                  have b0 : Below W1.heap.size W1 W1.drew := below_drewN (Below.refl _ W1) 1
                  have H1 := H0.below b0
                  have q1 := pq_below q0 b0
                  clear b0 H0 q0
                  refine wp_region_held_drew (S := fun W => TC t L.s L.v R.d R.q W ∧ PC G k q n b W) (by kernel_rfl) ⟨H1.tc, pc_of q1⟩ (fun hHeld => ?_)
                  refine reg_take (i := 0) (v := ?_) rfl rfl (by kernel_rfl) (by kernel_rfl) (by kernel_rfl) (fun _ _ _ h => h) (by assumption) (by rfl) ?_ ?_
                  rotate_left 1
                  · (intro w hSw; (try dsimp only at hSw); go_simp; try with_reducible rfl)
                  try simp only [List.setIfInBounds_toArray, List.set_cons_zero, List.set_cons_succ]
                  refine reg_take (i := 1) (v := ?_) rfl rfl (by kernel_rfl) (by kernel_rfl) (by kernel_rfl) (fun _ _ _ h => h) (by assumption) (by rfl) ?_ ?_
                  rotate_left 1
                  · (intro w hSw; (try dsimp only at hSw); go_simp; try with_reducible rfl)
                  try simp only [List.setIfInBounds_toArray, List.set_cons_zero, List.set_cons_succ]
                  refine reg_take (i := 2) (v := ?_) rfl rfl (by kernel_rfl) (by kernel_rfl) (by kernel_rfl) (fun _ _ _ h => h) (by assumption) (by rfl) ?_ ?_
                  rotate_left 1
                  · (intro w hSw; (try dsimp only at hSw); go_simp; try with_reducible rfl)
                  try simp only [List.setIfInBounds_toArray, List.set_cons_zero, List.set_cons_succ]
                  refine reg_take (i := 3) (v := ?_) rfl rfl (by kernel_rfl) (by kernel_rfl) (by kernel_rfl) (fun _ _ _ h => h) (by assumption) (by rfl) ?_ ?_
                  rotate_left 1
                  · (intro w hSw; (try dsimp only at hSw); go_simp; try with_reducible rfl)
                  try simp only [List.setIfInBounds_toArray, List.set_cons_zero, List.set_cons_succ]
                  refine reg_take (i := 4) (v := ?_) rfl rfl (by kernel_rfl) (by kernel_rfl) (by kernel_rfl) (fun _ _ _ h => h) (by assumption) (by rfl) ?_ ?_
                  rotate_left 1
                  · (intro w hSw; (try dsimp only at hSw); go_simp; try with_reducible rfl)
                  try simp only [List.setIfInBounds_toArray, List.set_cons_zero, List.set_cons_succ]
                  refine reg_take (i := 5) (v := ?_) rfl rfl (by kernel_rfl) (by kernel_rfl) (by kernel_rfl) (fun _ _ _ h => h) (by assumption) (by rfl) ?_ ?_
                  rotate_left 1
                  · (intro w hSw; (try dsimp only at hSw); go_simp; try with_reducible rfl)
                  try simp only [List.setIfInBounds_toArray, List.set_cons_zero, List.set_cons_succ]
                  refine reg_take (i := 6) (v := ?_) rfl rfl (by kernel_rfl) (by kernel_rfl) (by kernel_rfl) (fun _ _ _ h => h) (by assumption) (by rfl) ?_ ?_
                  rotate_left 1
                  · (intro w hSw; (try dsimp only at hSw); go_simp; try with_reducible rfl)
                  try simp only [List.setIfInBounds_toArray, List.set_cons_zero, List.set_cons_succ]
                  refine reg_take (i := 7) (v := ?_) rfl rfl (by kernel_rfl) (by kernel_rfl) (by kernel_rfl) (fun _ _ _ h => h) (by assumption) (by rfl) ?_ ?_
                  rotate_left 1
                  · (intro w hSw; (try dsimp only at hSw); go_simp; try with_reducible rfl)
                  try simp only [List.setIfInBounds_toArray, List.set_cons_zero, List.set_cons_succ]
                  refine reg_step (i := 8) (by kernel_rfl) rfl (by rfl) (fun KC hKC => ?_)
                  go_simp
                  refine (pread_any L st q n _ H1.p.v).mono ?_; rintro e w2 ⟨rfl, hv2, t2⟩
                  have H2 := H1.left hv2 t2 (fun i q => by omega)
                  have q2 := H1.pqL q1 t2 (fun i q => by omega)
                  clear H1 q1 hv2 t2 hHeld
                  refine hKC.out _ _ ?_ (fun hHeld => ?_)
                  · exact ⟨H2.tc, pc_of q2⟩
                  clear hKC KC
                  refine reg_take (i := 9) (v := ?_) rfl rfl (by kernel_rfl) (by kernel_rfl) (by kernel_rfl) (fun _ _ _ h => h) (by assumption) (by rfl) ?_ ?_
                  rotate_left 1
                  · (intro w hSw; (try dsimp only at hSw); go_simp; try with_reducible rfl)
                  try simp only [List.setIfInBounds_toArray, List.set_cons_zero, List.set_cons_succ]
                  refine reg_take (i := 10) (v := ?_) rfl rfl (by kernel_rfl) (by kernel_rfl) (by kernel_rfl) (fun _ _ _ h => h) (by assumption) (by rfl) ?_ ?_
                  rotate_left 1
                  · (intro w hSw; (try dsimp only at hSw); go_simp; try with_reducible rfl)
                  try simp only [List.setIfInBounds_toArray, List.set_cons_zero, List.set_cons_succ]
                  refine reg_take (i := 11) (v := ?_) rfl rfl (by kernel_rfl) (by kernel_rfl) (by kernel_rfl) (fun _ _ _ h => h) (by assumption) (by rfl) ?_ ?_
                  rotate_left 1
                  · (intro w hSw; (try dsimp only at hSw); go_simp; try with_reducible rfl)
                  try simp only [List.setIfInBounds_toArray, List.set_cons_zero, List.set_cons_succ]
                  refine reg_take (i := 12) (v := ?_) rfl rfl (by kernel_rfl) (by kernel_rfl) (by kernel_rfl) (fun _ _ _ h => h) (by assumption) (by rfl) ?_ ?_
                  rotate_left 1
                  · (intro w hSw; (try dsimp only at hSw); go_simp; try with_reducible rfl)
                  try simp only [List.setIfInBounds_toArray, List.set_cons_zero, List.set_cons_succ]
                  refine reg_take (i := 13) (v := ?_) rfl rfl (by kernel_rfl) (by kernel_rfl) (by kernel_rfl) (fun _ _ _ h => h) (by assumption) (by rfl) ?_ ?_
                  rotate_left 1
                  · (intro w hSw; (try dsimp only at hSw); go_simp; try with_reducible rfl)
                  try simp only [List.setIfInBounds_toArray, List.set_cons_zero, List.set_cons_succ]
                  refine wpAnyH_done (by kernel_rfl) ?_ _
                  clear hHeld
                  go_upto_region 16 with fail
                  have b0 : Below w2.heap.size w2 w2.drew := below_drewN (Below.refl _ w2) 1
                  have H3 := H2.below b0
                  have q3 := pq_below q2 b0
                  clear b0 H2 q2
                  refine wp_region_held_drew (S := fun W => TC t L.s L.v R.d R.q W ∧ PC G k q n b W) (by kernel_rfl) ⟨H3.tc, pc_of q3⟩ (fun hHeld => ?_)
                  refine reg_take (i := 0) (v := ?_) rfl rfl (by kernel_rfl) (by kernel_rfl) (by kernel_rfl) (fun _ _ _ h => h) (by assumption) (by rfl) ?_ ?_
                  rotate_left 1
                  · (intro w hSw; (try dsimp only at hSw); go_simp; try with_reducible rfl)
                  try simp only [List.setIfInBounds_toArray, List.set_cons_zero, List.set_cons_succ]
                  refine reg_take (i := 1) (v := ?_) rfl rfl (by kernel_rfl) (by kernel_rfl) (by kernel_rfl) (fun _ _ _ h => h) (by assumption) (by rfl) ?_ ?_
                  rotate_left 1
                  · (intro w hSw; (try dsimp only at hSw); go_simp; try with_reducible rfl)
                  try simp only [List.setIfInBounds_toArray, List.set_cons_zero, List.set_cons_succ]
                  refine reg_take (i := 2) (v := ?_) rfl rfl (by kernel_rfl) (by kernel_rfl) (by kernel_rfl) (fun _ _ _ h => h) (by assumption) (by rfl) ?_ ?_
                  rotate_left 1
                  · (intro w hSw; (try dsimp only at hSw); go_simp; try with_reducible rfl)
                  try simp only [List.setIfInBounds_toArray, List.set_cons_zero, List.set_cons_succ]
                  refine reg_take (i := 3) (v := ?_) rfl rfl (by kernel_rfl) (by kernel_rfl) (by kernel_rfl) (fun _ _ _ h => h) (by assumption) (by rfl) ?_ ?_
                  rotate_left 1
                  · (intro w hSw; (try dsimp only at hSw); go_simp; try with_reducible rfl)
                  try simp only [List.setIfInBounds_toArray, List.set_cons_zero, List.set_cons_succ]
                  refine reg_take (i := 4) (v := ?_) rfl rfl (by kernel_rfl) (by kernel_rfl) (by kernel_rfl) (fun _ _ _ h => h) (by assumption) (by rfl) ?_ ?_
                  rotate_left 1
                  · (intro w hSw; (try dsimp only at hSw); go_simp; try with_reducible rfl)
                  try simp only [List.setIfInBounds_toArray, List.set_cons_zero, List.set_cons_succ]
                  refine reg_take (i := 5) (v := ?_) rfl rfl (by kernel_rfl) (by kernel_rfl) (by kernel_rfl) (fun _ _ _ h => h) (by assumption) (by rfl) ?_ ?_
                  rotate_left 1
                  · (intro w hSw; (try dsimp only at hSw); go_simp; try with_reducible rfl)
                  try simp only [List.setIfInBounds_toArray, List.set_cons_zero, List.set_cons_succ]
                  refine reg_take (i := 6) (v := ?_) rfl rfl (by kernel_rfl) (by kernel_rfl) (by kernel_rfl) (fun _ _ _ h => h) (by assumption) (by rfl) ?_ ?_
                  rotate_left 1
                  · (intro w hSw; (try dsimp only at hSw); go_simp; try with_reducible rfl)
                  try simp only [List.setIfInBounds_toArray, List.set_cons_zero, List.set_cons_succ]
                  refine reg_take (i := 7) (v := ?_) rfl rfl (by kernel_rfl) (by kernel_rfl) (by kernel_rfl) (fun _ _ _ h => h) (by assumption) (by rfl) ?_ ?_
                  rotate_left 1
                  · (intro w hSw; (try dsimp only at hSw); go_simp; try with_reducible rfl)
                  try simp only [List.setIfInBounds_toArray, List.set_cons_zero, List.set_cons_succ]
                  refine reg_step (i := 8) (by kernel_rfl) rfl (by rfl) (fun KC hKC => ?_)
                  go_simp
                  refine (rpread_any R st q n _ H3.p.r).mono ?_; rintro e w4 ⟨rfl, hv4, t4⟩
                  have H4 := H3.right hv4 t4 (fun i q => by omega)
                  have q4 := H3.pqR q3 t4 (fun i q => by omega)
                  clear H3 q3 hv4 t4 hHeld
                  refine hKC.out _ _ ?_ (fun hHeld => ?_)
                  · exact ⟨H4.tc, pc_of q4⟩
                  clear hKC KC
                  refine reg_take (i := 9) (v := ?_) rfl rfl (by kernel_rfl) (by kernel_rfl) (by kernel_rfl) (fun _ _ _ h => h) (by assumption) (by rfl) ?_ ?_
                  rotate_left 1
                  · (intro w hSw; (try dsimp only at hSw); go_simp; try with_reducible rfl)
                  try simp only [List.setIfInBounds_toArray, List.set_cons_zero, List.set_cons_succ]
                  refine reg_take (i := 10) (v := ?_) rfl rfl (by kernel_rfl) (by kernel_rfl) (by kernel_rfl) (fun _ _ _ h => h) (by assumption) (by rfl) ?_ ?_
                  rotate_left 1
                  · (intro w hSw; (try dsimp only at hSw); go_simp; try with_reducible rfl)
                  try simp only [List.setIfInBounds_toArray, List.set_cons_zero, List.set_cons_succ]
                  refine reg_take (i := 11) (v := ?_) rfl rfl (by kernel_rfl) (by kernel_rfl) (by kernel_rfl) (fun _ _ _ h => h) (by assumption) (by rfl) ?_ ?_
                  rotate_left 1
                  · (intro w hSw; (try dsimp only at hSw); go_simp; try with_reducible rfl)
                  try simp only [List.setIfInBounds_toArray, List.set_cons_zero, List.set_cons_succ]
                  refine reg_take (i := 12) (v := ?_) rfl rfl (by kernel_rfl) (by kernel_rfl) (by kernel_rfl) (fun _ _ _ h => h) (by assumption) (by rfl) ?_ ?_
                  rotate_left 1
                  · (intro w hSw; (try dsimp only at hSw); go_simp; try with_reducible rfl)
                  try simp only [List.setIfInBounds_toArray, List.set_cons_zero, List.set_cons_succ]
                  refine reg_take (i := 13) (v := ?_) rfl rfl (by kernel_rfl) (by kernel_rfl) (by kernel_rfl) (fun _ _ _ h => h) (by assumption) (by rfl) ?_ ?_
                  rotate_left 1
                  · (intro w hSw; (try dsimp only at hSw); go_simp; try with_reducible rfl)
                  try simp only [List.setIfInBounds_toArray, List.set_cons_zero, List.set_cons_succ]
                  refine wpAnyH_done (by kernel_rfl) ?_ _
                  clear hHeld
                  go_wp2_with fail
                  go_meet
                  case rel => exact ⟨by simp, ⟨_, L, R, H4, O.pRead _ _⟩, q4⟩
              by_cases k3 : k = 3
              ·
                as_aux_lemma =>
                  have p2 := (pc_of q0).2.2.1
                  go_wp2_with fail
                  refine (Fp.within_any _ _ _ (by decide) (by decide) (by decide) _).mono ?_; rintro e w1 ⟨rfl, rfl⟩
                  have hwb := Fp.within_bounds n 0 30 (by decide)
                  go_wp2_with fail
                  refine (text_any _ _ hwb.1 (by omega) _).mono ?_; rintro e w9 ⟨d, rfl, hd, t9⟩
                  have H9 := H0.below t9
                  have q9 := pq_below q0 t9
                  have hd2 : (d.size : Int) ≤ 140737488351232 := by omega
                  clear H0 q0 t9 hwb hd p2
                  go_upto_region 20 with fail
                  have b0 : Below w9.heap.size w9 w9.drew := below_drewN (Below.refl _ w9) 1
                  have H10 := H9.below b0
                  have q10 := pq_below q9 b0
                  clear b0 H9 q9
                  refine wp_region_held_drew (S := fun W => TC t L.s L.v R.d R.q W ∧ PC G k q n b W) (by kernel_rfl) ⟨H10.tc, pc_of q10⟩ (fun hHeld => ?_)
                  refine reg_take (i := 0) (v := ?_) rfl rfl (by kernel_rfl) (by kernel_rfl) (by kernel_rfl) (fun _ _ _ h => h) (by assumption) (by rfl) ?_ ?_
                  rotate_left 1
                  · (intro w hSw; (try dsimp only at hSw); go_simp; try with_reducible rfl)
                  try simp only [List.setIfInBounds_toArray, List.set_cons_zero, List.set_cons_succ]
                  refine reg_take (i := 1) (v := ?_) rfl rfl (by kernel_rfl) (by kernel_rfl) (by kernel_rfl) (fun _ _ _ h => h) (by assumption) (by rfl) ?_ ?_
                  rotate_left 1
                  · (intro w hSw; (try dsimp only at hSw); go_simp; try with_reducible rfl)
                  try simp only [List.setIfInBounds_toArray, List.set_cons_zero, List.set_cons_succ]
                  refine reg_take (i := 2) (v := ?_) rfl rfl (by kernel_rfl) (by kernel_rfl) (by kernel_rfl) (fun _ _ _ h => h) (by assumption) (by rfl) ?_ ?_
                  rotate_left 1
                  · (intro w hSw; (try dsimp only at hSw); go_simp; try with_reducible rfl)
                  try simp only [List.setIfInBounds_toArray, List.set_cons_zero, List.set_cons_succ]
                  refine reg_take (i := 3) (v := ?_) rfl rfl (by kernel_rfl) (by kernel_rfl) (by kernel_rfl) (fun _ _ _ h => h) (by assumption) (by rfl) ?_ ?_
                  rotate_left 1
                  · (intro w hSw; (try dsimp only at hSw); go_simp; try with_reducible rfl)
                  try simp only [List.setIfInBounds_toArray, List.set_cons_zero, List.set_cons_succ]
                  refine reg_take (i := 4) (v := ?_) rfl rfl (by kernel_rfl) (by kernel_rfl) (by kernel_rfl) (fun _ _ _ h => h) (by assumption) (by rfl) ?_ ?_
                  rotate_left 1
                  · (intro w hSw; (try dsimp only at hSw); go_simp; try with_reducible rfl)
                  try simp only [List.setIfInBounds_toArray, List.set_cons_zero, List.set_cons_succ]
                  refine reg_take (i := 5) (v := ?_) rfl rfl (by kernel_rfl) (by kernel_rfl) (by kernel_rfl) (fun _ _ _ h => h) (by assumption) (by rfl) ?_ ?_
                  rotate_left 1
                  · (intro w hSw; (try dsimp only at hSw); go_simp; try with_reducible rfl)
                  try simp only [List.setIfInBounds_toArray, List.set_cons_zero, List.set_cons_succ]
                  refine reg_take (i := 6) (v := ?_) rfl rfl (by kernel_rfl) (by kernel_rfl) (by kernel_rfl) (fun _ _ _ h => h) (by assumption) (by rfl) ?_ ?_
                  rotate_left 1
                  · (intro w hSw; (try dsimp only at hSw); go_simp; try with_reducible rfl)
                  try simp only [List.setIfInBounds_toArray, List.set_cons_zero, List.set_cons_succ]
                  refine reg_step (i := 7) (by kernel_rfl) rfl (by rfl) (fun KC hKC => ?_)
                  go_simp
                  refine (pwrite_any L st q d (by have := O.z.get 8 q; omega) hd2 _ H10.p.v).mono ?_; rintro e w11 ⟨rfl, hv11, t11⟩
                  have H11 := H10.left hv11 t11 (fun i q => by omega)
                  have q11 := H10.pqL q10 t11 (fun i q => by omega)
                  clear H10 q10 hv11 t11 hHeld
                  refine hKC.out _ _ ?_ (fun hHeld => ?_)
                  · exact ⟨H11.tc, pc_of q11⟩
                  clear hKC KC
                  refine reg_take (i := 8) (v := ?_) rfl rfl (by kernel_rfl) (by kernel_rfl) (by kernel_rfl) (fun _ _ _ h => h) (by assumption) (by rfl) ?_ ?_
                  rotate_left 1
                  · (intro w hSw; (try dsimp only at hSw); go_simp; try with_reducible rfl)
                  try simp only [List.setIfInBounds_toArray, List.set_cons_zero, List.set_cons_succ]
                  refine reg_take (i := 9) (v := ?_) rfl rfl (by kernel_rfl) (by kernel_rfl) (by kernel_rfl) (fun _ _ _ h => h) (by assumption) (by rfl) ?_ ?_
                  rotate_left 1
                  · (intro w hSw; (try dsimp only at hSw); go_simp; try with_reducible rfl)
                  try simp only [List.setIfInBounds_toArray, List.set_cons_zero, List.set_cons_succ]
                  refine reg_take (i := 10) (v := ?_) rfl rfl (by kernel_rfl) (by kernel_rfl) (by kernel_rfl) (fun _ _ _ h => h) (by assumption) (by rfl) ?_ ?_
                  rotate_left 1
                  · (intro w hSw; (try dsimp only at hSw); go_simp; try with_reducible rfl)
                  try simp only [List.setIfInBounds_toArray, List.set_cons_zero, List.set_cons_succ]
                  refine reg_take (i := 11) (v := ?_) rfl rfl (by kernel_rfl) (by kernel_rfl) (by kernel_rfl) (fun _ _ _ h => h) (by assumption) (by rfl) ?_ ?_
                  rotate_left 1
                  · (intro w hSw; (try dsimp only at hSw); go_simp; try with_reducible rfl)
                  try simp only [List.setIfInBounds_toArray, List.set_cons_zero, List.set_cons_succ]
                  refine reg_take (i := 12) (v := ?_) rfl rfl (by kernel_rfl) (by kernel_rfl) (by kernel_rfl) (fun _ _ _ h => h) (by assumption) (by rfl) ?_ ?_
                  rotate_left 1
                  · (intro w hSw; (try dsimp only at hSw); go_simp; try with_reducible rfl)
                  try simp only [List.setIfInBounds_toArray, List.set_cons_zero, List.set_cons_succ]
                  refine wpAnyH_done (by kernel_rfl) ?_ _
                  clear hHeld
                  go_upto_region 21 with fail
                  have b0 : Below w11.heap.size w11 w11.drew := below_drewN (Below.refl _ w11) 1
                  have H12 := H11.below b0
                  have q12 := pq_below q11 b0
                  clear b0 H11 q11
                  refine wp_region_held_drew (S := fun W => TC t L.s L.v R.d R.q W ∧ PC G k q n b W) (by kernel_rfl) ⟨H12.tc, pc_of q12⟩ (fun hHeld => ?_)
                  refine reg_take (i := 0) (v := ?_) rfl rfl (by kernel_rfl) (by kernel_rfl) (by kernel_rfl) (fun _ _ _ h => h) (by assumption) (by rfl) ?_ ?_
                  rotate_left 1
                  · (intro w hSw; (try dsimp only at hSw); go_simp; try with_reducible rfl)
                  try simp only [List.setIfInBounds_toArray, List.set_cons_zero, List.set_cons_succ]
                  refine reg_take (i := 1) (v := ?_) rfl rfl (by kernel_rfl) (by kernel_rfl) (by kernel_rfl) (fun _ _ _ h => h) (by assumption) (by rfl) ?_ ?_
                  rotate_left 1
                  · (intro w hSw; (try dsimp only at hSw); go_simp; try with_reducible rfl)
                  try simp only [List.setIfInBounds_toArray, List.set_cons_zero, List.set_cons_succ]
                  refine reg_take (i := 2) (v := ?_) rfl rfl (by kernel_rfl) (by kernel_rfl) (by kernel_rfl) (fun _ _ _ h => h) (by assumption) (by rfl) ?_ ?_
                  rotate_left 1
                  · (intro w hSw; (try dsimp only at hSw); go_simp; try with_reducible rfl)
                  try simp only [List.setIfInBounds_toArray, List.set_cons_zero, List.set_cons_succ]
                  refine reg_take (i := 3) (v := ?_) rfl rfl (by kernel_rfl) (by kernel_rfl) (by kernel_rfl) (fun _ _ _ h => h) (by assumption) (by rfl) ?_ ?_
                  rotate_left 1
                  · (intro w hSw; (try dsimp only at hSw); go_simp; try with_reducible rfl)
                  try simp only [List.setIfInBounds_toArray, List.set_cons_zero, List.set_cons_succ]
                  refine reg_take (i := 4) (v := ?_) rfl rfl (by kernel_rfl) (by kernel_rfl) (by kernel_rfl) (fun _ _ _ h => h) (by assumption) (by rfl) ?_ ?_
                  rotate_left 1
                  · (intro w hSw; (try dsimp only at hSw); go_simp; try with_reducible rfl)
                  try simp only [List.setIfInBounds_toArray, List.set_cons_zero, List.set_cons_succ]
                  refine reg_take (i := 5) (v := ?_) rfl rfl (by kernel_rfl) (by kernel_rfl) (by kernel_rfl) (fun _ _ _ h => h) (by assumption) (by rfl) ?_ ?_
                  rotate_left 1
                  · (intro w hSw; (try dsimp only at hSw); go_simp; try with_reducible rfl)
                  try simp only [List.setIfInBounds_toArray, List.set_cons_zero, List.set_cons_succ]
                  refine reg_take (i := 6) (v := ?_) rfl rfl (by kernel_rfl) (by kernel_rfl) (by kernel_rfl) (fun _ _ _ h => h) (by assumption) (by rfl) ?_ ?_
                  rotate_left 1
                  · (intro w hSw; (try dsimp only at hSw); go_simp; try with_reducible rfl)
                  try simp only [List.setIfInBounds_toArray, List.set_cons_zero, List.set_cons_succ]
                  refine reg_step (i := 7) (by kernel_rfl) rfl (by rfl) (fun KC hKC => ?_)
                  go_simp
                  refine (rpwrite_any R st q d hd2 _ H12.p.r).mono ?_; rintro e w13 ⟨rfl, hv13, t13⟩
                  have H13 := H12.right hv13 t13 (fun i q => by omega)
                  have q13 := H12.pqR q12 t13 (fun i q => by omega)
                  clear H12 q12 hv13 t13 hHeld
                  refine hKC.out _ _ ?_ (fun hHeld => ?_)
                  · exact ⟨H13.tc, pc_of q13⟩
                  clear hKC KC
                  refine reg_take (i := 8) (v := ?_) rfl rfl (by kernel_rfl) (by kernel_rfl) (by kernel_rfl) (fun _ _ _ h => h) (by assumption) (by rfl) ?_ ?_
                  rotate_left 1
                  · (intro w hSw; (try dsimp only at hSw); go_simp; try with_reducible rfl)
                  try simp only [List.setIfInBounds_toArray, List.set_cons_zero, List.set_cons_succ]
                  refine reg_take (i := 9) (v := ?_) rfl rfl (by kernel_rfl) (by kernel_rfl) (by kernel_rfl) (fun _ _ _ h => h) (by assumption) (by rfl) ?_ ?_
                  rotate_left 1
                  · (intro w hSw; (try dsimp only at hSw); go_simp; try with_reducible rfl)
                  try simp only [List.setIfInBounds_toArray, List.set_cons_zero, List.set_cons_succ]
                  refine reg_take (i := 10) (v := ?_) rfl rfl (by kernel_rfl) (by kernel_rfl) (by kernel_rfl) (fun _ _ _ h => h) (by assumption) (by rfl) ?_ ?_
                  rotate_left 1
                  · (intro w hSw; (try dsimp only at hSw); go_simp; try with_reducible rfl)
                  try simp only [List.setIfInBounds_toArray, List.set_cons_zero, List.set_cons_succ]
                  refine reg_take (i := 11) (v := ?_) rfl rfl (by kernel_rfl) (by kernel_rfl) (by kernel_rfl) (fun _ _ _ h => h) (by assumption) (by rfl) ?_ ?_
                  rotate_left 1
                  · (intro w hSw; (try dsimp only at hSw); go_simp; try with_reducible rfl)
                  try simp only [List.setIfInBounds_toArray, List.set_cons_zero, List.set_cons_succ]
                  refine reg_take (i := 12) (v := ?_) rfl rfl (by kernel_rfl) (by kernel_rfl) (by kernel_rfl) (fun _ _ _ h => h) (by assumption) (by rfl) ?_ ?_
                  rotate_left 1
                  · (intro w hSw; (try dsimp only at hSw); go_simp; try with_reducible rfl)
                  try simp only [List.setIfInBounds_toArray, List.set_cons_zero, List.set_cons_succ]
                  refine wpAnyH_done (by kernel_rfl) ?_ _
                  clear hHeld
                  go_wp2_with fail
                  go_meet
                  case rel => exact ⟨by simp, ⟨_, L, R, H13, O.pWrite _ _⟩, q13⟩
              by_cases k4 : k = 4
              ·
                as_aux_lemma =>
                  go_upto_region 24 with fail
                  have b0 : Below W1.heap.size W1 W1.drew := below_drewN (Below.refl _ W1) 1
                  have H1 := H0.below b0
                  have q1 := pq_below q0 b0
                  clear b0 H0 q0
                  refine wp_region_held_drew (S := fun W => TC t L.s L.v R.d R.q W ∧ PC G k q n b W) (by kernel_rfl) ⟨H1.tc, pc_of q1⟩ (fun hHeld => ?_)
                  refine reg_take (i := 0) (v := ?_) rfl rfl (by kernel_rfl) (by kernel_rfl) (by kernel_rfl) (fun _ _ _ h => h) (by assumption) (by rfl) ?_ ?_
                  rotate_left 1
                  · (intro w hSw; (try dsimp only at hSw); go_simp; try with_reducible rfl)
                  try simp only [List.setIfInBounds_toArray, List.set_cons_zero, List.set_cons_succ]
                  refine reg_take (i := 1) (v := ?_) rfl rfl (by kernel_rfl) (by kernel_rfl) (by kernel_rfl) (fun _ _ _ h => h) (by assumption) (by rfl) ?_ ?_
                  rotate_left 1
                  · (intro w hSw; (try dsimp only at hSw); go_simp; try with_reducible rfl)
                  try simp only [List.setIfInBounds_toArray, List.set_cons_zero, List.set_cons_succ]
                  refine reg_take (i := 2) (v := ?_) rfl rfl (by kernel_rfl) (by kernel_rfl) (by kernel_rfl) (fun _ _ _ h => h) (by assumption) (by rfl) ?_ ?_
                  rotate_left 1
                  · (intro w hSw; (try dsimp only at hSw); go_simp; try with_reducible rfl)
                  try simp only [List.setIfInBounds_toArray, List.set_cons_zero, List.set_cons_succ]
                  refine reg_take (i := 3) (v := ?_) rfl rfl (by kernel_rfl) (by kernel_rfl) (by kernel_rfl) (fun _ _ _ h => h) (by assumption) (by rfl) ?_ ?_
                  rotate_left 1
                  · (intro w hSw; (try dsimp only at hSw); go_simp; try with_reducible rfl)
                  try simp only [List.setIfInBounds_toArray, List.set_cons_zero, List.set_cons_succ]
                  refine reg_take (i := 4) (v := ?_) rfl rfl (by kernel_rfl) (by kernel_rfl) (by kernel_rfl) (fun _ _ _ h => h) (by assumption) (by rfl) ?_ ?_
                  rotate_left 1
                  · (intro w hSw; (try dsimp only at hSw); go_simp; try with_reducible rfl)
                  try simp only [List.setIfInBounds_toArray, List.set_cons_zero, List.set_cons_succ]
                  refine reg_take (i := 5) (v := ?_) rfl rfl (by kernel_rfl) (by kernel_rfl) (by kernel_rfl) (fun _ _ _ h => h) (by assumption) (by rfl) ?_ ?_
                  rotate_left 1
                  · (intro w hSw; (try dsimp only at hSw); go_simp; try with_reducible rfl)
                  try simp only [List.setIfInBounds_toArray, List.set_cons_zero, List.set_cons_succ]
                  refine reg_take (i := 6) (v := ?_) rfl rfl (by kernel_rfl) (by kernel_rfl) (by kernel_rfl) (fun _ _ _ h => h) (by assumption) (by rfl) ?_ ?_
                  rotate_left 1
                  · (intro w hSw; (try dsimp only at hSw); go_simp; try with_reducible rfl)
                  try simp only [List.setIfInBounds_toArray, List.set_cons_zero, List.set_cons_succ]
                  refine reg_take (i := 7) (v := ?_) rfl rfl (by kernel_rfl) (by kernel_rfl) (by kernel_rfl) (fun _ _ _ h => h) (by assumption) (by rfl) ?_ ?_
                  rotate_left 1
                  · (intro w hSw; (try dsimp only at hSw); go_simp; try with_reducible rfl)
                  try simp only [List.setIfInBounds_toArray, List.set_cons_zero, List.set_cons_succ]
                  refine reg_take (i := 8) (v := ?_) rfl rfl (by kernel_rfl) (by kernel_rfl) (by kernel_rfl) (fun _ _ _ h => h) (by assumption) (by rfl) ?_ ?_
                  rotate_left 1
                  · (intro w hSw; (try dsimp only at hSw); go_simp; try with_reducible rfl)
                  try simp only [List.setIfInBounds_toArray, List.set_cons_zero, List.set_cons_succ]
                  refine reg_take (i := 9) (v := ?_) rfl rfl (by kernel_rfl) (by kernel_rfl) (by kernel_rfl) (fun _ _ _ h => h) (by assumption) (by rfl) ?_ ?_
                  rotate_left 1
                  · (intro w hSw; (try dsimp only at hSw); go_simp; try with_reducible rfl)
                  try simp only [List.setIfInBounds_toArray, List.set_cons_zero, List.set_cons_succ]
                  refine reg_take (i := 11) (v := ?_) rfl rfl (by kernel_rfl) (by kernel_rfl) (by kernel_rfl) (fun _ _ _ h => h) (by assumption) (by rfl) ?_ ?_
                  rotate_left 1
                  · (intro w hSw; (try dsimp only at hSw); go_simp; try with_reducible rfl)
                  try simp only [List.setIfInBounds_toArray, List.set_cons_zero, List.set_cons_succ]
                  refine reg_take (i := 12) (v := ?_) rfl rfl (by kernel_rfl) (by kernel_rfl) (by kernel_rfl) (fun _ _ _ h => h) (by assumption) (by rfl) ?_ ?_
                  rotate_left 1
                  · (intro w hSw; (try dsimp only at hSw); go_simp; try with_reducible rfl)
                  try simp only [List.setIfInBounds_toArray, List.set_cons_zero, List.set_cons_succ]
                  refine reg_take (i := 13) (v := ?_) rfl rfl (by kernel_rfl) (by kernel_rfl) (by kernel_rfl) (fun _ _ _ h => h) (by assumption) (by rfl) ?_ ?_
                  rotate_left 1
                  · (intro w hSw; (try dsimp only at hSw); go_simp; try with_reducible rfl)
                  try simp only [List.setIfInBounds_toArray, List.set_cons_zero, List.set_cons_succ]
                  refine reg_take (i := 14) (v := ?_) rfl rfl (by kernel_rfl) (by kernel_rfl) (by kernel_rfl) (fun _ _ _ h => h) (by assumption) (by rfl) ?_ ?_
                  rotate_left 1
                  · (intro w hSw; (try dsimp only at hSw); go_simp; try with_reducible rfl)
                  try simp only [List.setIfInBounds_toArray, List.set_cons_zero, List.set_cons_succ]
                  refine reg_take (i := 15) (v := ?_) rfl rfl (by kernel_rfl) (by kernel_rfl) (by kernel_rfl) (fun _ _ _ h => h) (by assumption) (by rfl) ?_ ?_
                  rotate_left 1
                  · (intro w hSw; (try dsimp only at hSw); go_simp; try with_reducible rfl)
                  try simp only [List.setIfInBounds_toArray, List.set_cons_zero, List.set_cons_succ]
                  refine reg_take (i := 16) (v := ?_) rfl rfl (by kernel_rfl) (by kernel_rfl) (by kernel_rfl) (fun _ _ _ h => h) (by assumption) (by rfl) ?_ ?_
                  rotate_left 1
                  · (intro w hSw; (try dsimp only at hSw); go_simp; try with_reducible rfl)
                  try simp only [List.setIfInBounds_toArray, List.set_cons_zero, List.set_cons_succ]
                  refine reg_take (i := 17) (v := ?_) rfl rfl (by kernel_rfl) (by kernel_rfl) (by kernel_rfl) (fun _ _ _ h => h) (by assumption) (by rfl) ?_ ?_
                  rotate_left 1
                  · (intro w hSw; (try dsimp only at hSw); go_simp; try with_reducible rfl)
                  try simp only [List.setIfInBounds_toArray, List.set_cons_zero, List.set_cons_succ]
                  refine reg_take (i := 18) (v := ?_) rfl rfl (by kernel_rfl) (by kernel_rfl) (by kernel_rfl) (fun _ _ _ h => h) (by assumption) (by rfl) ?_ ?_
                  rotate_left 1
                  · (intro w hSw; (try dsimp only at hSw); go_simp; try with_reducible rfl)
                  try simp only [List.setIfInBounds_toArray, List.set_cons_zero, List.set_cons_succ]
                  refine reg_take (i := 19) (v := ?_) rfl rfl (by kernel_rfl) (by kernel_rfl) (by kernel_rfl) (fun _ _ _ h => h) (by assumption) (by rfl) ?_ ?_
                  rotate_left 1
                  · (intro w hSw; (try dsimp only at hSw); go_simp; try with_reducible rfl)
                  try simp only [List.setIfInBounds_toArray, List.set_cons_zero, List.set_cons_succ]
                  refine reg_take (i := 20) (v := ?_) rfl rfl (by kernel_rfl) (by kernel_rfl) (by kernel_rfl) (fun _ _ _ h => h) (by assumption) (by rfl) ?_ ?_
                  rotate_left 1
                  · (intro w hSw; (try dsimp only at hSw); go_simp; try with_reducible rfl)
                  try simp only [List.setIfInBounds_toArray, List.set_cons_zero, List.set_cons_succ]
                  refine reg_step (i := 10) (by kernel_rfl) rfl (by rfl) (fun KC hKC => ?_)
                  go_simp
                  refine (pends_any L st q b n _ H1.p.v).mono ?_; rintro e w2 ⟨rfl, hv2, t2⟩
                  have H2 := H1.left hv2 t2 (fun i q => by omega)
                  have q2 := H1.pqL q1 t2 (fun i q => by omega)
                  clear H1 q1 hv2 t2 hHeld
                  refine hKC.out _ _ ?_ (fun hHeld => ?_)
                  · exact ⟨H2.tc, pc_of q2⟩
                  clear hKC KC
                  refine reg_step (i := 21) (by kernel_rfl) rfl (by rfl) (fun KC hKC => ?_)
                  go_simp
                  refine (rends_any R st q b n _ H2.p.r).mono ?_; rintro e w3 ⟨rfl, hv3, t3⟩
                  have H3 := H2.right hv3 t3 (fun i q => by omega)
                  have q3 := H2.pqR q2 t3 (fun i q => by omega)
                  clear H2 q2 hv3 t3 hHeld
                  refine hKC.out _ _ ?_ (fun hHeld => ?_)
                  · exact ⟨H3.tc, pc_of q3⟩
                  clear hKC KC
                  refine reg_take (i := 22) (v := ?_) rfl rfl (by kernel_rfl) (by kernel_rfl) (by kernel_rfl) (fun _ _ _ h => h) (by assumption) (by rfl) ?_ ?_
                  rotate_left 1
                  · (intro w hSw; (try dsimp only at hSw); go_simp; try with_reducible rfl)
                  try simp only [List.setIfInBounds_toArray, List.set_cons_zero, List.set_cons_succ]
                  refine reg_take (i := 23) (v := ?_) rfl rfl (by kernel_rfl) (by kernel_rfl) (by kernel_rfl) (fun _ _ _ h => h) (by assumption) (by rfl) ?_ ?_
                  rotate_left 1
                  · (intro w hSw; (try dsimp only at hSw); go_simp; try with_reducible rfl)
                  try simp only [List.setIfInBounds_toArray, List.set_cons_zero, List.set_cons_succ]
                  refine wpAnyH_done (by kernel_rfl) ?_ _
                  clear hHeld
                  go_wp2_with fail
                  go_meet
                  case rel => exact ⟨by simp, ⟨_, L, R, H3, O.pEnds _ _ _⟩, q3⟩
              by_cases k5 : k = 5
              ·
                as_aux_lemma =>
                  go_wp2_with fail
                  refine (dput_any w t L R st _ H0 O.v).mono ?_; rintro e w3 ⟨rfl, L', R', H3, T3⟩
                  have q3 : PQ G k q n b w3 := blk_of_turn T3 q0 (by
                    have h1 := H0.p.far q0 (by decide)
                    have h2 : G ≠ t := fun e => by
                      have h3 := H0.tw
                      rw [← e] at h3
                      unfold TwoAt at h3
                      rw [q0] at h3
                      injection h3 with h3
                      injection h3 with _ h3
                      cases h3
                    omega)
                  clear H0 q0 T3
                  go_wp2_with fail
                  go_meet
                  case rel => exact ⟨rfl, ⟨_, L', R', H3, O.all⟩, q3⟩
              go_wp2_with fail
              go_meet
              case rel => exact ⟨rfl, ⟨st, L, R, H0, O⟩, q0⟩
            case rest =>
              clear H0 q0 O
              obtain ⟨rfl, ⟨st, L, R, H0, O⟩, q0⟩ := hcut
              as_aux_lemma =>
                have O2 := O.pSaw q
                go_upto_region 27 with fail
                have b0 : Below wc.heap.size wc wc.drew := below_drewN (Below.refl _ wc) 1
                have H1 := H0.below b0
                have q1 := pq_below q0 b0
                clear b0 H0 q0
                refine wp_region_held_drew (S := fun W => TC t L.s L.v R.d R.q W ∧ PC G k q n b W) (by kernel_rfl) ⟨H1.tc, pc_of q1⟩ (fun hHeld => ?_)
                refine reg_take (i := 0) (v := ?_) rfl rfl (by kernel_rfl) (by kernel_rfl) (by kernel_rfl) (fun _ _ _ h => h) (by assumption) (by rfl) ?_ ?_
                rotate_left 1
                · (intro w hSw; (try dsimp only at hSw); go_simp; try with_reducible rfl)
                try simp only [List.setIfInBounds_toArray, List.set_cons_zero, List.set_cons_succ]
                refine reg_take (i := 1) (v := ?_) rfl rfl (by kernel_rfl) (by kernel_rfl) (by kernel_rfl) (fun _ _ _ h => h) (by assumption) (by rfl) ?_ ?_
                rotate_left 1
                · (intro w hSw; (try dsimp only at hSw); go_simp; try with_reducible rfl)
                try simp only [List.setIfInBounds_toArray, List.set_cons_zero, List.set_cons_succ]
                refine reg_take (i := 2) (v := ?_) rfl rfl (by kernel_rfl) (by kernel_rfl) (by kernel_rfl) (fun _ _ _ h => h) (by assumption) (by rfl) ?_ ?_
                rotate_left 1
                · (intro w hSw; (try dsimp only at hSw); go_simp; try with_reducible rfl)
                try simp only [List.setIfInBounds_toArray, List.set_cons_zero, List.set_cons_succ]
                refine reg_take (i := 3) (v := ?_) rfl rfl (by kernel_rfl) (by kernel_rfl) (by kernel_rfl) (fun _ _ _ h => h) (by assumption) (by rfl) ?_ ?_
                rotate_left 1
                · (intro w hSw; (try dsimp only at hSw); go_simp; try with_reducible rfl)
                try simp only [List.setIfInBounds_toArray, List.set_cons_zero, List.set_cons_succ]
                refine reg_take (i := 4) (v := ?_) rfl rfl (by kernel_rfl) (by kernel_rfl) (by kernel_rfl) (fun _ _ _ h => h) (by assumption) (by rfl) ?_ ?_
                rotate_left 1
                · (intro w hSw; (try dsimp only at hSw); go_simp; try with_reducible rfl)
                try simp only [List.setIfInBounds_toArray, List.set_cons_zero, List.set_cons_succ]
                refine reg_take (i := 5) (v := ?_) rfl rfl (by kernel_rfl) (by kernel_rfl) (by kernel_rfl) (fun _ _ _ h => h) (by assumption) (by rfl) ?_ ?_
                rotate_left 1
                · (intro w hSw; (try dsimp only at hSw); go_simp; try with_reducible rfl)
                try simp only [List.setIfInBounds_toArray, List.set_cons_zero, List.set_cons_succ]
                refine reg_take (i := 6) (v := ?_) rfl rfl (by kernel_rfl) (by kernel_rfl) (by kernel_rfl) (fun _ _ _ h => h) (by assumption) (by rfl) ?_ ?_
                rotate_left 1
                · (intro w hSw; (try dsimp only at hSw); go_simp; try with_reducible rfl)
                try simp only [List.setIfInBounds_toArray, List.set_cons_zero, List.set_cons_succ]
                refine reg_take (i := 7) (v := ?_) rfl rfl (by kernel_rfl) (by kernel_rfl) (by kernel_rfl) (fun _ _ _ h => h) (by assumption) (by rfl) ?_ ?_
                rotate_left 1
                · (intro w hSw; (try dsimp only at hSw); go_simp; try with_reducible rfl)
                try simp only [List.setIfInBounds_toArray, List.set_cons_zero, List.set_cons_succ]
                refine reg_take (i := 8) (v := ?_) rfl rfl (by kernel_rfl) (by kernel_rfl) (by kernel_rfl) (fun _ _ _ h => h) (by assumption) (by rfl) ?_ ?_
                rotate_left 1
                · (intro w hSw; (try dsimp only at hSw); go_simp; try with_reducible rfl)
                try simp only [List.setIfInBounds_toArray, List.set_cons_zero, List.set_cons_succ]
                refine reg_take (i := 10) (v := ?_) rfl rfl (by kernel_rfl) (by kernel_rfl) (by kernel_rfl) (fun _ _ _ h => h) (by assumption) (by rfl) ?_ ?_
                rotate_left 1
                · (intro w hSw; (try dsimp only at hSw); go_simp; try with_reducible rfl)
                try simp only [List.setIfInBounds_toArray, List.set_cons_zero, List.set_cons_succ]
                refine reg_take (i := 11) (v := ?_) rfl rfl (by kernel_rfl) (by kernel_rfl) (by kernel_rfl) (fun _ _ _ h => h) (by assumption) (by rfl) ?_ ?_
                rotate_left 1
                · (intro w hSw; (try dsimp only at hSw); go_simp; try with_reducible rfl)
                try simp only [List.setIfInBounds_toArray, List.set_cons_zero, List.set_cons_succ]
                refine reg_take (i := 12) (v := ?_) rfl rfl (by kernel_rfl) (by kernel_rfl) (by kernel_rfl) (fun _ _ _ h => h) (by assumption) (by rfl) ?_ ?_
                rotate_left 1
                · (intro w hSw; (try dsimp only at hSw); go_simp; try with_reducible rfl)
                try simp only [List.setIfInBounds_toArray, List.set_cons_zero, List.set_cons_succ]
                refine reg_take (i := 13) (v := ?_) rfl rfl (by kernel_rfl) (by kernel_rfl) (by kernel_rfl) (fun _ _ _ h => h) (by assumption) (by rfl) ?_ ?_
                rotate_left 1
                · (intro w hSw; (try dsimp only at hSw); go_simp; try with_reducible rfl)
                try simp only [List.setIfInBounds_toArray, List.set_cons_zero, List.set_cons_succ]
                refine reg_take (i := 14) (v := ?_) rfl rfl (by kernel_rfl) (by kernel_rfl) (by kernel_rfl) (fun _ _ _ h => h) (by assumption) (by rfl) ?_ ?_
                rotate_left 1
                · (intro w hSw; (try dsimp only at hSw); go_simp; try with_reducible rfl)
                try simp only [List.setIfInBounds_toArray, List.set_cons_zero, List.set_cons_succ]
                refine reg_take (i := 15) (v := ?_) rfl rfl (by kernel_rfl) (by kernel_rfl) (by kernel_rfl) (fun _ _ _ h => h) (by assumption) (by rfl) ?_ ?_
                rotate_left 1
                · (intro w hSw; (try dsimp only at hSw); go_simp; try with_reducible rfl)
                try simp only [List.setIfInBounds_toArray, List.set_cons_zero, List.set_cons_succ]
                refine reg_step (i := 9) (by kernel_rfl) rfl (by rfl) (fun KC hKC => ?_)
                go_simp
                refine (pis_any L st q _ H1.p.v).mono ?_; rintro e w2 ⟨rfl, hv2, t2⟩
                have H2 := H1.left hv2 t2 (fun i q => by omega)
                have q2 := H1.pqL q1 t2 (fun i q => by omega)
                clear H1 q1 hv2 t2 hHeld
                refine hKC.out _ _ ?_ (fun hHeld => ?_)
                · exact ⟨H2.tc, pc_of q2⟩
                clear hKC KC
                refine reg_step (i := 16) (by kernel_rfl) rfl (by rfl) (fun KC hKC => ?_)
                go_simp
                refine (rispipe_any R st q _ H2.p.r).mono ?_; rintro e w3 ⟨rfl, hv3, t3⟩
                have H3 := H2.right hv3 t3 (fun i q => by omega)
                have q3 := H2.pqR q2 t3 (fun i q => by omega)
                clear H2 q2 hv3 t3 hHeld
                refine hKC.out _ _ ?_ (fun hHeld => ?_)
                · exact ⟨H3.tc, pc_of q3⟩
                clear hKC KC
                refine reg_take (i := 17) (v := ?_) rfl rfl (by kernel_rfl) (by kernel_rfl) (by kernel_rfl) (fun _ _ _ h => h) (by assumption) (by rfl) ?_ ?_
                rotate_left 1
                · (intro w hSw; (try dsimp only at hSw); go_simp; try with_reducible rfl)
                try simp only [List.setIfInBounds_toArray, List.set_cons_zero, List.set_cons_succ]
                refine reg_take (i := 18) (v := ?_) rfl rfl (by kernel_rfl) (by kernel_rfl) (by kernel_rfl) (fun _ _ _ h => h) (by assumption) (by rfl) ?_ ?_
                rotate_left 1
                · (intro w hSw; (try dsimp only at hSw); go_simp; try with_reducible rfl)
                try simp only [List.setIfInBounds_toArray, List.set_cons_zero, List.set_cons_succ]
                refine reg_take (i := 19) (v := ?_) rfl rfl (by kernel_rfl) (by kernel_rfl) (by kernel_rfl) (fun _ _ _ h => h) (by assumption) (by rfl) ?_ ?_
                rotate_left 1
                · (intro w hSw; (try dsimp only at hSw); go_simp; try with_reducible rfl)
                try simp only [List.setIfInBounds_toArray, List.set_cons_zero, List.set_cons_succ]
                refine reg_take (i := 20) (v := ?_) rfl rfl (by kernel_rfl) (by kernel_rfl) (by kernel_rfl) (fun _ _ _ h => h) (by assumption) (by rfl) ?_ ?_
                rotate_left 1
                · (intro w hSw; (try dsimp only at hSw); go_simp; try with_reducible rfl)
                try simp only [List.setIfInBounds_toArray, List.set_cons_zero, List.set_cons_succ]
                refine reg_step (i := 21) (by kernel_rfl) rfl (by rfl) (fun KC hKC => ?_)
                go_simp
                refine (dsame_any H3 O2.v).mono ?_; rintro e w4 ⟨rfl, t4⟩
                have H4 := H3.below t4
                have q4 := pq_below q3 t4
                clear H3 q3 t4 hHeld
                refine hKC.out _ _ ?_ (fun hHeld => ?_)
                · exact ⟨H4.tc, pc_of q4⟩
                clear hKC KC
                refine reg_take (i := 22) (v := ?_) rfl rfl (by kernel_rfl) (by kernel_rfl) (by kernel_rfl) (fun _ _ _ h => h) (by assumption) (by rfl) ?_ ?_
                rotate_left 1
                · (intro w hSw; (try dsimp only at hSw); go_simp; try with_reducible rfl)
                try simp only [List.setIfInBounds_toArray, List.set_cons_zero, List.set_cons_succ]
                refine reg_take (i := 23) (v := ?_) rfl rfl (by kernel_rfl) (by kernel_rfl) (by kernel_rfl) (fun _ _ _ h => h) (by assumption) (by rfl) ?_ ?_
                rotate_left 1
                · (intro w hSw; (try dsimp only at hSw); go_simp; try with_reducible rfl)
                try simp only [List.setIfInBounds_toArray, List.set_cons_zero, List.set_cons_succ]
                refine wpAnyH_done (by kernel_rfl) ?_ _
                clear hHeld q4
                go_wp2_with fail
                exact ⟨⟨rfl, j + 1, by omega, by go_num, _, L, R, H4, O2⟩, by simp [intOf]; omega⟩
          · go_wp2_with fail
            go_meet
            case rel => exact ⟨rfl, st, L, R, H, O⟩
        · have l1 : ¬ (j : Int) < (len1 : Int) := by omega
          go_wp2_with fail
          go_meet
          case rel => exact ⟨rfl, st, L, R, H, O⟩
  case rest =>
    clear I0 w1
    obtain ⟨rfl, st, L, R, H, O⟩ := hcut
    as_aux_lemma =>
      have hb := H.p.b
      clear H O
      go_wp2_with fail
      refine (pruns_any _).mono ?_; rintro e w5 ⟨rfl, t5⟩
      go_wp2_with fail
      go_ret
      exact ⟨rfl, hb.trans (t5.mono hb.size)⟩
end Go.Proofs.Ytfcgkjbifnhjjaa.St
