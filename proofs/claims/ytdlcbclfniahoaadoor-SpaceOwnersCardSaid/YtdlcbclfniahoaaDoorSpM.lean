/- What cloisterlaw16.SpaceMemory leans on. No condition but those written in each statement. -/
import Derived.Test.YtdlcbclfniahoaaDoorSpK
import Derived.Test.YtdlcbclfniahoaaDoorDoorS
import Derived.Test.YtdlcbclfniahoaaDoorWithin
import Derived.Test.YtdlcbclfniahoaaDoorText
import Derived.Deep.RegionHeld3
import Derived.Deep.DrawnRows
namespace Go.Proofs.YtdlcbclfniahoaaDoor.St
open Go.RowKit
set_option linter.unusedVariables false

/-! ### The states of SpaceMemory -/
def me0 : SpS := pS (2 ^ 20 - 1)
def me1 (X : Nat) : SpS := gA me0 0 X
def me2 (X : Nat) (D : ByteArray) : SpS := ⟨(me1 X).f, (me1 X).wy, (me1 X).X, updF (me1 X).M 0 D⟩
def me3 (X Y : Nat) (D : ByteArray) : SpS := gA (me2 X D) 0 Y
def me4 (X Y : Nat) (D : ByteArray) (Z : Nat) : SpS := hA (me3 X Y D) 0 Z
def me5 (X Y : Nat) (D : ByteArray) (Z : Nat) : SpS := gA (me4 X Y D Z) 0 1
theorem me1_is : ∀ X : Nat, X < 4 → gOk me0 0 X = true ∧ ((me1 X).X 0).size = X ∧ ones64 (IntKind.u64.wrap (me1 X).f) = 20 - (X : Int) ∧ (∀ p, p < 2 → ((me1 X).X p).size ≤ 1000) ∧ (∀ p, p < 2 → ((me1 X).M p).size ≤ 1000) ∧ (me1 X).X 1 = ByteArray.empty ∧ (me1 X).M 1 = ByteArray.empty := by decide +kernel
theorem updF_size {F : Nat → ByteArray} {s : ByteArray} {N : Nat} (h : ∀ p, p < 2 → (F p).size ≤ N) (hs : s.size ≤ N) : ∀ p, p < 2 → (updF F 0 s p).size ≤ N := by
  intro p hp
  by_cases e : p = 0
  · rw [e, updF_same]; exact hs
  · rw [updF_other _ _ _ _ e]; exact h p hp
theorem me2_ok (X Y : Nat) (D : ByteArray) (hX : X < 4) (hY : Y < 4) : gOk (me2 X D) 0 Y = true := by
  obtain ⟨_, h2, h3, _⟩ := me1_is X hX
  refine decide_eq_true ⟨by decide, by decide, by omega, ?_, ?_⟩
  · show (Y : Int) ≤ 6 - (((me1 X).X 0).size : Int)
    rw [h2]; omega
  · show (Y : Int) ≤ ones64 (IntKind.u64.wrap (me1 X).f)
    rw [h3]; omega
theorem me3_eq (X Y : Nat) (D : ByteArray) (hX : X < 4) (hY : Y < 4) : me3 X Y D = ⟨gN (me1 X).f Y, (me1 X).wy, updF (me1 X).X 0 (gS (me1 X).f ((me1 X).X 0) Y), updF (updF (me1 X).M 0 D) 0 (D ++ noughts (16 * Y))⟩ := by
  unfold me3 gA
  rw [if_pos (me2_ok X Y D hX hY)]
  show SpS.mk _ _ _ (updF (updF (me1 X).M 0 D) 0 ((updF (me1 X).M 0 D) 0 ++ noughts ((Y : Int) * 16).toNat)) = _
  rw [updF_same, show ((Y : Int) * 16).toNat = 16 * Y by omega]
  rfl
theorem me3_X (X Y : Nat) (D : ByteArray) (hX : X < 4) (hY : Y < 4) : ((me3 X Y D).X 0).size = X + Y := by
  rw [me3_eq X Y D hX hY]
  show (updF (me1 X).X 0 (gS (me1 X).f ((me1 X).X 0) Y) 0).size = _
  rw [updF_same, gS_size, (me1_is X hX).2.1]
theorem me3_M (X Y : Nat) (D : ByteArray) (hX : X < 4) (hY : Y < 4) : (me3 X Y D).M 0 = D ++ noughts (16 * Y) := by
  rw [me3_eq X Y D hX hY]
  show updF (updF (me1 X).M 0 D) 0 (D ++ noughts (16 * Y)) 0 = _
  exact updF_same _ _ _
theorem me3_f (X Y : Nat) (D : ByteArray) (hX : X < 4) (hY : Y < 4) : ones64 (IntKind.u64.wrap (me3 X Y D).f) = 20 - (X : Int) - Y := by
  rw [me3_eq X Y D hX hY]
  have h3 := (me1_is X hX).2.2.1
  rw [gN_ones (me1 X).f Y (by rw [h3]; omega) Y (Nat.le_refl _), h3]
theorem me3_size (X Y : Nat) (D : ByteArray) (hX : X < 4) (hY : Y < 4) (hD : D.size = 16 * X) : (∀ p, p < 2 → ((me3 X Y D).X p).size ≤ 1000) ∧ (∀ p, p < 2 → ((me3 X Y D).M p).size ≤ 1000) := by
  obtain ⟨_, h2, h3, h4, h5, _⟩ := me1_is X hX
  rw [me3_eq X Y D hX hY]
  refine ⟨updF_size h4 ?_, updF_size (updF_size h5 (by omega)) ?_⟩
  · rw [gS_size, h2]; omega
  · rw [ByteArray.size_append, noughts_size]; omega
theorem me3_ok (X Y : Nat) (D : ByteArray) (Z : Nat) (hX : X < 4) (hY : Y < 4) (hZ : Z ≤ X + Y) : hOk (me3 X Y D) 0 Z = true :=
  decide_eq_true ⟨by decide, by decide, by omega, by show (Z : Int) ≤ (((me3 X Y D).X 0).size : Int); rw [me3_X X Y D hX hY]; omega⟩
/-- What is wanted. -/
def meW (X Y : Nat) (D : ByteArray) (Z : Nat) : ByteArray := (D ++ noughts (16 * Y)).extract 0 (16 * (X + Y - Z))
theorem meW_size (X Y : Nat) (D : ByteArray) (Z : Nat) (hD : D.size = 16 * X) : (meW X Y D Z).size = 16 * (X + Y - Z) := by
  unfold meW
  rw [ByteArray.size_extract, ByteArray.size_append, noughts_size]; omega
theorem me4_eq (X Y : Nat) (D : ByteArray) (Z : Nat) (hX : X < 4) (hY : Y < 4) (hZ : Z ≤ X + Y) (hD : D.size = 16 * X) :
    ((me4 X Y D Z).X 0).size = X + Y - Z ∧ (me4 X Y D Z).M 0 = meW X Y D Z ∧ (me4 X Y D Z).f = (me3 X Y D).f ∧ (me4 X Y D Z).X 1 = (me3 X Y D).X 1 ∧ (me4 X Y D Z).M 1 = (me3 X Y D).M 1 := by
  have hx := me3_X X Y D hX hY
  have hm := me3_M X Y D hX hY
  unfold me4 hA
  rw [if_pos (me3_ok X Y D Z hX hY hZ)]
  refine ⟨?_, ?_, rfl, rfl, rfl⟩
  · show (updF (me3 X Y D).X 0 (headS ((me3 X Y D).X 0) ((((me3 X Y D).X 0).size : Int) - Z)) 0).size = _
    rw [updF_same]
    unfold headS
    rw [ByteArray.size_extract, hx]
    omega
  · show updF (me3 X Y D).M 0 (headS ((me3 X Y D).M 0) (min (((me3 X Y D).M 0).size : Int) (((((me3 X Y D).X 0).size : Int) - Z) * 16))) 0 = _
    rw [updF_same, hm, hx]
    unfold headS meW
    have hs : (D ++ noughts (16 * Y)).size = 16 * (X + Y) := by rw [ByteArray.size_append, noughts_size]; omega
    rw [hs]
    congr 1
    omega
theorem me4_size (X Y : Nat) (D : ByteArray) (Z : Nat) (hX : X < 4) (hY : Y < 4) (hZ : Z ≤ X + Y) (hD : D.size = 16 * X) : (∀ p, p < 2 → ((me4 X Y D Z).X p).size ≤ 1000) ∧ (∀ p, p < 2 → ((me4 X Y D Z).M p).size ≤ 1000) := by
  obtain ⟨h1, h2, _, h4, h5⟩ := me4_eq X Y D Z hX hY hZ hD
  obtain ⟨z1, z2⟩ := me3_size X Y D hX hY hD
  constructor
  · intro p hp
    rcases (by omega : p = 0 ∨ p = 1) with rfl | rfl
    · rw [h1]; omega
    · rw [h4]; exact z1 1 (by omega)
  · intro p hp
    rcases (by omega : p = 0 ∨ p = 1) with rfl | rfl
    · rw [h2, meW_size X Y D Z hD]; omega
    · rw [h5]; exact z2 1 (by omega)
theorem me4_ok (X Y : Nat) (D : ByteArray) (Z : Nat) (hX : X < 4) (hY : Y < 4) (hZ : Z ≤ X + Y) (hD : D.size = 16 * X) : gOk (me4 X Y D Z) 0 1 = decide (((X + Y - Z : Nat) : Int) < 6) := by
  obtain ⟨h1, _, h3, _⟩ := me4_eq X Y D Z hX hY hZ hD
  unfold gOk
  rw [show (me4 X Y D Z).X (0 : Int).toNat = (me4 X Y D Z).X 0 from rfl, h1, h3, me3_f X Y D hX hY, Bool.eq_iff_iff]
  simp only [decide_eq_true_eq]
  omega
theorem me5_M (X Y : Nat) (D : ByteArray) (Z : Nat) (hX : X < 4) (hY : Y < 4) (hZ : Z ≤ X + Y) (hD : D.size = 16 * X) : ((me5 X Y D Z).M 0).extract 0 (meW X Y D Z).size = meW X Y D Z ∧ (meW X Y D Z).size ≤ ((me5 X Y D Z).M 0).size := by
  obtain ⟨_, h2, _⟩ := me4_eq X Y D Z hX hY hZ hD
  unfold me5 gA
  by_cases hg : gOk (me4 X Y D Z) 0 1 = true
  · rw [if_pos hg]
    show (updF (me4 X Y D Z).M 0 ((me4 X Y D Z).M 0 ++ noughts _) 0).extract 0 _ = _ ∧ _ ≤ (updF (me4 X Y D Z).M 0 ((me4 X Y D Z).M 0 ++ noughts _) 0).size
    rw [updF_same, h2]
    refine ⟨?_, by rw [ByteArray.size_append]; omega⟩
    generalize meW X Y D Z = u
    generalize noughts _ = v
    apply ByteArray.ext
    simp
  · rw [if_neg hg, h2]
    generalize meW X Y D Z = u
    refine ⟨?_, Nat.le_refl _⟩
    apply ByteArray.ext
    simp
/-- The text of so many bytes that were made. -/
theorem fold_noughts (n : Nat) : (List.replicate n (0 : Int)).foldl (fun r n => r.push (UInt8.ofNat n.toNat)) ByteArray.empty = noughts n := by
  have h : ∀ (n : Nat) (r : ByteArray), (List.replicate n (0 : Int)).foldl (fun r n => r.push (UInt8.ofNat n.toNat)) r = ⟨(r.data.toList ++ Lib.repeatL [0] n).toArray⟩ := by
    intro n
    induction n with
    | zero => intro r; apply ByteArray.ext; simp [Lib.repeatL]
    | succ n ih =>
      intro r
      rw [List.replicate_succ, List.foldl_cons, ih]
      apply ByteArray.ext
      show (((r.push _).data.toList ++ _).toArray) = _
      rw [ByteArray.data_push]
      simp [Lib.repeatL]
  rw [h]
  rfl
theorem run_noughts (W : World) (n m : Nat) (h : m = W.heap.size) : (convert 53 9 (.slice (some ⟨m, 0, none⟩) n n)).run Tryd.prog (W.alloc (.cells (byteRow (List.replicate n 0)) 5)) = .ok (.string (noughts n)) (W.alloc (.cells (byteRow (List.replicate n 0)) 5)) := by
  have := run_bytesText (List.replicate n 0) (W.alloc (.cells (byteRow (List.replicate n 0)) 5)) m (blk_alloc_at _ _ _ h)
  rw [List.length_replicate, fold_noughts] at this
  exact this
section
variable {w W : World} {t : Nat} {L : Lay} {d q : Nat} {st : VSt} {a : SpS}
theorem s_mem (S : Std w t L d q st W) (R : SR st a) (p : Nat) (hp : p < 2) :
    Calls Tryd.prog 15 #[.pointer (some ⟨L.v, 0, none⟩), keyV 12 p] W fun e W' => ∃ z : Val, e = .returned (.agg z.cells) ∧ z.s = a.M p ∧ ∃ st', SR st' a ∧ Std w t L d q st' W' ∧ Maps L W W' :=
  (vget_any L st 12 p W S.v).mono fun e W' ⟨h1, h2, h3⟩ => ⟨_, h1, R.m p hp, _, R.congr fun k j => get_saw _ _ _ _ _, S.step h2 (h3.mono fun _ _ => Or.inl), h3.mono fun _ _ => Or.inl⟩
theorem s_putM (S : Std w t L d q st W) (R : SR st a) (z : Val) :
    Calls Tryd.prog 17 #[.pointer (some ⟨L.v, 0, none⟩), keyV 12 0, .agg z.cells] W fun e W' => e = .returned (.tuple #[]) ∧ ∃ st', SR st' ⟨a.f, a.wy, a.X, updF a.M 0 z.s⟩ ∧ Std w t L d q st' W' ∧ Maps L W W' := by
  refine (vput_any L st 12 0 z W S.v).mono fun e W' ⟨h1, h2, h3⟩ => ⟨h1, _, ?_, S.step h2 (h3.mono fun _ _ => Or.inr), h3.mono fun _ _ => Or.inr⟩
  refine ⟨fun p hp => ?_, ?_, ?_, fun p hp => ?_, fun p hp => ?_⟩
  · rw [get_put_other _ _ _ _ _ _ (by omega)]; exact R.tab p hp
  · rw [get_put_other _ _ _ _ _ _ (by omega)]; exact R.f
  · rw [get_put_other _ _ _ _ _ _ (by omega)]; exact R.wy
  · rw [get_put_other _ _ _ _ _ _ (by omega)]; exact R.x p hp
  · by_cases e : p = 0
    · subst e
      rw [show ((0 : Nat) : Int) = 0 from rfl, get_put_same _ _ _ _ (by decide)]
      show z.s = updF a.M 0 z.s 0
      exact (updF_same _ _ _).symm
    · rw [get_put_other _ _ _ _ _ _ (by omega), R.m p hp]
      show a.M p = updF a.M 0 z.s p
      exact (updF_other _ _ _ _ e).symm
end
end Go.Proofs.YtdlcbclfniahoaaDoor.St
