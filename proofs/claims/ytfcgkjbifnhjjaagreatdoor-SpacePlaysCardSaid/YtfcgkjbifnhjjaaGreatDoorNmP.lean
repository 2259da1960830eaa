/- The plain laws of names and paths: a path's pieces, its names, which are right. No program in sight. No condition but those written in each statement. -/
import Derived.Test.YtfcgkjbifnhjjaaGreatDoorRows
import Derived.Lib.SplitLaws
import Derived.Lib.IndexLaws
import Derived.Lib.CutLaws
namespace Go.Proofs.YtfcgkjbifnhjjaaGreatDoor.St

set_option linter.unusedVariables false

/-- A path's pieces between slashes. -/
def pcs : List UInt8 → List (List UInt8)
  | [] => [[]]
  | c :: t => if c = 47 then [] :: pcs t else match pcs t with
    | [] => [[c]]
    | p :: r => (c :: p) :: r
theorem pcs_ne : ∀ l, pcs l ≠ []
  | [] => by simp [pcs]
  | c :: t => by
    unfold pcs
    split
    · simp
    · split <;> simp
theorem pcs_slash (t : List UInt8) : pcs (47 :: t) = [] :: pcs t := by simp [pcs]
theorem index_one_cons (b c : UInt8) (l : List UInt8) (h : b ≠ c) : Lib.index (b :: l) [c] = if Lib.index l [c] == -1 then -1 else Lib.index l [c] + 1 := by
  have hp : ([c] : List UInt8).isPrefixOf (b :: l) = false := by simp [List.isPrefixOf, Ne.symm h]
  rw [Lib.index, hp]; simp
theorem splitK_pcs : ∀ l : List UInt8, Lib.splitK [47] 0 (Lib.count l [47]) l = pcs l
  | [] => by rw [Lib.count_miss (by simp [Lib.index])]; rfl
  | c :: t => by
    have ih := splitK_pcs t
    by_cases h : c = 47
    · subst h
      rw [Lib.count_cons_eq, pcs_slash, Nat.add_comm]
      have hix : Lib.index (47 :: t) [47] = ((0 : Nat) : Int) := by rw [Lib.index]; simp [List.isPrefixOf]
      unfold Lib.splitK
      rw [hix]
      simp [ih]
    · rw [Lib.count_cons_ne c 47 t h]
      have hix := index_one_cons c 47 t h
      by_cases hm : Lib.index t [47] = -1
      · rw [Lib.count_miss hm] at ih ⊢
        unfold Lib.splitK at ih ⊢
        unfold pcs
        rw [if_neg h, ← ih]
      · have hge := Lib.index_ge t [47]
        obtain ⟨j, hj⟩ : ∃ j : Nat, Lib.index t [47] = j := ⟨(Lib.index t [47]).toNat, by omega⟩
        have hix' : Lib.index (c :: t) [47] = ((j + 1 : Nat) : Int) := by rw [hix, if_neg (fun e => hm (beq_iff_eq.1 e)), hj]; omega
        have hk : Lib.count t [47] = (Lib.count t [47] - 1) + 1 := by
          have := Lib.count_hit (s := t) (sub := [47]) (by simp) hj
          omega
        rw [hk] at ih ⊢
        unfold Lib.splitK at ih ⊢
        have n1 : ¬ (((j : Nat) : Int) == -1) = true := fun e => by have := beq_iff_eq.1 e; omega
        have n2 : ¬ (((j + 1 : Nat) : Int) == -1) = true := fun e => by have := beq_iff_eq.1 e; omega
        rw [hj, if_neg n1] at ih
        rw [hix', if_neg n2]
        unfold pcs
        rw [if_neg h, ← ih]
        simp [show ((j : Int) + 1).toNat = j + 1 by omega]

/-- The pieces that aren't empty. -/
def nePcs (ps : List (List UInt8)) : List (List UInt8) := ps.filter fun p => !p.isEmpty
theorem nePcs_cons (p : List UInt8) (r : List (List UInt8)) : nePcs (p :: r) = (if p = [] then [] else [p]) ++ nePcs r := by
  unfold nePcs
  cases p <;> simp
theorem nePcs_append (a b : List (List UInt8)) : nePcs (a ++ b) = nePcs a ++ nePcs b := by unfold nePcs; simp
/-- What was begun, put ahead of the first piece. -/
def glue (cur : List UInt8) : List (List UInt8) → List (List UInt8)
  | [] => [cur]
  | p :: r => (cur ++ p) :: r
theorem glue_nil {ps : List (List UInt8)} (h : ps ≠ []) : glue [] ps = ps := by
  cases ps with
  | nil => exact absurd rfl h
  | cons p r => rfl
theorem glue_step (cur t : List UInt8) (c : UInt8) (h : c ≠ 47) : glue cur (pcs (c :: t)) = glue (cur ++ [c]) (pcs t) := by
  have e : pcs (c :: t) = match pcs t with | [] => [[c]] | p :: r => (c :: p) :: r := by rw [pcs, if_neg h]
  rw [e]
  have := pcs_ne t
  cases hp : pcs t with
  | nil => exact absurd hp this
  | cons p r => simp [glue]
/-- A right name. -/
def rightL (l : List UInt8) : Bool := !l.isEmpty && decide (l.length ≤ 14) && !l.contains 47 && !l.contains 0
/-- The names of a path. -/
def namesL (l : List UInt8) : List (List UInt8) := nePcs (pcs l)
/-- May it be a path? -/
def splOk (l : List UInt8) : Bool := !l.isEmpty && decide (l.length ≤ 60) && (namesL l).all rightL
def bs (l : List UInt8) : ByteArray := ⟨l.toArray⟩
def splN (l : List UInt8) : List ByteArray := if splOk l then (namesL l).map bs else []
def splB (l : List UInt8) : Bool := splOk l && l.head? == some 47
theorem bs_list (s : ByteArray) : bs s.data.toList = s := by apply ByteArray.ext; unfold bs; simp
theorem list_bs (l : List UInt8) : (bs l).data.toList = l := by unfold bs; simp
theorem bs_size (l : List UInt8) : (bs l).size = l.length := by unfold bs; simp [ByteArray.size]
theorem size_list (s : ByteArray) : s.data.toList.length = s.size := by rw [Array.length_toList]; rfl
theorem splitB_pcs (s : ByteArray) : Lib.splitB ⟨#[47]⟩ 0 (Lib.countB s ⟨#[47]⟩) s = (pcs s.data.toList).map bs := by
  have h := Lib.splitB_data ⟨#[47]⟩ 0 (Lib.countB s ⟨#[47]⟩) s
  have h2 : Lib.splitK (⟨#[47]⟩ : ByteArray).data.toList 0 (Lib.countB s ⟨#[47]⟩) s.data.toList = pcs s.data.toList := splitK_pcs _
  rw [h2] at h
  rw [← h, List.map_map]
  conv => lhs; rw [← List.map_id (Lib.splitB ⟨#[47]⟩ 0 (Lib.countB s ⟨#[47]⟩) s)]
  exact List.map_congr_left fun x _ => (bs_list x).symm
theorem pcs_len : ∀ l, (pcs l).length ≤ l.length + 1
  | [] => by simp [pcs]
  | c :: t => by
    have := pcs_len t
    unfold pcs
    split
    · simp; omega
    · have hn := pcs_ne t
      split
      · simp
      · rename_i p r h
        rw [h] at this
        simp at this ⊢; omega
theorem nePcs_len (ps : List (List UInt8)) : (nePcs ps).length ≤ ps.length := List.length_filter_le _ _
theorem namesL_len (l : List UInt8) : (namesL l).length ≤ l.length + 1 := Nat.le_trans (nePcs_len _) (pcs_len l)
/-- A piece of a path is no longer than it. -/
theorem pcs_sub : ∀ (l : List UInt8) (p : List UInt8), p ∈ pcs l → p.length ≤ l.length ∧ ¬ 47 ∈ p
  | [], p, h => by simp [pcs] at h; subst h; simp
  | c :: t, p, h => by
    have ih := pcs_sub t
    unfold pcs at h
    split at h
    · rcases List.mem_cons.1 h with rfl | h
      · simp
      · have := ih p h; simp; exact ⟨by omega, this.2⟩
    · rename_i hc
      split at h
      · rename_i hp; exact absurd hp (pcs_ne t)
      · rename_i q r hp
        rcases List.mem_cons.1 h with rfl | h
        · have := ih q (by rw [hp]; simp)
          simp; exact ⟨this.1, fun e => hc e.symm, this.2⟩
        · have := ih p (by rw [hp]; simp [h]); simp; exact ⟨by omega, this.2⟩
theorem namesL_sub (l p : List UInt8) (h : p ∈ namesL l) : p ≠ [] ∧ p.length ≤ l.length ∧ ¬ 47 ∈ p := by
  unfold namesL nePcs at h
  rw [List.mem_filter] at h
  have := pcs_sub l p h.1
  exact ⟨by intro e; rw [e] at h; simp at h, this⟩
end Go.Proofs.YtfcgkjbifnhjjaaGreatDoor.St
