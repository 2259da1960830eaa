/- The contracts of name.Unpack and of the document's own Unpack. For a text of at most 2^20 bytes, where bytealg's variable holds a number. -/
import Derived.Test.YtcefigpdodlonaaDoorNmD
namespace Go.Proofs.YtcefigpdodlonaaDoor.St
open Go.RowKit
set_option linter.unusedVariables false

theorem cut_while (c : UInt8) : ∀ l : List UInt8, (Lib.cut l [c]).1 = l.takeWhile (fun b => b != c)
  | [] => by simp [Lib.cut, Lib.index]
  | b :: t => by
    have ih := cut_while c t
    unfold Lib.cut at ih ⊢
    by_cases h : b = c
    · subst h
      have hix : Lib.index (b :: t) [b] = ((0 : Nat) : Int) := by rw [Lib.index]; simp [List.isPrefixOf]
      rw [hix]
      simp
    · have hix := index_one_cons b c t h
      have hb : (b != c) = true := by simp [h]
      rw [List.takeWhile_cons, hb, if_pos rfl, ← ih]
      by_cases hm : Lib.index t [c] = -1
      · rw [hm] at ih
        rw [hix, hm]
        simp
      · have hge := Lib.index_ge t [c]
        obtain ⟨j, hj⟩ : ∃ j : Nat, Lib.index t [c] = j := ⟨(Lib.index t [c]).toNat, by omega⟩
        have n1 : (((j : Nat) : Int) == -1) = false := beq_eq_false_iff_ne.2 (by omega)
        have hix' : Lib.index (b :: t) [c] = (j : Int) + 1 := by rw [hix, hj, n1]; rfl
        rw [hix', hj, if_pos (by omega), if_pos (by omega)]
        show List.take ((j : Int) + 1).toNat (b :: t) = b :: List.take (j : Int).toNat t
        rw [show ((j : Int) + 1).toNat = (j : Int).toNat + 1 by omega, List.take_succ_cons]

/-- The name of an entry, and its number. -/
def unpL (l : List UInt8) : List UInt8 := if l.length = 16 then (l.take 14).takeWhile (fun b => b != 0) else []
def unpI (a b : Int) : Int := bits .or .i64 (wrap64 a) (wrap64 (wrap64 b * 256))
def unpN (l : List UInt8) : Int := if l.length = 16 then unpI ((l.getD 14 0).toNat : Int) ((l.getD 15 0).toNat : Int) else 0
theorem at_getD (s : ByteArray) (j : Nat) (h : j < s.size) : s.data.toList.getD j 0 = s[j] := by
  obtain ⟨h2, e⟩ := at_list s j h
  rw [List.getD, List.getElem?_eq_getElem h2, ← e]; rfl

attribute [local irreducible] Int.lt Int.le
set_option maxRecDepth 100000 in
theorem unpack_any (s : ByteArray) (w : World) (hM : Mx w) (hs : s.size ≤ 1048576) :
    Calls Tryd.prog 46 #[.string s] w fun e w' => e = .returned (.tuple #[.string (bs (unpL s.data.toList)), .int .i64 (unpN s.data.toList)]) ∧ Below w.heap.size w w' := by
  have hl := size_list s
  by_cases h : s.size = 16
  · have h1 : (s.size : Int) = 16 := by omega
    have h2 : (14 : Int) ≤ (s.size : Int) := by omega
    have l14 : (14 : Int) < (s.size : Int) := by omega
    have l15 : (15 : Int) < (s.size : Int) := by omega
    obtain ⟨m, hm⟩ := hM
    have c1 := Tryd.strings_Cut (s.extract 0 14) ⟨#[0]⟩ m w (by rw [ByteArray.size_extract]; omega) hm
    have hu : bs (unpL s.data.toList) = ⟨(Lib.cut (s.extract 0 14).data.toList (ByteArray.mk #[0]).data.toList).1.toArray⟩ := by
      unfold bs unpL
      rw [if_pos (by omega)]
      have := cut_while 0 (s.extract 0 14).data.toList
      rw [show (ByteArray.mk #[0]).data.toList = [(0 : UInt8)] from rfl, this, Lib.extract_from_zero]
    have p14 : 14 < s.size := by omega
    have p15 : 15 < s.size := by omega
    have hn : unpN s.data.toList = unpI ((s[14]'p14).toNat : Int) ((s[15]'p15).toNat : Int) := by unfold unpN; rw [if_pos (by omega), at_getD s 14 (by omega), at_getD s 15 (by omega)]
    rw [hu, hn]
    unfold unpI
    generalize Lib.cut (s.extract 0 14).data.toList (ByteArray.mk #[0]).data.toList = X at *
    clear hu hn hm hl
    go_enter Tryd.func46, Tryd.ntmps46
    go_wp2_with fail
    refine c1.mono ?_; rintro e w1 ⟨rfl, q1, rfl⟩
    go_wp2_with fail
    go_quiet (fail)
    have b2 := below_drewN (below_drewN (Below.refl w.heap.size w) q1) nq
    go_wp2_with fail
    go_ret2
    exact ⟨rfl, b2⟩
  · have hu : bs (unpL s.data.toList) = ⟨#[]⟩ := by unfold unpL; rw [if_neg (by omega)]; rfl
    have hn : unpN s.data.toList = 0 := by unfold unpN; rw [if_neg (by omega)]
    rw [hu, hn]
    have h1 : ((s.size : Int) == 16) = false := beq_eq_false_iff_ne.2 (by omega)
    have h1' : ¬ (s.size : Int) = 16 := by omega
    clear hu hn
    go_enter Tryd.func46, Tryd.ntmps46
    go_wp2_with fail
    go_ret2
    exact ⟨rfl, Below.refl _ _⟩

theorem takeWhile_at : ∀ (l : List UInt8) (j : Nat), j ≤ l.length → (∀ t (h : t < l.length), t < j → l[t] ≠ 0) → (∀ h : j < l.length, l[j] = 0) → l.takeWhile (fun b => b != 0) = l.take j
  | [], j, _, _, _ => by simp
  | b :: t, 0, _, _, h => by
    have : b = 0 := h (by simp)
    rw [List.takeWhile_cons, this]; simp
  | b :: t, j + 1, hj, h1, h2 => by
    have hb : b ≠ 0 := h1 0 (by simp) (by omega)
    rw [List.takeWhile_cons, show (b != 0) = true by simp [hb], if_pos rfl, List.take_succ_cons]
    rw [takeWhile_at t j (by simpa using hj) (fun k hk hkj => h1 (k + 1) (by simp; omega) (by omega)) (fun hj2 => h2 (by simp; omega))]

end Go.Proofs.YtcefigpdodlonaaDoor.St
