/- What PipeOrder's calls answer and leave. No condition but those written in each statement. -/
import Derived.Test.YtdlcbclfniahoaaPipP
namespace Go.Proofs.Ytdlcbclfniahoaa.St
open Go.RowKit
set_option linter.unusedVariables false

theorem po_start : PHolds pz1 0 1 1 ⟨#[]⟩ := ⟨by kernel_rfl, by kernel_rfl, by kernel_rfl, by kernel_rfl⟩

section
variable {w W : World} {t : Nat} {L : Lay} {d q : Nat} {st : VSt} {s : ByteArray}
theorem po_read (H : PHolds st 0 1 1 s) (n y : Int) (hn : 0 < n) (hy : y = if s.size = 0 then 2 else 0) (S : Std w t L d q st W) : Calls Try.prog 36 #[.pointer (some ⟨L.v, 0, none⟩), .int .i64 0, .int .i64 n] W fun e W' => e = .returned (.tuple #[.string (pTook s n), .int .i64 y]) ∧ ∃ st', PHolds st' 0 1 1 (pLeft s n) ∧ Std w t L d q st' W' := by
  obtain ⟨k1, k2, k3⟩ := H.read n hn
  have e : (if s.size = 0 ∧ (0 : Int) < 1 then (2 : Int) else 0) = y := by
    rw [hy]
    by_cases q : s.size = 0
    · rw [if_pos ⟨q, by decide⟩, if_pos q]
    · rw [if_neg (fun h => q h.1), if_neg q]
  have z := sp_read S 0 n
  rw [k2, k3, e] at z
  exact z.mono fun e W' ⟨a, b, _⟩ => ⟨a, _, k1, b⟩
theorem po_write (H : PHolds st 0 1 1 s) (D : ByteArray) (y : Int) (hD : 0 < D.size) (hD2 : (D.size : Int) ≤ 140737488351232) (hs : s.size ≤ 16) (hy : y = if s.size = 16 then 2 else 0) (S : Std w t L d q st W) : Calls Try.prog 42 #[.pointer (some ⟨L.v, 0, none⟩), .int .i64 0, .string D] W fun e W' => e = .returned (.tuple #[.int .i64 (pGive s D).size, .int .i64 y]) ∧ ∃ st', PHolds st' 0 1 1 (s ++ pGive s D) ∧ Std w t L d q st' W' := by
  obtain ⟨k1, k2, k3⟩ := H.write D (by decide) hD hs
  have z := sp_write S 0 D (by rw [H.s]; omega) hD2
  rw [k2, k3, ← hy] at z
  exact z.mono fun e W' ⟨a, b, _⟩ => ⟨a, _, k1, b⟩
theorem po_ends (H : PHolds st 0 1 1 s) (S : Std w t L d q st W) : Calls Try.prog 41 #[.pointer (some ⟨L.v, 0, none⟩), .int .i64 0, .bool true, .int .i64 (-1)] W fun e W' => e = .returned (.bool true) ∧ ∃ st', PHolds st' 0 1 0 s ∧ Std w t L d q st' W' := by
  have z := sp_ends S 0 true (-1)
  rw [H.has] at z
  exact z.mono fun e W' ⟨a, b, _⟩ => ⟨a, _, H.ends true (-1) 1 0 rfl (by simp [wrap64]) (by decide), b⟩
theorem po_last (H : PHolds st 0 1 0 s) (hs : s.size ≤ 16) (S : Std w t L d q st W) : Calls Try.prog 36 #[.pointer (some ⟨L.v, 0, none⟩), .int .i64 0, .int .i64 99] W fun e W' => e = .returned (.tuple #[.string s, .int .i64 0]) ∧ ∃ st', PHolds st' 0 1 0 ⟨#[]⟩ ∧ Std w t L d q st' W' := by
  obtain ⟨k1, k2, k3⟩ := H.read 99 (by decide)
  have e1 : pTook s 99 = s := by
    unfold pTook; rw [show (min (99 : Int) s.size).toNat = s.size by omega]; exact ByteArray.extract_zero_size
  have e2 : pLeft s 99 = ⟨#[]⟩ := by
    unfold pLeft; rw [show (min (99 : Int) s.size).toNat = s.size by omega]; apply ByteArray.ext; simp
  rw [e2] at k1
  have z := sp_read S 0 99
  rw [k2, k3, e1, if_neg (by rintro ⟨_, h⟩; omega)] at z
  exact z.mono fun e W' ⟨a, b, _⟩ => ⟨a, _, k1, b⟩
end

/-- What a part of a text is. -/
theorem app_head (a b : ByteArray) : (a ++ b).extract 0 a.size = a := by
  apply ByteArray.ext
  simp
theorem give_part (s D : ByteArray) : D.extract 0 (pGive s D).size = pGive s D := by
  unfold pGive
  rw [ByteArray.size_extract, show min (min (D.size : Int) (16 - s.size)).toNat D.size - 0 = (min (D.size : Int) (16 - s.size)).toNat by omega]
theorem give_all (s D : ByteArray) (h : (D.size : Int) ≤ 16 - s.size) : pGive s D = D := by
  unfold pGive
  rw [show (min (D.size : Int) (16 - s.size)).toNat = D.size by omega]; exact ByteArray.extract_zero_size
end Go.Proofs.Ytdlcbclfniahoaa.St
