/- FileShares' calls over the two stores. No condition but those written in each statement. -/
import Derived.Test.YtdlcbclfniahoaaFilS
import Derived.Test.YtdlcbclfniahoaaWithin
namespace Go.Proofs.Ytdlcbclfniahoaa.St
open Go.RowKit
set_option linter.unusedVariables false

def gs1 : VSt := iChange fz1 1 0 2
def gs2 : VSt := fOpen gs1 1 1 3
def gs3 : VSt := fOpen gs2 1 1 1
theorem fs_start : FS gs3 ByteArray.empty 0 0 1 :=
  ⟨by kernel_rfl, ⟨by kernel_rfl, by kernel_rfl, by kernel_rfl, by kernel_rfl, by kernel_rfl⟩, ⟨by kernel_rfl, by kernel_rfl, by kernel_rfl, by kernel_rfl, by kernel_rfl⟩, ⟨by kernel_rfl, by kernel_rfl, by kernel_rfl, by kernel_rfl⟩⟩

theorem over_none (s E : ByteArray) (h : E.size = 0) : iOver s (s.size : Int) E = s := by
  rw [over_end _ _ _ (by omega), Int.toNat_natCast, ByteArray.extract_zero_size]
  have : E = ByteArray.empty := by
    apply ByteArray.ext
    exact Array.eq_empty_of_size_eq_zero h
  rw [this, ByteArray.append_empty]

section
variable {w W : World} {t : Nat} {L : Lay} {d q : Nat} {st : VSt}
theorem g_change (S : Std w t L d q fz1 W) : Calls Try.prog 10 #[.pointer (some ⟨L.v, 0, none⟩), .int .i64 1, .int .i64 0, .int .i64 2] W fun e W' => e = .returned (.bool true) ∧ Std w t L d q gs1 W' := by
  have h := s_change S 1 0 2
  rw [show iHas fz1 1 = true by kernel_rfl] at h
  exact h.mono fun e W' ⟨a, b, _⟩ => ⟨a, b⟩
theorem g_open1 (S : Std w t L d q gs1 W) : Calls Try.prog 11 #[.pointer (some ⟨L.v, 0, none⟩), .int .i64 1, .int .i64 1, .int .i64 3] W fun e W' => e = .returned (.tuple #[.int .i64 0, .bool true]) ∧ Std w t L d q gs2 W' := by
  have h := sf_open S 1 1 3
  rw [show fNum gs1 = 0 by kernel_rfl, show decide (fFree gs1 < 12) = true by kernel_rfl] at h
  exact h.mono fun e W' ⟨a, b, _⟩ => ⟨a, b⟩
theorem g_open2 (S : Std w t L d q gs2 W) : Calls Try.prog 11 #[.pointer (some ⟨L.v, 0, none⟩), .int .i64 1, .int .i64 1, .int .i64 1] W fun e W' => e = .returned (.tuple #[.int .i64 1, .bool true]) ∧ Std w t L d q gs3 W' := by
  have h := sf_open S 1 1 1
  rw [show fNum gs2 = 1 by kernel_rfl, show decide (fFree gs2 < 12) = true by kernel_rfl] at h
  exact h.mono fun e W' ⟨a, b, _⟩ => ⟨a, b⟩
theorem g_dup {own : ByteArray} {a b h : Nat} (S : Std w t L d q st W) (H : FS st own a b h) (hh : h ≤ 100) : Calls Try.prog 13 #[.pointer (some ⟨L.v, 0, none⟩), .int .i64 0] W fun e W' => e = .returned (.bool true) ∧ ∃ st', FS st' own a b (h + 1) ∧ Std w t L d q st' W' := by
  have k := sf_dup S 0
  rw [H.has.1] at k
  exact k.mono fun e W' ⟨x, y, _⟩ => ⟨x, _, fs_dup H hh, y⟩
theorem g_read0 {own : ByteArray} {a b h : Nat} (S : Std w t L d q st W) (H : FS st own a b h) (ha : a ≤ 1000) (ho : own.size ≤ 1000) (m : Int) (hm : 0 ≤ m) : Calls Try.prog 12 #[.pointer (some ⟨L.v, 0, none⟩), .int .i64 0, .int .i64 m] W fun e W' => e = .returned (.tuple #[.string (readB own a m), .int .i64 0]) ∧ ∃ st', FS st' own (a + (readB own a m).size) b h ∧ Std w t L d q st' W' := by
  obtain ⟨x0, x1, x2, x3, x4⟩ := H.a0
  obtain ⟨k1, k2⟩ := fs_read0 H ha ho m
  have h1 : Holds (fs1 st 0) 1 2 0 2 own := by unfold Holds; rw [get_fs1]; exact H.i0
  have v1 := holds_val h1 (by decide) (by decide) (by decide)
  have v2 := holds_val (holds_saw h1 1) (by decide) (by decide) (by decide)
  have v3 := holds_val (holds_saw (holds_saw h1 1) 1) (by decide) (by decide) (by decide)
  have k := fread_file L st 0 m H.has.1 hm (by rw [x4]; decide) x0 (by rw [x2]; exact v1.2.2.2.2) (by rw [x2, v2.2.1]; decide) (by rw [x2, v3.1]; omega) W S.v
  rw [k1] at k
  exact k.mono fun e W' ⟨x, y, z⟩ => ⟨x, _, k2, S.step y z⟩
theorem g_read1 {own : ByteArray} {a b h : Nat} (S : Std w t L d q st W) (H : FS st own a b h) (ha : b ≤ 1000) (ho : own.size ≤ 1000) (m : Int) (hm : 0 ≤ m) : Calls Try.prog 12 #[.pointer (some ⟨L.v, 0, none⟩), .int .i64 1, .int .i64 m] W fun e W' => e = .returned (.tuple #[.string (readB own b m), .int .i64 0]) ∧ ∃ st', FS st' own a (b + (readB own b m).size) h ∧ Std w t L d q st' W' := by
  obtain ⟨x0, x1, x2, x3, x4⟩ := H.b0
  obtain ⟨k1, k2⟩ := fs_read1 H ha ho m
  have h1 : Holds (fs1 st 1) 1 2 0 2 own := by unfold Holds; rw [get_fs1]; exact H.i0
  have v1 := holds_val h1 (by decide) (by decide) (by decide)
  have v2 := holds_val (holds_saw h1 1) (by decide) (by decide) (by decide)
  have v3 := holds_val (holds_saw (holds_saw h1 1) 1) (by decide) (by decide) (by decide)
  have k := fread_file L st 1 m H.has.2 hm (by rw [x4]; decide) x0 (by rw [x2]; exact v1.2.2.2.2) (by rw [x2, v2.2.1]; decide) (by rw [x2, v3.1]; omega) W S.v
  rw [k1] at k
  exact k.mono fun e W' ⟨x, y, z⟩ => ⟨x, _, k2, S.step y z⟩
theorem toList_some (D : ByteArray) (h : 0 < D.size) : ¬ D.toList = [] ∧ ¬ D = ByteArray.empty ∧ D.toList.isEmpty = false := by
  have h1 : ¬ D.toList = [] := list_ne (by omega)
  exact ⟨h1, fun e => by rw [e] at h; exact absurd h (by decide), by simpa using h1⟩
theorem g_write {own : ByteArray} {a b h : Nat} (S : Std w t L d q st W) (H : FS st own a b h) (ha : a ≤ own.size) (ho : own.size ≤ 128) (D : ByteArray) (hD : D.size ≤ 1000) (hD0 : 0 < D.size) :
    Calls Try.prog 15 #[.pointer (some ⟨L.v, 0, none⟩), .int .i64 0, .string D] W fun e W' =>
      (0 < (iPart D a).size ∧ e = .returned (.tuple #[.int .i64 ((iPart D a).size : Int), .int .i64 0]) ∧ ∃ st', FS st' (iOver own a (iPart D a)) (a + (iPart D a).size) b h ∧ Std w t L d q st' W') ∨
      ((iPart D a).size = 0 ∧ e = .returned (.tuple #[.int .i64 (-1), .int .i64 1]) ∧ ∃ st', FS st' (iOver own a (iPart D a)) a b h ∧ Std w t L d q st' W') := by
  obtain ⟨x0, x1, x2, x3, x4⟩ := H.a0
  obtain ⟨k1, k2, k3⟩ := fs_write H ha ho D hD
  have g0 := H.get0
  have h1 : Holds (fGot st 0) 1 2 0 2 own := by unfold Holds; rw [get_fGot]; exact H.i0
  have v1 := holds_val h1 (by decide) (by decide) (by decide)
  have v2 := holds_val (holds_saw h1 1) (by decide) (by decide) (by decide)
  have v3 := holds_val (holds_saw (holds_saw h1 1) 1) (by decide) (by decide) (by decide)
  obtain ⟨d1, d2, d3⟩ := toList_some D hD0
  have k := fwrite_file L st 0 D H.has.1 (by rw [g0, x4]; decide) (by rw [g0]; exact x0) (by rw [g0, x2]; exact v1.2.2.2.2) (by rw [g0, x2, v2.2.1]; decide) (by unfold fWs; rw [g0, x2, v3.1]; omega) (by omega) d1 d2 d3 W S.v
  rw [k1] at k
  refine k.mono ?_
  rintro e W' ⟨⟨y1, y2, y3⟩ | ⟨y1, y2, y3⟩, z⟩
  · exact .inl ⟨by omega, y2, _, k2, S.step y3 z⟩
  · exact .inr ⟨by omega, y2, _, k3, S.step y3 z⟩
theorem g_is0 {own : ByteArray} {a b h : Nat} (S : Std w t L d q st W) (H : FS st own a b h) : Calls Try.prog 16 #[.pointer (some ⟨L.v, 0, none⟩), .int .i64 0] W fun e W' => e = .returned (.bool true) ∧ ∃ st', FS st' own a b h ∧ Std w t L d q st' W' := by
  have k := sf_is S 0
  rw [H.has.1] at k
  exact k.mono fun e W' ⟨x, y, _⟩ => ⟨x, _, H.same (fSaw_get _ _ _ _) (fSaw_get _ _ _ _) (fSaw_get _ _ _ _) (fSaw_get _ _ _ _), y⟩
theorem g_ino {own : ByteArray} {a b h : Nat} (S : Std w t L d q st W) (H : FS st own a b h) : Calls Try.prog 17 #[.pointer (some ⟨L.v, 0, none⟩), .int .i64 1] W fun e W' => e = .returned (.bool true) ∧ ∃ st', FS st' own a b h ∧ Std w t L d q st' W' := by
  have k := s_is S 1
  rw [(holds_val H.i0 (by decide) (by decide) (by decide)).2.2.2.2] at k
  exact k.mono fun e W' ⟨x, y, _⟩ => ⟨x, _, H.same (get_iSaw _ _ _ _) (get_iSaw _ _ _ _) (get_iSaw _ _ _ _) (get_iSaw _ _ _ _), y⟩
theorem g_close0 {own : ByteArray} {a b h : Nat} (S : Std w t L d q st W) (H : FS st own a b (h + 2)) (hh : h ≤ 100) : Calls Try.prog 14 #[.pointer (some ⟨L.v, 0, none⟩), .int .i64 0] W fun e W' => e = .returned (.bool true) ∧ ∃ st', FS st' own a b (h + 1) ∧ Std w t L d q st' W' := by
  have k := sf_close S 0
  rw [H.has.1] at k
  exact k.mono fun e W' ⟨x, y, _⟩ => ⟨x, _, fs_close H hh, y⟩
theorem g_closeE {own : ByteArray} {a b : Nat} (S : Std w t L d q st W) (H : FS st own a b 1) : Calls Try.prog 14 #[.pointer (some ⟨L.v, 0, none⟩), .int .i64 0] W fun e W' => e = .returned (.bool true) ∧ ∃ st', FE st' own b ∧ Std w t L d q st' W' := by
  have k := sf_close S 0
  rw [H.has.1] at k
  exact k.mono fun e W' ⟨x, y, _⟩ => ⟨x, _, fs_gone H, y⟩
theorem ge_is0 {own : ByteArray} {b : Nat} (S : Std w t L d q st W) (H : FE st own b) : Calls Try.prog 16 #[.pointer (some ⟨L.v, 0, none⟩), .int .i64 0] W fun e W' => e = .returned (.bool false) ∧ ∃ st', FE st' own b ∧ Std w t L d q st' W' := by
  have k := sf_is S 0
  rw [H.has.1] at k
  exact k.mono fun e W' ⟨x, y, _⟩ => ⟨x, _, H.same (fSaw_get _ _ _ _) (fSaw_get _ _ _ _) (fSaw_get _ _ _ _), y⟩
theorem ge_close0 {own : ByteArray} {b : Nat} (S : Std w t L d q st W) (H : FE st own b) : Calls Try.prog 14 #[.pointer (some ⟨L.v, 0, none⟩), .int .i64 0] W fun e W' => e = .returned (.bool false) ∧ ∃ st', FE st' own b ∧ Std w t L d q st' W' := by
  have k := sf_close S 0
  rw [H.has.1] at k
  exact k.mono fun e W' ⟨x, y, _⟩ => ⟨x, _, fe_close0 H, y⟩
theorem ge_ino {own : ByteArray} {b : Nat} (S : Std w t L d q st W) (H : FE st own b) : Calls Try.prog 17 #[.pointer (some ⟨L.v, 0, none⟩), .int .i64 1] W fun e W' => e = .returned (.bool true) ∧ ∃ st', FE st' own b ∧ Std w t L d q st' W' := by
  have k := s_is S 1
  rw [(holds_val H.i0 (by decide) (by decide) (by decide)).2.2.2.2] at k
  exact k.mono fun e W' ⟨x, y, _⟩ => ⟨x, _, H.same (get_iSaw _ _ _ _) (get_iSaw _ _ _ _) (get_iSaw _ _ _ _), y⟩
theorem ge_close1 {own : ByteArray} {b : Nat} (S : Std w t L d q st W) (H : FE st own b) : Calls Try.prog 14 #[.pointer (some ⟨L.v, 0, none⟩), .int .i64 1] W fun e W' => e = .returned (.bool true) ∧ ∃ st', (iHas st' 1 = false ∧ (st'.get 5 0).n 0 = 0) ∧ Std w t L d q st' W' := by
  have k := sf_close S 1
  rw [H.has.2] at k
  exact k.mono fun e W' ⟨x, y, _⟩ => ⟨x, _, fe_close1 H, y⟩
theorem ge_end1 (S : Std w t L d q st W) (H : iHas st 1 = false ∧ (st.get 5 0).n 0 = 0) : Calls Try.prog 17 #[.pointer (some ⟨L.v, 0, none⟩), .int .i64 1] W fun e W' => e = .returned (.bool false) ∧ ∃ st', (st'.get 5 0).n 0 = 0 ∧ Std w t L d q st' W' := by
  have k := s_is S 1
  rw [H.1] at k
  exact k.mono fun e W' ⟨x, y, _⟩ => ⟨x, _, by rw [get_iSaw]; exact H.2, y⟩
theorem ge_end2 (S : Std w t L d q st W) (H : (st.get 5 0).n 0 = 0) : Calls Try.prog 16 #[.pointer (some ⟨L.v, 0, none⟩), .int .i64 1] W fun e W' => e = .returned (.bool false) ∧ Below w.heap.size w W' := by
  have k := sf_is S 1
  rw [show fHas st 1 = false by unfold fHas; rw [H]; decide] at k
  exact k.mono fun e W' ⟨x, y, _⟩ => ⟨x, y.b⟩
end
end Go.Proofs.Ytdlcbclfniahoaa.St
