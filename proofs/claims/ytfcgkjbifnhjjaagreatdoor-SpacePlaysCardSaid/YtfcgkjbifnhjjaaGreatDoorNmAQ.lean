/- The contracts of name.Right, of the function that Split hands on, of slices.IndexFunc and ContainsFunc with it. No condition but those written in each statement. -/
import Derived.Test.YtfcgkjbifnhjjaaGreatDoorNmP
import Derived.Test.YtfcgkjbifnhjjaaGreatDoorQ50
import Derived.Test.YtfcgkjbifnhjjaaGreatDoorShelf
namespace Go.Proofs.YtfcgkjbifnhjjaaGreatDoor.St
open Go.RowKit
set_option linter.unusedVariables false

theorem has_byte (l : List UInt8) (c : UInt8) : decide (0 ≤ Lib.indexByte l c) = l.contains c := by
  rcases Int.lt_or_le (Lib.indexByte l c) 0 with h | h
  · have hm : Lib.indexByte l c = -1 := by have := Lib.indexByte_ge l c; omega
    rw [hm]
    have := Lib.indexByte_none hm
    have hn : ¬ c ∈ l := fun hc => by
      obtain ⟨k, hk⟩ := List.mem_iff_getElem?.1 hc
      exact this k hk
    simp [hn]
  · obtain ⟨o, ho⟩ : ∃ o : Nat, Lib.indexByte l c = o := ⟨(Lib.indexByte l c).toNat, by omega⟩
    have := (Lib.indexByte_some ho).1
    have hc : c ∈ l := List.mem_iff_getElem?.2 ⟨o, this⟩
    rw [decide_eq_true h]
    simp [hc]
theorem empty_toList {s : ByteArray} (h : s.size = 0) : s = ⟨#[]⟩ := by
  cases s with | mk a => simp [ByteArray.size] at h; rw [h]
theorem str_ne {s : ByteArray} (h : 0 < s.size) : ¬ s = ⟨#[]⟩ := fun e => by rw [e] at h; exact absurd h (by decide)
theorem str_toList_ne {s : ByteArray} (h : 0 < s.size) : ¬ s.toList = [] := by
  intro e
  rw [toList_nil_iff_emptyBytes] at e
  rw [e] at h
  exact absurd h (by decide)
theorem str_some (s : ByteArray) (h : 0 < s.size) : s.toList.isEmpty = false := by
  cases e : s.toList with
  | nil => exact absurd e (str_toList_ne h)
  | cons a l => rfl

attribute [local irreducible] Int.lt Int.le
set_option maxRecDepth 100000 in
theorem right_any (s : ByteArray) (w : World) (hs : s.size ≤ 1048576) :
    Calls Tryz.prog 87 #[.string s] w fun e w' => e = .returned (.bool (rightL s.data.toList)) ∧ w' = w := by
  by_cases h0 : s.size = 0
  · obtain rfl := empty_toList h0
    have hr : rightL (⟨#[]⟩ : ByteArray).data.toList = false := by decide
    rw [hr]
    clear hr h0 hs
    go_enter Tryz.func87, Tryz.ntmps87
    go_wp2_with fail
    go_ret
    exact ⟨rfl, rfl⟩
  · have h1 := str_toList_ne (s := s) (by omega)
    have h2 := str_some s (by omega)
    have hl := size_list s
    have he : s.data.toList.isEmpty = false := by
      cases e : s.data.toList with
      | nil => rw [e] at hl; simp at hl; omega
      | cons a l => rfl
    by_cases h3 : s.size ≤ 14
    · have h4 : (s.size : Int) ≤ 14 := by omega
      have hr : rightL s.data.toList = (!s.data.toList.contains 47 && !s.data.toList.contains 0) := by unfold rightL; rw [he, hl, decide_eq_true h3]; rfl
      rw [hr]
      have c1 := Tryz.strings_Contains_one s 47 w
      have c2 := Tryz.strings_Contains_one s 0 w
      rw [has_byte] at c1 c2
      clear hr he hl h3 hs
      generalize s.data.toList.contains 47 = x at *
      generalize s.data.toList.contains 0 = y at *
      cases x
      · cases y
        all_goals
          go_enter Tryz.func87, Tryz.ntmps87
          go_wp2_with fail
          refine c1.mono ?_; rintro e w1 ⟨rfl, rfl⟩
          go_wp2_with fail
          refine c2.mono ?_; rintro e w1 ⟨rfl, rfl⟩
          go_wp2_with fail
          go_ret
          exact ⟨rfl, rfl⟩
      · go_enter Tryz.func87, Tryz.ntmps87
        go_wp2_with fail
        refine c1.mono ?_; rintro e w1 ⟨rfl, rfl⟩
        go_wp2_with fail
        go_ret
        exact ⟨rfl, rfl⟩
    · have h4 : (14 : Int) < (s.size : Int) := by omega
      have hr : rightL s.data.toList = false := by unfold rightL; rw [he, hl, decide_eq_false h3]; rfl
      rw [hr]
      clear hr he hl h3
      go_enter Tryz.func87, Tryz.ntmps87
      go_wp2_with fail
      go_ret
      exact ⟨rfl, rfl⟩

set_option maxRecDepth 100000 in
theorem wrong_any (s : ByteArray) (w : World) (hs : s.size ≤ 1048576) :
    Calls Tryz.prog 86 #[.string s] w fun e w' => e = .returned (.bool (!rightL s.data.toList)) ∧ w' = w := by
  have c1 := right_any s w hs
  generalize rightL s.data.toList = x at *
  go_enter Tryz.func86, Tryz.ntmps86
  go_wp2_with fail
  refine c1.mono ?_; rintro e w1 ⟨rfl, rfl⟩
  go_wp2_with fail
  go_ret
  exact ⟨rfl, rfl⟩

/-- A slice of n texts. -/
def TR (W : World) (a : Option Addr) (ps : List ByteArray) : Prop := ∀ i (h : i < ps.length), ∃ x, a = some x ∧ W.cell? (x.add i) = some (.string ps[i])
theorem TR.below {W W' : World} {a : Option Addr} {ps : List ByteArray} (h : TR W a ps) (hb : Below W.heap.size W W') : TR W' a ps := fun i hi => by
  obtain ⟨x, e, c⟩ := h i hi
  exact ⟨x, e, (hb.cell (World.block_lt_of_cell? _ _ c)).trans c⟩

set_option maxRecDepth 100000 in
theorem windex_any (a : Option Addr) (c : Nat) (ps : List ByteArray) (w : World) (hn : ps.length ≤ 1000000) (hs : ∀ p ∈ ps, p.size ≤ 1048576) (h : TR w a ps) :
    Calls Tryz.prog 112 #[.slice a ps.length c, .func (.func 86) #[] #[]] w fun e w' => ∃ r : Int, e = .returned (.int .i64 r) ∧ (0 ≤ r ↔ (ps.all fun p => rightL p.data.toList) = false) ∧ w' = w := by
  go_enter Tryz.func112, Tryz.ntmps112
  go_wp2_with fail
  go_loopw [8] (fun i wr => ∃ j : Nat, j ≤ ps.length ∧ i = .int .i64 (j : Int) ∧ wr = w ∧ (∀ t (ht : t < ps.length), t < j → rightL ps[t].data.toList = true)) (fun i _ => ps.length - (intOf i).toNat)
  case atStart => exact ⟨0, Nat.zero_le _, rfl, rfl, fun t _ ht => absurd ht (by omega)⟩
  case round =>
    obtain ⟨j, hj, rfl, rfl, hne⟩ := hrel
    by_cases hlt : j < ps.length
    · have l1 : (j : Int) < (ps.length : Int) := by omega
      have l0 : (0 : Int) ≤ (j : Int) := by omega
      obtain ⟨x, rfl, x0⟩ := h j hlt
      have hk := wrong_any ps[j] wr (hs _ (List.getElem_mem hlt))
      cases hv : rightL ps[j].data.toList with
      | false =>
        have hr : 0 ≤ (j : Int) ↔ (ps.all fun p => rightL p.data.toList) = false := by
          refine ⟨fun _ => ?_, fun _ => l0⟩
          rw [List.all_eq_false]
          exact ⟨_, List.getElem_mem hlt, by rw [hv]; decide⟩
        rw [hv] at hk
        have Hr := Lib.hid hr
        clear h hs hne hr hv
        generalize ps[j] = p at *
        go_wp2_with fail
        refine hk.mono ?_; rintro e W1 ⟨rfl, rfl⟩
        go_wp2_with fail
        go_ret
        exact ⟨_, rfl, Hr.out, rfl⟩
      | true =>
        have hne2 : ∀ t (ht : t < ps.length), t < j + 1 → rightL ps[t].data.toList = true := fun t ht h2 => by
          by_cases q : t = j
          · subst q; exact hv
          · exact hne t ht (by omega)
        rw [hv] at hk
        have Hne := Lib.hid hne2
        clear h hs hne hne2 hv
        generalize ps[j] = p at *
        go_wp2_with fail
        refine hk.mono ?_; rintro e W1 ⟨rfl, rfl⟩
        go_wp2_with fail
        exact ⟨⟨j + 1, by omega, by go_num, trivial, Hne.out⟩, by simp [intOf]; omega⟩
    · obtain rfl : j = ps.length := by omega
      have hr : 0 ≤ (-1 : Int) ↔ (ps.all fun p => rightL p.data.toList) = false := by
        refine ⟨fun q => absurd q (by decide), fun q => ?_⟩
        have : (ps.all fun p => rightL p.data.toList) = true := by
          rw [List.all_eq_true]
          intro p hp
          obtain ⟨t, ht, rfl⟩ := List.mem_iff_getElem.1 hp
          exact hne t ht ht
        rw [this] at q; cases q
      have Hr := Lib.hid hr
      clear h hs hne hr
      go_wp2_with fail
      go_ret
      exact ⟨_, rfl, Hr.out, rfl⟩

set_option maxRecDepth 100000 in
theorem wcontains_any (a : Option Addr) (c : Nat) (ps : List ByteArray) (w : World) (hn : ps.length ≤ 1000000) (hs : ∀ p ∈ ps, p.size ≤ 1048576) (h : TR w a ps) :
    Calls Tryz.prog 85 #[.slice a ps.length c, .func (.func 86) #[] #[]] w fun e w' => e = .returned (.bool !(ps.all fun p => rightL p.data.toList)) ∧ w' = w := by
  go_enter Tryz.func85, Tryz.ntmps85
  go_wp2_with fail
  refine (windex_any a c ps w hn hs h).mono ?_; rintro e W1 ⟨r, rfl, hr, rfl⟩
  have hd : decide (0 ≤ r) = !(ps.all fun p => rightL p.data.toList) := by
    cases hv : (ps.all fun p => rightL p.data.toList) with
    | false => exact decide_eq_true (hr.2 hv)
    | true => exact decide_eq_false (fun q => by rw [hr.1 q] at hv; cases hv)
  have Hd := Lib.hid hd
  clear h hs hr hd
  go_wp2_with fail
  go_ret
  refine ⟨by rw [← Hd.out]; rfl, ?_⟩
  first | rfl | trivial
end Go.Proofs.YtfcgkjbifnhjjaaGreatDoor.St
