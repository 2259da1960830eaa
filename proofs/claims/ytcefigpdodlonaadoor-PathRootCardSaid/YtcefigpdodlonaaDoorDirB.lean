/- The contracts of package dir: place, Find. No condition but those written in each statement. -/
import Derived.Test.YtcefigpdodlonaaDoorDirA
namespace Go.Proofs.YtcefigpdodlonaaDoor.St
open Go.RowKit
set_option linter.unusedVariables false

theorem bears_eq (s x : ByteArray) (n : Int) : bearsE s (x, n) = (thereE (x, n) && decide (x = s)) := rfl
theorem str_dec (x s : ByteArray) : (x.toList == s.toList) = decide (x = s) := by
  rw [ByteArray.toList_eq, ByteArray.toList_eq]
  by_cases h : x = s
  · subst h; simp
  · rw [decide_eq_false h]
    apply beq_eq_false_iff_ne.2
    intro e
    exact h (Go.WideShapes.bytes_inj e)

set_option maxRecDepth 100000 in
theorem bears_any (x : ByteArray) (n : Int) (b : Nat) (s : ByteArray) (w : World) (hc : w.cell? ⟨b, 0, none⟩ = some (.string s)) :
    Calls Tryd.prog 47 #[.agg #[.string x, .int .i64 n], .pointer (some ⟨b, 0, none⟩)] w fun e w' => e = .returned (.bool (bearsE s (x, n))) ∧ Below w.heap.size w w' := by
  have hlt := World.block_lt_of_cell? _ _ hc
  simp at hlt
  have h := fun W => there_any x n W
  rw [bears_eq]
  generalize thereE (x, n) = y at *
  cases y with
  | false =>
    go_enter Tryd.func47, Tryd.ntmps47
    go_wp2_with fail
    refine (h _).mono ?_; rintro e w1 ⟨rfl, t1⟩
    go_wp2_with fail
    go_ret
    exact ⟨ret_bool (by simp), (after1 t1).2.2⟩
  | true =>
    go_enter Tryd.func47, Tryd.ntmps47
    go_wp2_with fail
    refine (h _).mono ?_; rintro e w1 ⟨rfl, t1⟩
    obtain ⟨b0, s0, tb⟩ := after1 t1
    have c0 := cell_of_row w1 w.heap.size 0 _ _ _ b0
    have c1 := (tb.cell (p := ⟨b, 0, none⟩) hlt).trans hc
    simp at c0
    clear b0 t1 h hc
    go_wp2_with fail
    go_ret
    exact ⟨ret_bool (by rw [str_dec, Bool.true_and]), tb⟩

set_option maxRecDepth 100000 in
theorem free_any (x : ByteArray) (n : Int) (w : World) :
    Calls Tryd.prog 37 #[.agg #[.string x, .int .i64 n]] w fun e w' => e = .returned (.bool (!thereE (x, n))) ∧ Below w.heap.size w w' := by
  have h := fun W => there_any x n W
  generalize thereE (x, n) = y at *
  go_enter Tryd.func37, Tryd.ntmps37
  go_wp2_with fail
  refine (h _).mono ?_; rintro e w1 ⟨rfl, t1⟩
  go_wp2_with fail
  go_ret
  exact ⟨rfl, (after1 t1).2.2⟩

set_option maxRecDepth 100000 in
set_option maxHeartbeats 2000000 in
theorem index_bears (a : Option Addr) (c : Nat) (es : List Ent) (b : Nat) (s : ByteArray) (w : World) (hn : es.length ≤ 1000000) (h : ER w a es) (hc : w.cell? ⟨b, 0, none⟩ = some (.string s)) :
    Calls Tryd.prog 36 #[.slice a es.length c, .func (.func 47) #[] #[.pointer (some ⟨b, 0, none⟩)]] w fun e w' => e = .returned (.int .i64 (findI (bearsE s) es)) ∧ Below w.heap.size w w' := by
  go_enter Tryd.func36, Tryd.ntmps36
  go_wp2_with fail
  go_loopw [8] (fun i wr => ∃ j : Nat, j ≤ es.length ∧ i = .int .i64 (j : Int) ∧ Below w.heap.size w wr ∧ (∀ t (ht : t < es.length), t < j → bearsE s es[t] = false)) (fun i _ => es.length - (intOf i).toNat)
  case atStart => exact ⟨0, Nat.zero_le _, rfl, Below.refl _ _, fun t _ ht => absurd ht (by omega)⟩
  case round =>
    obtain ⟨j, hj, rfl, hb, hne⟩ := hrel
    by_cases hlt : j < es.length
    · have l1 : (j : Int) < (es.length : Int) := by omega
      have l0 : (0 : Int) ≤ (j : Int) := by omega
      obtain ⟨x, rfl, x0, x1⟩ := (h.below hb) j hlt
      have hcr := (hb.cell (World.block_lt_of_cell? _ _ hc)).trans hc
      have hk := bears_any es[j].1 es[j].2 b s wr hcr
      rw [show (es[j].1, es[j].2) = es[j] from rfl] at hk
      cases hv : bearsE s es[j] with
      | true =>
        have hr := findI_hit hlt hv hne
        rw [hv] at hk
        have Hr := Lib.hid hr
        clear h hc hcr hne hr hv
        generalize es[j] = E at *
        go_wp2_with fail
        refine hk.mono ?_; rintro e W1 ⟨rfl, t1⟩
        go_wp2_with fail
        go_ret
        exact ⟨ret_int Hr.out.symm, hb.trans (t1.mono hb.size)⟩
      | false =>
        have hne2 : ∀ t (ht : t < es.length), t < j + 1 → bearsE s es[t] = false := fun t ht h2 => by
          by_cases q : t = j
          · subst q; exact hv
          · exact hne t ht (by omega)
        rw [hv] at hk
        have Hne := Lib.hid hne2
        clear h hc hcr hne hne2 hv
        generalize es[j] = E at *
        go_wp2_with fail
        refine hk.mono ?_; rintro e W1 ⟨rfl, t1⟩
        go_wp2_with fail
        exact ⟨⟨j + 1, by omega, by go_num, hb.trans (t1.mono hb.size), Hne.out⟩, by simp [intOf]; omega⟩
    · obtain rfl : j = es.length := by omega
      have hr := findI_miss (p := bearsE s) (es := es) (fun t ht => hne t ht ht)
      have Hr := Lib.hid hr
      clear h hc hne hr
      go_wp2_with fail
      go_ret
      exact ⟨ret_int Hr.out.symm, hb⟩

set_option maxRecDepth 100000 in
set_option maxHeartbeats 2000000 in
theorem index_free (a : Option Addr) (c : Nat) (es : List Ent) (w : World) (hn : es.length ≤ 1000000) (h : ER w a es) :
    Calls Tryd.prog 36 #[.slice a es.length c, .func (.func 37) #[] #[]] w fun e w' => e = .returned (.int .i64 (findI (fun e => !thereE e) es)) ∧ Below w.heap.size w w' := by
  go_enter Tryd.func36, Tryd.ntmps36
  go_wp2_with fail
  go_loopw [8] (fun i wr => ∃ j : Nat, j ≤ es.length ∧ i = .int .i64 (j : Int) ∧ Below w.heap.size w wr ∧ (∀ t (ht : t < es.length), t < j → (!thereE es[t]) = false)) (fun i _ => es.length - (intOf i).toNat)
  case atStart => exact ⟨0, Nat.zero_le _, rfl, Below.refl _ _, fun t _ ht => absurd ht (by omega)⟩
  case round =>
    obtain ⟨j, hj, rfl, hb, hne⟩ := hrel
    by_cases hlt : j < es.length
    · have l1 : (j : Int) < (es.length : Int) := by omega
      have l0 : (0 : Int) ≤ (j : Int) := by omega
      obtain ⟨x, rfl, x0, x1⟩ := (h.below hb) j hlt
      have hk := free_any es[j].1 es[j].2 wr
      rw [show (es[j].1, es[j].2) = es[j] from rfl] at hk
      cases hv : !thereE es[j] with
      | true =>
        have hr := findI_hit (p := fun e => !thereE e) hlt hv hne
        rw [hv] at hk
        have Hr := Lib.hid hr
        clear h hne hr hv
        generalize es[j] = E at *
        go_wp2_with fail
        refine hk.mono ?_; rintro e W1 ⟨rfl, t1⟩
        go_wp2_with fail
        go_ret
        exact ⟨ret_int Hr.out.symm, hb.trans (t1.mono hb.size)⟩
      | false =>
        have hne2 : ∀ t (ht : t < es.length), t < j + 1 → (!thereE es[t]) = false := fun t ht h2 => by
          by_cases q : t = j
          · subst q; exact hv
          · exact hne t ht (by omega)
        rw [hv] at hk
        have Hne := Lib.hid hne2
        clear h hne hne2 hv
        generalize es[j] = E at *
        go_wp2_with fail
        refine hk.mono ?_; rintro e W1 ⟨rfl, t1⟩
        go_wp2_with fail
        exact ⟨⟨j + 1, by omega, by go_num, hb.trans (t1.mono hb.size), Hne.out⟩, by simp [intOf]; omega⟩
    · obtain rfl : j = es.length := by omega
      have hr := findI_miss (p := fun e => !thereE e) (es := es) (fun t ht => hne t ht ht)
      have Hr := Lib.hid hr
      clear h hne hr
      go_wp2_with fail
      go_ret
      exact ⟨ret_int Hr.out.symm, hb⟩

set_option maxRecDepth 100000 in
theorem place_any' (a : Option Addr) (c : Nat) (es : List Ent) (s : ByteArray) (w : World) (hn : es.length ≤ 1000000) (hs : s.size ≤ 1048576) (h : ER w a es) :
    Calls Tryd.prog 22 #[.slice a es.length c, .string s] w fun e w' => e = .returned (.int .i64 (placeE es s)) ∧ Below w.heap.size w w' := by
  have hr := fun W => right_any s W hs
  have hb : Below w.heap.size w (w.alloc (Obj.cells #[Value.string s] 9)) := (Below.refl _ _).alloc (Nat.le_refl _) _
  have hc : (w.alloc (Obj.cells #[Value.string s] 9)).cell? ⟨w.heap.size, 0, none⟩ = some (.string s) := cell_of_row _ _ 0 _ _ _ (blk_alloc_at _ _ _ rfl)
  have hi := index_bears a c es w.heap.size s _ hn (h.below hb) hc
  unfold placeE
  cases hv : rightL s.data.toList with
  | false =>
    rw [if_neg (by simp)]
    rw [hv] at hr
    go_enter Tryd.func22, Tryd.ntmps22
    go_wp2_with fail
    refine (hr _).mono ?_; rintro e w1 ⟨rfl, rfl⟩
    go_wp2_with fail
    go_ret
    exact ⟨rfl, hb⟩
  | true =>
    rw [if_pos rfl]
    rw [hv] at hr
    generalize findI (bearsE s) es = r at *
    clear h hv
    go_enter Tryd.func22, Tryd.ntmps22
    go_wp2_with fail
    refine (hr _).mono ?_; rintro e w1 ⟨rfl, rfl⟩
    go_wp2_with fail
    refine hi.mono ?_; rintro e w2 ⟨rfl, t2⟩
    go_wp2_with fail
    go_ret
    exact ⟨rfl, hb.trans (t2.mono (by simp))⟩
end Go.Proofs.YtcefigpdodlonaaDoor.St
