/- The contracts of slices.Contains of ints, and of the package share's of, Clean, Set, Weight, Used, Run. No condition but those written in each statement. -/
import Derived.Test.YtdpgpnjjonhdhaaUtil
import Derived.Test.YtdpgpnjjonhdhaaLawKit
import Derived.Test.YtdpgpnjjonhdhaaWithin
import Derived.Test.YtdpgpnjjonhdhaaShF
import Derived.Laws.IdiomCopy
import Derived.OwnWalk
import Derived.Lib.LazyBuf
import Derived.Deep.OwnRows
import Derived.Deep.RegionHeld3
import Derived.Deep.DrawnRows
import Derived.Deep.Cut
namespace Go.Proofs.Ytdpgpnjjonhdhaa.St
open Go.RowKit Go.Proofs.Ytdpgpnjjonhdhaa.Fp
set_option linter.unusedVariables false

/-- A slice of n ints, as the numbers at its cells. -/
def IR (W : World) (a : Option Addr) (n : Nat) (z : Nat → Int) : Prop := ∀ i, i < n → ∃ x, a = some x ∧ W.cell? (x.add i) = some (.int .i64 (z i))
theorem IR.below {W W' : World} {a : Option Addr} {n : Nat} {z : Nat → Int} (h : IR W a n z) (hb : Below W.heap.size W W') : IR W' a n z := fun i hi => by
  obtain ⟨x, e, c0⟩ := h i hi
  exact ⟨x, e, (hb.cell (cell_block_lt c0)).trans c0⟩
/-- Is a number among the first n? -/
def iHas (z : Nat → Int) (n : Nat) (k : Int) : Prop := ∃ i, i < n ∧ z i = k
instance (z : Nat → Int) (n : Nat) (k : Int) : Decidable (iHas z n k) := by unfold iHas; exact inferInstance

/-- Who has a share: weight, what was used, how often passed over. -/
structure One where
  w : Nat
  u : Nat
  p : Int

def scell (v : Nat → One) (i : Nat) : Value := if i % 3 = 0 then .int .u64 (v (i / 3)).w else if i % 3 = 1 then .int .u64 (v (i / 3)).u else .int .i64 (v (i / 3)).p
theorem scell_0 (v : Nat → One) (i : Nat) : scell v (i * 3) = .int .u64 (v i).w := by
  unfold scell; rw [if_pos (by omega), show i * 3 / 3 = i by omega]
theorem scell_1 (v : Nat → One) (i : Nat) : scell v (i * 3 + 1) = .int .u64 (v i).u := by
  unfold scell; rw [if_neg (by omega), if_pos (by omega), show (i * 3 + 1) / 3 = i by omega]
theorem scell_2 (v : Nat → One) (i : Nat) : scell v (i * 3 + 2) = .int .i64 (v i).p := by
  unfold scell; rw [if_neg (by omega), if_neg (by omega), show (i * 3 + 2) / 3 = i by omega]

def putW (v : Nat → One) (i : Nat) (x : Nat) : Nat → One := fun j => if j = i then { v i with w := x } else v j
def putU (v : Nat → One) (i : Nat) (x : Nat) : Nat → One := fun j => if j = i then { v i with u := x } else v j
def putP (v : Nat → One) (i : Nat) (x : Int) : Nat → One := fun j => if j = i then { v i with p := x } else v j

theorem scell_putW (v : Nat → One) (i x : Nat) (j : Nat) : (if j = i * 3 then Value.int .u64 (x : Int) else scell v j) = scell (putW v i x) j := by
  unfold scell putW
  by_cases h : j = i * 3
  · subst h; rw [if_pos rfl, if_pos (by omega), if_pos (by omega)]
  · rw [if_neg h]
    by_cases hj : j / 3 = i
    · have h0 : j % 3 ≠ 0 := by omega
      rw [if_pos hj, hj, if_neg h0, if_neg h0]
    · rw [if_neg hj]
theorem scell_putU (v : Nat → One) (i x : Nat) (j : Nat) : (if j = i * 3 + 1 then Value.int .u64 (x : Int) else scell v j) = scell (putU v i x) j := by
  unfold scell putU
  by_cases h : j = i * 3 + 1
  · subst h; rw [if_pos rfl, if_neg (by omega), if_pos (by omega), if_pos (by omega)]
  · rw [if_neg h]
    by_cases hj : j / 3 = i
    · rw [if_pos hj, hj]
      by_cases h0 : j % 3 = 0
      · rw [if_pos h0, if_pos h0]
      · rw [if_neg h0, if_neg h0, if_neg (by omega), if_neg (by omega)]
    · rw [if_neg hj]
theorem scell_putP (v : Nat → One) (i : Nat) (x : Int) (j : Nat) : (if j = i * 3 + 2 then Value.int .i64 x else scell v j) = scell (putP v i x) j := by
  unfold scell putP
  by_cases h : j = i * 3 + 2
  · subst h; rw [if_pos rfl, if_neg (by omega), if_neg (by omega), if_pos (by omega)]
  · rw [if_neg h]
    by_cases hj : j / 3 = i
    · rw [if_pos hj, hj]
      by_cases h0 : j % 3 = 0
      · rw [if_pos h0, if_pos h0]
      · by_cases h1 : j % 3 = 1
        · rw [if_neg h0, if_neg h0, if_pos h1, if_pos h1]
        · omega
    · rw [if_neg hj]

/-- The k shares of a Share at block R, whose row lies in block X. -/
structure Sh (W : World) (R X k : Nat) (v : Nat → One) : Prop where
  root : W.cell? ⟨R, 0, none⟩ = some (.slice (some ⟨X, 0, none⟩) k k)
  row : W.rowIs X 54 (k * 3) (scell v)
  ne : R ≠ X
  le : k ≤ 64
  w : ∀ j, wOk (v j).w
  u : ∀ j, uOk (v j).u
  p : ∀ j, 0 ≤ (v j).p ∧ (v j).p ≤ 21

theorem Sh.lt {W : World} {R X k : Nat} {v : Nat → One} (h : Sh W R X k v) : R < W.heap.size ∧ X < W.heap.size := by
  refine ⟨cell_block_lt h.root, ?_⟩
  obtain ⟨cur, hb, _⟩ := h.row
  exact (Array.getElem?_eq_some_iff.1 hb).1
theorem Sh.below {W W' : World} {R X k : Nat} {v : Nat → One} (h : Sh W R X k v) (hb : Below W.heap.size W W') : Sh W' R X k v := by
  refine ⟨(hb.cell h.lt.1).trans h.root, ?_, h.ne, h.le, h.w, h.u, h.p⟩
  obtain ⟨cur, hx, h2⟩ := h.row
  exact ⟨cur, (hb.block X h.lt.2).trans hx, h2⟩
theorem Sh.drewN {W : World} {R X k : Nat} {v : Nat → One} (h : Sh W R X k v) (n : Nat) : Sh (W.drewN n) R X k v := ⟨h.root, h.row, h.ne, h.le, h.w, h.u, h.p⟩
theorem Sh.cells {W : World} {R X k : Nat} {v : Nat → One} (h : Sh W R X k v) (i : Nat) (hi : i < k) :
    W.cell? ⟨X, i * 3, none⟩ = some (.int .u64 (v i).w) ∧ W.cell? ⟨X, i * 3 + 1, none⟩ = some (.int .u64 (v i).u) ∧ W.cell? ⟨X, i * 3 + 2, none⟩ = some (.int .i64 (v i).p) :=
  ⟨by rw [h.row.cell (by omega), scell_0], by rw [h.row.cell (by omega), scell_1], by rw [h.row.cell (by omega), scell_2]⟩
theorem Sh.setW {W : World} {R X k : Nat} {v : Nat → One} (h : Sh W R X k v) (i x : Nat) (hx : wOk x) : Sh (W.setCell ⟨X, i * 3, none⟩ (.int .u64 (x : Int))) R X k (putW v i x) := by
  refine ⟨?_, (h.row.set (i * 3) (.int .u64 (x : Int))).congr (fun j _ => scell_putW v i x j), h.ne, h.le, ?_, ?_, ?_⟩
  · rw [World.cell?_setCell_other _ _ _ _ (by intro e; injection e with e1; exact h.ne e1.symm)]; exact h.root
  all_goals intro j; unfold putW; split
  · exact hx
  · exact h.w j
  · exact h.u i
  · exact h.u j
  · exact h.p i
  · exact h.p j
theorem Sh.setU {W : World} {R X k : Nat} {v : Nat → One} (h : Sh W R X k v) (i x : Nat) (hx : uOk x) : Sh (W.setCell ⟨X, i * 3 + 1, none⟩ (.int .u64 (x : Int))) R X k (putU v i x) := by
  refine ⟨?_, (h.row.set (i * 3 + 1) (.int .u64 (x : Int))).congr (fun j _ => scell_putU v i x j), h.ne, h.le, ?_, ?_, ?_⟩
  · rw [World.cell?_setCell_other _ _ _ _ (by intro e; injection e with e1; exact h.ne e1.symm)]; exact h.root
  all_goals intro j; unfold putU; split
  · exact h.w i
  · exact h.w j
  · exact hx
  · exact h.u j
  · exact h.p i
  · exact h.p j
theorem Sh.setP {W : World} {R X k : Nat} {v : Nat → One} (h : Sh W R X k v) (i : Nat) (x : Int) (hx : 0 ≤ x ∧ x ≤ 21) : Sh (W.setCell ⟨X, i * 3 + 2, none⟩ (.int .i64 x)) R X k (putP v i x) := by
  refine ⟨?_, (h.row.set (i * 3 + 2) (.int .i64 x)).congr (fun j _ => scell_putP v i x j), h.ne, h.le, ?_, ?_, ?_⟩
  · rw [World.cell?_setCell_other _ _ _ _ (by intro e; injection e with e1; exact h.ne e1.symm)]; exact h.root
  all_goals intro j; unfold putP; split
  · exact h.w i
  · exact h.w j
  · exact h.u i
  · exact h.u j
  · exact hx
  · exact h.p j

attribute [local irreducible] Int.lt Int.le
set_option maxRecDepth 100000 in
theorem iindex_any (a : Option Addr) (n c : Nat) (z : Nat → Int) (k : Int) (w : World) (hn : n ≤ 1000000) (h : IR w a n z) :
    Calls Try.prog 48 #[.slice a n c, .int .i64 k] w fun e w' => ∃ r : Int, e = .returned (.int .i64 r) ∧ (0 ≤ r ↔ iHas z n k) ∧ w = w' := by
  go_enter Try.func48, Try.ntmps48
  go_wp2_with fail
  go_loopw [8] (fun i wr => ∃ j : Nat, j ≤ n ∧ i = .int .i64 (j : Int) ∧ w = wr ∧ ∀ t, t < j → z t ≠ k) (fun i _ => n - (intOf i).toNat)
  case atStart => exact ⟨0, Nat.zero_le _, rfl, rfl, fun t ht => absurd ht (by omega)⟩
  case round =>
    obtain ⟨j, hj, rfl, rfl, hne⟩ := hrel
    by_cases hlt : j < n
    · have l1 : (j : Int) < (n : Int) := by omega
      have l0 : (0 : Int) ≤ (j : Int) := by omega
      obtain ⟨x, rfl, x0⟩ := h j hlt
      by_cases he : z j = k
      · have hr : 0 ≤ (j : Int) ↔ iHas z n k := ⟨fun _ => ⟨j, hlt, he⟩, fun _ => l0⟩
        rw [he] at x0
        have Hr := Lib.hid hr
        clear h hne hr he
        go_wp2_with fail
        go_ret
        exact ⟨_, rfl, Hr.out, rfl⟩
      · have hne2 : ∀ t, t < j + 1 → z t ≠ k := fun t ht => by
          by_cases q : t = j
          · rw [q]; exact he
          · exact hne t (by omega)
        have Hne := Lib.hid hne2
        clear h hne hne2
        generalize z j = A at *
        have n3 := Ne.symm he
        have n2 : (k == A) = false := beq_eq_false_iff_ne.2 n3
        go_wp2_with fail
        exact ⟨⟨j + 1, by omega, by go_num, by trivial, Hne.out⟩, by simp [intOf]; omega⟩
    · obtain rfl : j = n := by omega
      have hr : 0 ≤ (-1 : Int) ↔ iHas z j k := ⟨fun q => absurd q (by decide), fun ⟨t, ht, e⟩ => absurd e (hne t ht)⟩
      clear h hne
      go_wp2_with fail
      go_ret
      exact ⟨_, rfl, hr, rfl⟩

set_option maxRecDepth 100000 in
theorem icontains_any (a : Option Addr) (n c : Nat) (z : Nat → Int) (k : Int) (w : World) (hn : n ≤ 1000000) (h : IR w a n z) :
    Calls Try.prog 33 #[.slice a n c, .int .i64 k] w fun e w' => e = .returned (.bool (decide (iHas z n k))) ∧ w = w' := by
  go_enter Try.func33, Try.ntmps33
  go_wp2_with fail
  refine (iindex_any a n c z k w hn h).mono ?_; rintro e W1 ⟨r, rfl, hr, rfl⟩
  have hd : decide (0 ≤ r) = decide (iHas z n k) := decide_eq_decide.2 hr
  have Hd := Lib.hid hd
  clear h hd hr
  go_wp2_with fail
  go_ret
  exact ⟨by rw [← Hd.out]; rfl, rfl⟩

set_option maxRecDepth 100000 in
theorem of_in (R X k : Nat) (v : Nat → One) (i : Nat) (hi : i < k) (w : World) (h : Sh w R X k v) :
    Calls Try.prog 31 #[.pointer (some ⟨R, 0, none⟩), .int .i64 (i : Int)] w fun e w' => e = .returned (.pointer (some ⟨X, i * 3, none⟩)) ∧ w = w' := by
  have hr := h.root
  have hk := h.le
  have l1 : (i : Int) < (k : Int) := by omega
  have l0 : (0 : Int) ≤ (i : Int) := by omega
  clear h
  go_enter Try.func31, Try.ntmps31
  go_wp2_with fail
  go_ret
  exact ⟨rfl, rfl⟩
set_option maxRecDepth 100000 in
theorem of_out (R X k : Nat) (v : Nat → One) (i : Int) (hi : ¬ (0 ≤ i ∧ i < k)) (w : World) (h : Sh w R X k v) :
    Calls Try.prog 31 #[.pointer (some ⟨R, 0, none⟩), .int .i64 i] w fun e w' => e = .returned (.pointer none) ∧ w = w' := by
  have hr := h.root
  have hk := h.le
  clear h
  rcases (show i < 0 ∨ (0 ≤ i ∧ (k : Int) ≤ i) by omega) with l | ⟨l, l2⟩
  all_goals
    clear hi
    go_enter Try.func31, Try.ntmps31
    go_wp2_with fail
    go_ret
    exact ⟨rfl, rfl⟩

set_option maxRecDepth 100000 in
theorem sclean_any (x : Nat) (hx : x < 18446744073709551616) (w : World) :
    Calls Try.prog 16 #[.int .u64 (x : Int)] w fun e w' => e = .returned (.int .u64 (sclean x : Nat)) ∧ w = w' := by
  have h1 := opN_lt (a := 4562146422526312448) (b := x) 6 (by decide) hx
  by_cases hc : cmpN x 0 = 1
  · have hs : sclean x = opN 5 4652218415073722368 (opN 6 4562146422526312448 x) := by unfold sclean; rw [if_pos hc]
    have Hs := Lib.hid hs
    clear hs
    go_enter Try.func16, Try.ntmps16
    go_wp2_with fail
    refine (cmp_any x 0 hx (by decide) _).mono ?_; rw [hc]; rintro e w' ⟨rfl, rfl⟩
    go_wp2_with fail
    refine (op_pick_still 6 1 (by simp) 4562146422526312448 x (by decide) hx _).mono ?_; rintro e w' ⟨rfl, rfl⟩
    go_wp2_with fail
    refine (op_pick_still 5 (-1) (by simp) 4652218415073722368 _ (by decide) h1 _).mono ?_; rintro e w' ⟨rfl, rfl⟩
    go_wp2_with fail
    go_ret
    rw [Hs.out]
    exact ⟨rfl, rfl⟩
  · have hs : sclean x = 4607182418800017408 := by unfold sclean; rw [if_neg hc]
    have Hs := Lib.hid hs
    have hn : (cmpN x 0 == 1) = false := beq_eq_false_iff_ne.2 hc
    clear hs
    go_enter Try.func16, Try.ntmps16
    go_wp2_with fail
    refine (cmp_any x 0 hx (by decide) _).mono ?_; rintro e w' ⟨rfl, rfl⟩
    generalize cmpN x 0 = c at *
    go_wp2_with fail
    go_ret
    rw [Hs.out]
    exact ⟨rfl, rfl⟩

set_option maxRecDepth 100000 in
theorem set_in (R X k : Nat) (v : Nat → One) (i : Nat) (hi : i < k) (x : Nat) (hx : x < 18446744073709551616) (w : World) (h : Sh w R X k v) :
    Calls Try.prog 10 #[.pointer (some ⟨R, 0, none⟩), .int .i64 (i : Int), .int .u64 (x : Int)] w fun e w' => e = .returned (.tuple #[]) ∧ Sh w' R X k (putW v i (sclean x)) ∧ Turn (· = X) w w' := by
  have ho := of_in R X k v i hi w h
  have hs := h.setW i (sclean x) (sclean_ok hx)
  have c0 := (h.cells i hi).1
  have f0 := h.row.frozen (i * 3)
  have ht := (Turn.refl (· = X) w).setCell (p := ⟨X, i * 3, none⟩) (Or.inl rfl) (.int .u64 (sclean x : Nat))
  clear h
  have Hs := Lib.hid hs
  have Ht := Lib.hid ht
  clear hs ht
  go_enter Try.func10, Try.ntmps10
  go_wp2_with fail
  refine ho.mono ?_; rintro e w' ⟨rfl, rfl⟩
  go_wp2_with fail
  refine (sclean_any x hx _).mono ?_; rintro e w' ⟨rfl, rfl⟩
  go_wp2_with fail
  go_end0
  exact ⟨rfl, Hs.out, Ht.out⟩
set_option maxRecDepth 100000 in
theorem set_out (R X k : Nat) (v : Nat → One) (i : Int) (hi : ¬ (0 ≤ i ∧ i < k)) (x : Nat) (w : World) (h : Sh w R X k v) :
    Calls Try.prog 10 #[.pointer (some ⟨R, 0, none⟩), .int .i64 i, .int .u64 (x : Int)] w fun e w' => e = .returned (.tuple #[]) ∧ w = w' := by
  have ho := of_out R X k v i hi w h
  clear h hi
  go_enter Try.func10, Try.ntmps10
  go_wp2_with fail
  refine ho.mono ?_; rintro e w' ⟨rfl, rfl⟩
  go_wp2_with fail
  go_end0
  exact ⟨rfl, rfl⟩

set_option maxRecDepth 100000 in
theorem weight_in (R X k : Nat) (v : Nat → One) (i : Nat) (hi : i < k) (w : World) (h : Sh w R X k v) :
    Calls Try.prog 19 #[.pointer (some ⟨R, 0, none⟩), .int .i64 (i : Int)] w fun e w' => e = .returned (.int .u64 ((v i).w : Nat)) ∧ w = w' := by
  have ho := of_in R X k v i hi w h
  have c0 := (h.cells i hi).1
  clear h
  go_enter Try.func19, Try.ntmps19
  go_wp2_with fail
  refine ho.mono ?_; rintro e w' ⟨rfl, rfl⟩
  go_wp2_with fail
  go_ret
  exact ⟨rfl, rfl⟩
set_option maxRecDepth 100000 in
theorem weight_out (R X k : Nat) (v : Nat → One) (i : Int) (hi : ¬ (0 ≤ i ∧ i < k)) (w : World) (h : Sh w R X k v) :
    Calls Try.prog 19 #[.pointer (some ⟨R, 0, none⟩), .int .i64 i] w fun e w' => e = .returned (.int .u64 0) ∧ w = w' := by
  have ho := of_out R X k v i hi w h
  clear h hi
  go_enter Try.func19, Try.ntmps19
  go_wp2_with fail
  refine ho.mono ?_; rintro e w' ⟨rfl, rfl⟩
  go_wp2_with fail
  go_ret
  exact ⟨rfl, rfl⟩
set_option maxRecDepth 100000 in
theorem used_in (R X k : Nat) (v : Nat → One) (i : Nat) (hi : i < k) (w : World) (h : Sh w R X k v) :
    Calls Try.prog 15 #[.pointer (some ⟨R, 0, none⟩), .int .i64 (i : Int)] w fun e w' => e = .returned (.int .u64 ((v i).u : Nat)) ∧ w = w' := by
  have ho := of_in R X k v i hi w h
  have c0 := (h.cells i hi).2.1
  clear h
  go_enter Try.func15, Try.ntmps15
  go_wp2_with fail
  refine ho.mono ?_; rintro e w' ⟨rfl, rfl⟩
  go_wp2_with fail
  go_ret
  exact ⟨rfl, rfl⟩
set_option maxRecDepth 100000 in
theorem used_out (R X k : Nat) (v : Nat → One) (i : Int) (hi : ¬ (0 ≤ i ∧ i < k)) (w : World) (h : Sh w R X k v) :
    Calls Try.prog 15 #[.pointer (some ⟨R, 0, none⟩), .int .i64 i] w fun e w' => e = .returned (.int .u64 0) ∧ w = w' := by
  have ho := of_out R X k v i hi w h
  clear h hi
  go_enter Try.func15, Try.ntmps15
  go_wp2_with fail
  refine ho.mono ?_; rintro e w' ⟨rfl, rfl⟩
  go_wp2_with fail
  go_ret
  exact ⟨rfl, rfl⟩

set_option maxRecDepth 100000 in
theorem run_in (R X k : Nat) (v : Nat → One) (i : Nat) (hi : i < k) (w : World) (h : Sh w R X k v) :
    Calls Try.prog 13 #[.pointer (some ⟨R, 0, none⟩), .int .i64 (i : Int)] w fun e w' => e = .returned (.tuple #[]) ∧ Sh w' R X k (putU v i (more (v i).u)) ∧ Turn (· = X) w w' := by
  have ho := of_in R X k v i hi w h
  have hu := h.u i
  have hs := h.setU i (more (v i).u) (more_ok hu)
  have c0 := (h.cells i hi).2.1
  have f0 := h.row.frozen (i * 3 + 1)
  have ht := (Turn.refl (· = X) w).setCell (p := ⟨X, i * 3 + 1, none⟩) (Or.inl rfl) (.int .u64 (more (v i).u : Nat))
  have hop := more_still hu
  have Hs := Lib.hid hs
  have Ht := Lib.hid ht
  have Hop := Lib.hid hop
  clear h hs ht hop
  go_enter Try.func13, Try.ntmps13
  go_wp2_with fail
  refine ho.mono ?_; rintro e w' ⟨rfl, rfl⟩
  go_wp2_with fail
  refine (Hop.out _).mono ?_; rintro e w' ⟨rfl, rfl⟩
  go_wp2_with fail
  go_end0
  exact ⟨rfl, Hs.out, Ht.out⟩
set_option maxRecDepth 100000 in
theorem run_out (R X k : Nat) (v : Nat → One) (i : Int) (hi : ¬ (0 ≤ i ∧ i < k)) (w : World) (h : Sh w R X k v) :
    Calls Try.prog 13 #[.pointer (some ⟨R, 0, none⟩), .int .i64 i] w fun e w' => e = .returned (.tuple #[]) ∧ w = w' := by
  have ho := of_out R X k v i hi w h
  clear h hi
  go_enter Try.func13, Try.ntmps13
  go_wp2_with fail
  refine ho.mono ?_; rintro e w' ⟨rfl, rfl⟩
  go_wp2_with fail
  go_end0
  exact ⟨rfl, rfl⟩
end Go.Proofs.Ytdpgpnjjonhdhaa.St
