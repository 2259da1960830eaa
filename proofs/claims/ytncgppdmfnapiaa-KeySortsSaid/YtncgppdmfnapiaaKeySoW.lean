/- The walk of cloisterlaw7.KeySorts (under way). No condition but those written in the statement. -/
import Derived.Test.YtncgppdmfnapiaaKeyW1
import Derived.Test.YtncgppdmfnapiaaMix
import Derived.Test.YtncgppdmfnapiaaKeyRu
import Derived.Test.YtncgppdmfnapiaaReg
import Derived.Deep.CutRange
import Derived.Deep.RegionHeld3
import Derived.Deep.DrawnRows
namespace Go.Proofs.Ytncgppdmfnapiaa.St
open Go.RowKit
set_option linter.unusedVariables false
set_option pp.deepTerms true
set_option pp.maxSteps 100000

/-- The numbers of a row, two and two. -/
def zp (z : Nat → Nat → Int) (i : Nat) : Int × Int := (z i 0, z i 1)
theorem kr_rows {w W : World} {x : Addr} {len n : Nat} {z : Nat → Nat → Int} (hx : ∀ i, i < len → ∀ j, j < 2 → w.cell? (x.add (i * 2 + j)) = some (.int .i64 (z i j)) ∧ (Lit.int .i64 (z i j)).wf = true) (hn : n ≤ len) (hb : Below w.heap.size w W) : KR W (some x) n (zp z) := fun i hi => by
  obtain ⟨h1, h0⟩ := rows_field hx hb i (by omega)
  exact ⟨x, rfl, h0 (by omega), h1 1 (by omega) (by omega)⟩

theorem rise_from : ∀ (l : List Int) (a : Int), l.Pairwise (· < ·) → (∀ p ∈ l, a ≤ p ∧ p < 55) → (l.length : Int) ≤ max (55 - a) 0
  | [], a, _, _ => by simp; omega
  | x :: l, a, hr, h => by
    have h1 := List.pairwise_cons.1 hr
    have := rise_from l (x + 1) h1.2 (fun p hp => ⟨by have := h1.1 p hp; omega, (h p (List.mem_cons_of_mem _ hp)).2⟩)
    have hx := h x (List.mem_cons_self ..)
    rw [List.length_cons]
    omega
theorem rise_len (l : List Int) (hr : l.Pairwise (· < ·)) (h : ∀ p ∈ l, 0 ≤ p ∧ p < 55) : l.length ≤ 55 := by
  have := rise_from l 0 hr h
  omega
abbrev K7 (W7 : World) (K : Nat) (A C : Int) (W : World) : Prop := W.cell? ⟨K, 0, none⟩ = some (.int .i64 A) ∧ W.cell? ⟨K, 1, none⟩ = some (.int .i64 C) ∧ Below W7.heap.size W7 W
theorem k7_below {W7 : World} {K : Nat} {A C : Int} {W W' : World} (h : K7 W7 K A C W) (hb : Below W.heap.size W W') : K7 W7 K A C W' :=
  ⟨(hb.cell (cell_block_lt h.1)).trans h.1, (hb.cell (cell_block_lt h.2.1)).trans h.2.1, h.2.2.trans (hb.mono h.2.2.size)⟩
theorem k7_alloc {W7 : World} {K : Nat} {A C : Int} {W : World} (h : K7 W7 K A C W) (o : Obj) : K7 W7 K A C (W.alloc o) := k7_below h ((Below.refl _ _).alloc (Nat.le_refl _) o)
theorem kHas_step (z : Nat → Int × Int) (m : Nat) (A C : Int) : decide (kHas z (m + 1) (A, C)) = (decide (kHas z m (A, C)) || ((z m).1 == A && (z m).2 == C)) := by
  rw [Bool.eq_iff_iff]
  simp only [decide_eq_true_eq, Bool.or_eq_true, Bool.and_eq_true, beq_iff_eq]
  constructor
  · rintro ⟨i, hi, e⟩
    by_cases q : i = m
    · subst q; exact Or.inr ⟨by rw [e], by rw [e]⟩
    · exact Or.inl ⟨i, by omega, e⟩
  · rintro (⟨i, hi, e⟩ | ⟨e1, e2⟩)
    · exact ⟨i, by omega, e⟩
    · exact ⟨m, by omega, by rw [← e1, ← e2]⟩
/-- A list of keys in block g, its cells free. -/
def BK (g n : Nat) (f : Nat → Int × Int) (W : World) : Prop := (∀ i, i < n → W.cell? ⟨g, i * 2, none⟩ = some (.int .i64 (f i).1) ∧ W.cell? ⟨g, i * 2 + 1, none⟩ = some (.int .i64 (f i).2)) ∧ ∀ o, W.frozen? ⟨g, o, none⟩ = false
theorem add_g (g k : Nat) : (⟨g, 0, none⟩ : Addr).add k = ⟨g, k, none⟩ := by
  unfold Addr.add
  split
  · rename_i h; subst h; rfl
  · simp
theorem BK.kr {g n : Nat} {f : Nat → Int × Int} {W : World} (h : BK g n f W) : KR W (some ⟨g, 0, none⟩) n f := fun i hi => ⟨⟨g, 0, none⟩, rfl, by rw [add_g]; exact (h.1 i hi).1, by rw [add_g]; exact (h.1 i hi).2⟩
theorem KL.bk {B g n c : Nat} {f : Nat → Int × Int} {W : World} (h : KL B W (.slice (some ⟨g, 0, none⟩) n c) n f) : BK g n f W := by
  refine ⟨fun i hi => ?_, fun o => World.ownsRow.frozenAt h o⟩
  have h1 := World.ownsRow.cells h (g := g) rfl _ _ (kcells_at f n i hi).1
  have h2 := World.ownsRow.cells h (g := g) rfl _ _ (kcells_at f n i hi).2
  rw [add_g] at h1 h2
  exact ⟨h1, h2⟩
theorem BK.set {g n : Nat} {f : Nat → Int × Int} {W : World} (h : BK g n f W) (i : Nat) (hi : i < n) (A C : Int) : BK g n (fun t => if t = i then (A, C) else f t) ((W.setCell ⟨g, i * 2, none⟩ (.int .i64 A)).setCell ⟨g, i * 2 + 1, none⟩ (.int .i64 C)) := by
  refine ⟨fun t ht => ?_, fun o => by rw [World.frozen?_setCell, World.frozen?_setCell]; exact h.2 o⟩
  obtain ⟨a0, a1⟩ := h.1 t ht
  by_cases e : t = i
  · subst e
    simp only [if_true]
    refine ⟨?_, ?_⟩
    · rw [World.cell?_setCell_other _ _ _ _ (by intro q; injection q; omega)]
      exact World.cell?_setCell_same' _ _ _ (by rw [a0]; rfl)
    · exact World.cell?_setCell_same' _ _ _ (by rw [World.cell?_setCell_other _ _ _ _ (by intro q; injection q; omega), a1]; rfl)
  · simp only [if_neg e]
    refine ⟨?_, ?_⟩
    · rw [World.cell?_setCell_other _ _ _ _ (by intro q; injection q; omega), World.cell?_setCell_other _ _ _ _ (by intro q; injection q; omega)]; exact a0
    · rw [World.cell?_setCell_other _ _ _ _ (by intro q; injection q; omega), World.cell?_setCell_other _ _ _ _ (by intro q; injection q; omega)]; exact a1
theorem BK.congr {g n : Nat} {f f' : Nat → Int × Int} {W : World} (h : BK g n f W) (e : ∀ i, i < n → f' i = f i) : BK g n f' W := ⟨fun i hi => by rw [e i hi]; exact h.1 i hi, h.2⟩
theorem BK.drew {g n : Nat} {f : Nat → Int × Int} {W : World} (h : BK g n f W) : BK g n f W.drew := h
theorem BK.swap {g n j k : Nat} {z : Nat → Int × Int} {W : World} (h : BK g n (swapF z n j) W) (hk : j + 1 + k = n) (hj : j < k) {A C A' C' : Int} (e1 : swapF z n j j = (A, C)) (e2 : swapF z n j k = (A', C')) :
    BK g n (swapF z n (j + 1)) ((((W.setCell ⟨g, j * 2, none⟩ (.int .i64 A')).setCell ⟨g, j * 2 + 1, none⟩ (.int .i64 C')).setCell ⟨g, k * 2, none⟩ (.int .i64 A)).setCell ⟨g, k * 2 + 1, none⟩ (.int .i64 C)) := by
  refine ((h.set j (by omega) A' C').set k (by omega) A C).congr fun i hi => ?_
  have := swapF_step z n j (by omega) i hi
  rw [this]
  have ek : n - 1 - j = k := by omega
  rw [ek, e1, e2]
  by_cases q1 : i = j
  · subst q1; rw [if_pos rfl, if_neg (by omega), if_pos rfl]
  · rw [if_neg q1]
    by_cases q2 : i = k
    · rw [if_pos q2, if_pos q2]
    · rw [if_neg q2, if_neg q2, if_neg q1]
theorem add_add (y : Addr) (i t : Nat) : y.add ((i + t) * 2) = (y.add (i * 2)).add (t * 2) := by
  unfold Addr.add
  by_cases h1 : i * 2 = 0
  · rw [if_pos h1]; rw [show (i + t) * 2 = t * 2 by omega]
  · rw [if_neg h1, if_neg (by omega)]
    by_cases h2 : t * 2 = 0
    · rw [if_pos h2, show (i + t) * 2 = i * 2 by omega]
    · rw [if_neg h2]
      simp only [Addr.mk.injEq, true_and, and_true]
      omega
attribute [local irreducible] Int.lt Int.le
attribute [local go_sem ↓] Go.wp_at_zero Go.wp_at_succ
set_option maxRecDepth 100000 in
set_option maxHeartbeats 40000000 in
theorem keySorts_walk (a0 : Option Addr) (len0 cap0 : Nat) (z0 : Nat → Nat → Int) (a1 : Int) (w : World) (w0 : IsRows 2 w a0 len0 cap0 z0) (w1 : (Lit.int .i64 a1).wf = true) :
    Calls Try.prog 7 #[.slice a0 len0 cap0, .int .i64 a1] w fun e w' => e = .returned (.bool true) ∧ Below w.heap.size w w' := by
  obtain ⟨n, hn⟩ : ∃ n : Nat, min (len0 : Int) 30 = (n : Int) := ⟨(min (len0 : Int) 30).toNat, by omega⟩
  have hn30 : n ≤ 30 := by omega
  have hnl : n ≤ len0 := by omega
  have hb : Below w.heap.size w (w.alloc (.cells #[] 23)) := (Below.refl _ _).alloc (Nat.le_refl _) _
  have hown : KL w.heap.size (w.alloc (.cells #[] 23)) (.slice (some ⟨w.heap.size, 0, none⟩) 0 0) 0 (zp z0) := World.ownsRow_made (base := w.heap.size) (e := 23) (size := 2) w #[] 0 (Nat.le_refl _) (by unfold maxLen; omega) rfl
  go_enter Try.func7, Try.ntmps7
  go_upto_region 1 with fail
  go_cut [5] from 20 to 26 (fun v wx => KL w.heap.size wx v n (zp z0) ∧ Below w.heap.size w wx ∧ v ≠ .slice none 0 0)
  case first =>
    have hn0 : (0 : Int) ≤ (n : Int) := by omega
    have hnn : (n : Int) ≤ (len0 : Int) := by omega
    rcases w0 with ⟨rfl, rfl, rfl⟩ | ⟨x, rfl, x1, x2, hx⟩
    · obtain rfl : n = 0 := by omega
      obtain ⟨v', W', hrun, h1, h2, _, h5⟩ := kl_append (m := 0) (y := zp z0) hown (by simp) none 0 (fun i hi => absurd hi (by omega)) (fun _ => ⟨rfl, rfl⟩) (by omega) 29
      go_wp2_with (first | (at_builtin; refine wpList_run_append rfl _ _ _ rfl rfl rfl hrun ?_) | fail)
      go_meet
      case rel => exact ⟨h1.congr fun i hi => absurd hi (by omega), hb.trans h2, fun q => by have := h5 q; cases this⟩
    · obtain ⟨v', W', hrun, h1, h2, _, h5⟩ := kl_append hown (by simp) (some x) cap0 (kr_rows hx hnl hb) (fun q => by cases q) (by omega) 29
      have hcap : (len0 : Int) ≤ (cap0 : Int) := by omega
      go_wp2_with (first | (at_builtin; refine wpList_run_append rfl _ _ _ rfl rfl rfl hrun ?_) | fail)
      go_meet
      case rel => exact ⟨by rw [show n = 0 + n by omega]; exact h1.congr fun i hi => by unfold catF; rw [if_neg (by omega)]; rfl, hb.trans h2, fun q => by have := h5 q; cases this⟩
  case rest =>
    obtain ⟨hk, hb1, hnn⟩ := hcut
    clear hown hb w0
    obtain ⟨a, c, rfl, hk1, ha0, hc1⟩ := hk.kr
    obtain ⟨x, rfl⟩ : ∃ x, a = some x := by
      cases a with
      | none =>
        obtain ⟨rfl, rfl⟩ := ha0 rfl
        exact absurd rfl hnn
      | some x => exact ⟨x, rfl⟩
    clear hnn ha0
    go_wp2_with fail
    refine (kroomy_any x n c (zp z0) 77 0 _ (by omega) hk1).mono ?_; rintro e W2 ⟨g, rfl, hg, hf2, b2⟩
    have hk2 := hk1.below b2
    have hb2 := hb1.trans (b2.mono hb1.size)
    have KLo := Lib.hid hk
    clear hk hk1 b2 hb1
    have hn0 : (0 : Int) ≤ (n : Int) := by omega
    have hn80 : (n : Int) ≤ (n : Int) + 80 := by omega
    have hkg : KR W2 (some ⟨g, 0, none⟩) n (zp z0) := KR.congr (fun i hi => hf2 i (by omega)) fun i hi => (if_pos hi).symm
    go_wp2_with fail
    refine (ksort_kr (some ⟨g, 0, none⟩) n (n + 80) (zp z0) W2 (by omega) hkg).mono ?_; rintro e W3 ⟨v3, rfl, ks3, b3⟩
    have KLf := Lib.hid (hf2.below b3)
    have hk3 := hk2.below b3
    have hb3 := hb2.trans (b3.mono hb2.size)
    have hKS := kS_rises (zp z0) n
    obtain ⟨s, cs, rfl, hs3, hs0, hcs⟩ := ks3.kr
    clear hk2 hkg hf2 b3 hb2 ks3 KLo
    have hsn : (kS (zp z0) n).length ≤ 55 := rise_len _ hKS (kS_lt _ _)
    generalize hps : kS (zp z0) n = ps at *
    have HPS := Lib.hid hps
    clear hps
    have hKlt := kS_lt (zp z0) n
    rw [HPS.out] at hKlt
    have hpl : ∀ i (h : i < ps.length), placeI (sk ps i).1 (sk ps i).2 = ps[i] := fun i h => sk_place ps hKlt i h
    have hfr : ∀ i, i < ps.length → kHas (zp z0) n (sk ps i) := by rw [← HPS.out]; exact fun i h => kS_from (zp z0) n i h
    go_wp2_with fail
    go_loopw [37] (fun i wr => ∃ j : Nat, j ≤ ps.length ∧ i = .int .i64 (j : Int) ∧ Below W3.heap.size W3 wr) (fun i _ => ps.length - (intOf i).toNat)
    case atStart => exact ⟨0, by omega, rfl, Below.refl _ _⟩
    case round =>
      obtain ⟨j, hj, rfl, hbj⟩ := hrel
      have j0 : (0 : Int) ≤ (j : Int) := by omega
      by_cases hlt : j < ps.length
      · have l1 : (j : Int) < (ps.length : Int) := by omega
        obtain ⟨y, rfl, c0, c1⟩ := (hs3.below hbj) j hlt
        have hp1 := hpl j hlt
        have hk1 := hfr j hlt
        have hk4 := hk3.below hbj
        have hpos : 0 ≤ ps[j] := (hKlt _ (List.getElem_mem hlt)).1
        have hprev : 0 < j → ∃ A0 C0 p0, (⟨A0, C0⟩ : Int × Int) = sk ps (j - 1) ∧ placeI A0 C0 = p0 ∧ p0 < ps[j] := fun q => ⟨(sk ps (j - 1)).1, (sk ps (j - 1)).2, _, rfl, hpl (j - 1) (by omega), List.pairwise_iff_getElem.1 hKS (j - 1) j (by omega) hlt (by omega)⟩
        have hs4 := hs3.below hbj
        go_upto_region 7 with fail
        have bA : Below wr.heap.size wr (wr.alloc (.cells #[.int .i64 (sk ps j).1, .int .i64 (sk ps j).2] 23)) := (Below.refl _ _).alloc (Nat.le_refl _) _
        have hs5 := hs4.below bA
        have hk5 := hk4.below bA
        have hb5 := hbj.trans (bA.mono hbj.size)
        have k0 : (wr.alloc (.cells #[.int .i64 (sk ps j).1, .int .i64 (sk ps j).2] 23)).cell? ⟨wr.heap.size, 0, none⟩ = some (.int .i64 (sk ps j).1) := cell_of_row _ _ 0 _ _ _ (heap_alloc_new _ _)
        have k1 : (wr.alloc (.cells #[.int .i64 (sk ps j).1, .int .i64 (sk ps j).2] 23)).cell? ⟨wr.heap.size, 1, none⟩ = some (.int .i64 (sk ps j).2) := cell_of_row _ _ 1 _ _ _ (heap_alloc_new _ _)
        clear c0 c1 hs4 hk4 bA hbj
        generalize wr.alloc (.cells #[.int .i64 (sk ps j).1, .int .i64 (sk ps j).2] 23) = W7 at *
        generalize wr.heap.size = K at *
        have hb7 := hb5
        have S0 : K7 W7 K (sk ps j).1 (sk ps j).2 W7.drew := k7_below ⟨k0, k1, Below.refl _ _⟩ (below_drewN (Below.refl _ _) 1)
        have HW := fun (W : World) (g : Nat) (h0 : W.cell? ⟨g, 0, none⟩ = some (.int .i64 (sk ps j).1)) (h1 : W.cell? ⟨g, 1, none⟩ = some (.int .i64 (sk ps j).2)) (hb : Below W7.heap.size W7 W) => kwithin_one x n c g (zp z0) (sk ps j).1 (sk ps j).2 W (by omega) h0 h1 (hk5.below hb) hk1
        clear k0 k1 hk5 hk1 hk3
        --(a
        by_cases hj0 : j = 0
        · subst hj0
          have hd : decide (placeI (sk ps 0).1 (sk ps 0).2 < 0) = false := decide_eq_false (by rw [hp1]; omega)
          have hpp : ∀ W, Calls Try.prog 14 #[.agg #[.int .i64 (sk ps 0).1, .int .i64 (sk ps 0).2]] W _ := fun W => place_any (sk ps 0).1 (sk ps 0).2 W
          have HP := Lib.hid hpp
          have HWh := Lib.hid HW
          clear HW hpp hp1 hfr hpl hprev
          generalize (sk ps 0).1 = A at *
          generalize (sk ps 0).2 = C at *
          generalize placeI A C = P at *
          rw [show ((0 : Nat) : Int) = 0 from rfl]
          refine wp_region_held_drew (S := K7 W7 K A C) (by kernel_rfl) S0 (fun hHeld => ?_)
          refine reg_take (i := 0) (v := ?_) rfl rfl (by kernel_rfl) (by kernel_rfl) (by kernel_rfl) (fun _ _ _ h => h) (by assumption) (by rfl) ?_ ?_
          rotate_left 1
          · (intro w hSw; (try dsimp only at hSw); go_simp; try with_reducible rfl)
          try simp only [List.setIfInBounds_toArray, List.set_cons_zero, List.set_cons_succ]
          refine reg_step (i := 1) (by kernel_rfl) rfl (by rfl) (fun KC hKC => ?_)
          go_simp
          refine (HP.out _).mono ?_; rintro e W8 ⟨rfl, t8⟩
          have s8 := k7_below hHeld t8
          clear hHeld t8
          refine hKC.out _ _ ?_ (fun hHeld => ?_)
          · exact s8
          clear hKC KC
          refine reg_take (i := 2) (v := ?_) rfl rfl (by kernel_rfl) (by kernel_rfl) (by kernel_rfl) (fun _ _ _ h => h) (by assumption) (by rfl) ?_ ?_
          rotate_left 1
          · (intro w hSw; (try dsimp only at hSw); go_simp; try with_reducible rfl)
          try simp only [List.setIfInBounds_toArray, List.set_cons_zero, List.set_cons_succ]
          refine reg_take (i := 3) (v := ?_) rfl rfl (by kernel_rfl) (by kernel_rfl) (by kernel_rfl) (fun _ _ _ h => h) (by assumption) (by rfl) ?_ ?_
          rotate_left 1
          · (intro w hSw; (try dsimp only at hSw); go_simp; try with_reducible rfl)
          try simp only [List.setIfInBounds_toArray, List.set_cons_zero, List.set_cons_succ]
          refine reg_take (i := 4) (v := ?_) rfl rfl (by kernel_rfl) (by kernel_rfl) (by kernel_rfl) (fun _ _ _ h => h) (by assumption) (by rfl) ?_ ?_
          rotate_left 1
          · (intro w hSw; (try dsimp only at hSw); go_simp; try with_reducible rfl)
          try simp only [List.setIfInBounds_toArray, List.set_cons_zero, List.set_cons_succ]
          refine reg_take (i := 5) (v := ?_) rfl rfl (by kernel_rfl) (by kernel_rfl) (by kernel_rfl) (fun _ _ _ h => h) (by assumption) (by rfl) ?_ ?_
          rotate_left 1
          · (intro w hSw; (try dsimp only at hSw); go_simp; try with_reducible rfl)
          try simp only [List.setIfInBounds_toArray, List.set_cons_zero, List.set_cons_succ]
          refine reg_take (i := 6) (v := ?_) rfl rfl (by kernel_rfl) (by kernel_rfl) (by kernel_rfl) (fun _ _ _ h => h) (by assumption) (by rfl) ?_ ?_
          rotate_left 1
          · (intro w hSw; (try dsimp only at hSw); go_simp; try with_reducible rfl)
          try simp only [List.setIfInBounds_toArray, List.set_cons_zero, List.set_cons_succ]
          refine reg_skip (i := 7) rfl rfl (by kernel_rfl) (by kernel_rfl) (by kernel_rfl) (fun _ _ _ h => h) (by assumption) (by rfl) ?_
          try simp only [List.setIfInBounds_toArray, List.set_cons_zero, List.set_cons_succ]
          refine reg_skip (i := 8) rfl rfl (by kernel_rfl) (by kernel_rfl) (by kernel_rfl) (fun _ _ _ h => h) (by assumption) (by rfl) ?_
          try simp only [List.setIfInBounds_toArray, List.set_cons_zero, List.set_cons_succ]
          refine reg_skip (i := 9) rfl rfl (by kernel_rfl) (by kernel_rfl) (by kernel_rfl) (fun _ _ _ h => h) (by assumption) (by rfl) ?_
          try simp only [List.setIfInBounds_toArray, List.set_cons_zero, List.set_cons_succ]
          refine reg_skip (i := 10) rfl rfl (by kernel_rfl) (by kernel_rfl) (by kernel_rfl) (fun _ _ _ h => h) (by assumption) (by rfl) ?_
          try simp only [List.setIfInBounds_toArray, List.set_cons_zero, List.set_cons_succ]
          refine reg_skip (i := 11) rfl rfl (by kernel_rfl) (by kernel_rfl) (by kernel_rfl) (fun _ _ _ h => h) (by assumption) (by rfl) ?_
          try simp only [List.setIfInBounds_toArray, List.set_cons_zero, List.set_cons_succ]
          refine reg_skip (i := 12) rfl rfl (by kernel_rfl) (by kernel_rfl) (by kernel_rfl) (fun _ _ _ h => h) (by assumption) (by rfl) ?_
          try simp only [List.setIfInBounds_toArray, List.set_cons_zero, List.set_cons_succ]
          refine reg_skip (i := 13) rfl rfl (by kernel_rfl) (by kernel_rfl) (by kernel_rfl) (fun _ _ _ h => h) (by assumption) (by rfl) ?_
          try simp only [List.setIfInBounds_toArray, List.set_cons_zero, List.set_cons_succ]
          refine reg_skip (i := 14) rfl rfl (by kernel_rfl) (by kernel_rfl) (by kernel_rfl) (fun _ _ _ h => h) (by assumption) (by rfl) ?_
          try simp only [List.setIfInBounds_toArray, List.set_cons_zero, List.set_cons_succ]
          refine reg_skip (i := 15) rfl rfl (by kernel_rfl) (by kernel_rfl) (by kernel_rfl) (fun _ _ _ h => h) (by assumption) (by rfl) ?_
          try simp only [List.setIfInBounds_toArray, List.set_cons_zero, List.set_cons_succ]
          refine reg_take (i := 16) (v := ?_) rfl rfl (by kernel_rfl) (by kernel_rfl) (by kernel_rfl) (fun _ _ _ h => h) (by assumption) (by rfl) ?_ ?_
          rotate_left 1
          · (intro w hSw; (try dsimp only at hSw); go_simp; try with_reducible rfl)
          try simp only [List.setIfInBounds_toArray, List.set_cons_zero, List.set_cons_succ]
          refine reg_take (i := 17) (v := ?_) rfl rfl (by kernel_rfl) (by kernel_rfl) (by kernel_rfl) (fun _ _ _ h => h) (by assumption) (by rfl) ?_ ?_
          rotate_left 1
          · (intro w hSw; (try dsimp only at hSw); go_simp; try with_reducible rfl)
          try simp only [List.setIfInBounds_toArray, List.set_cons_zero, List.set_cons_succ]
          refine reg_take (i := 18) (v := ?_) rfl rfl (by kernel_rfl) (by kernel_rfl) (by kernel_rfl) (fun _ _ _ h => h) (by assumption) (by rfl) ?_ ?_
          rotate_left 1
          · (intro w hSw; (try dsimp only at hSw); go_simp; try with_reducible rfl)
          try simp only [List.setIfInBounds_toArray, List.set_cons_zero, List.set_cons_succ]
          refine reg_take (i := 19) (v := ?_) rfl rfl (by kernel_rfl) (by kernel_rfl) (by kernel_rfl) (fun _ _ _ h => h) (by assumption) (by rfl) ?_ ?_
          rotate_left 1
          · (intro w hSw; (try dsimp only at hSw); go_simp; try with_reducible rfl)
          try simp only [List.setIfInBounds_toArray, List.set_cons_zero, List.set_cons_succ]
          refine reg_take (i := 21) (v := ?_) rfl rfl (by kernel_rfl) (by kernel_rfl) (by kernel_rfl) (fun _ _ _ h => h) (by assumption) (by rfl) ?_ ?_
          rotate_left 1
          · (intro w hSw; (try dsimp only at hSw); go_simp; try with_reducible rfl)
          try simp only [List.setIfInBounds_toArray, List.set_cons_zero, List.set_cons_succ]
          refine reg_step (i := 20) (by kernel_rfl) rfl (by rfl) (fun KC hKC => ?_)
          go_simp
          have s9 := k7_alloc hHeld (Obj.cells #[Value.int IntKind.i64 A, Value.int IntKind.i64 C] 23)
          have g0 : (W8.alloc (Obj.cells #[Value.int IntKind.i64 A, Value.int IntKind.i64 C] 23)).cell? ⟨W8.heap.size, 0, none⟩ = some (.int .i64 A) := cell_of_row _ _ 0 _ _ _ (heap_alloc_new _ _)
          have g1 : (W8.alloc (Obj.cells #[Value.int IntKind.i64 A, Value.int IntKind.i64 C] 23)).cell? ⟨W8.heap.size, 1, none⟩ = some (.int .i64 C) := cell_of_row _ _ 1 _ _ _ (heap_alloc_new _ _)
          generalize W8.alloc (Obj.cells #[Value.int IntKind.i64 A, Value.int IntKind.i64 C] 23) = W9 at *
          generalize W8.heap.size = G at *
          clear s8 hHeld
          refine hKC.out _ _ ?_ (fun hHeld => ?_)
          · exact s9
          clear hKC KC
          refine reg_step (i := 22) (by kernel_rfl) rfl (by rfl) (fun KC hKC => ?_)
          go_simp
          refine (HWh.out _ G g0 g1 s9.2.2).mono ?_; rintro e W10 ⟨rfl, t10⟩
          have s10 := k7_below s9 t10
          clear s9 g0 g1 hHeld t10
          refine hKC.out _ _ ?_ (fun hHeld => ?_)
          · exact s10
          clear hKC KC
          refine reg_take (i := 23) (v := ?_) rfl rfl (by kernel_rfl) (by kernel_rfl) (by kernel_rfl) (fun _ _ _ h => h) (by assumption) (by rfl) ?_ ?_
          rotate_left 1
          · (intro w hSw; (try dsimp only at hSw); go_simp; try with_reducible rfl)
          try simp only [List.setIfInBounds_toArray, List.set_cons_zero, List.set_cons_succ]
          refine reg_take (i := 24) (v := ?_) rfl rfl (by kernel_rfl) (by kernel_rfl) (by kernel_rfl) (fun _ _ _ h => h) (by assumption) (by rfl) ?_ ?_
          rotate_left 1
          · (intro w hSw; (try dsimp only at hSw); go_simp; try with_reducible rfl)
          try simp only [List.setIfInBounds_toArray, List.set_cons_zero, List.set_cons_succ]
          refine wpAnyH_done (by kernel_rfl) ?_ _
          clear hHeld HWh HP
          have hb10 := hb7.trans (s10.2.2.mono hb7.size)
          clear s10 S0 hb7 hb5
          go_wp2_with fail
          exact ⟨⟨1, by omega, by go_num, hb10⟩, by simp [intOf]; omega⟩
        · obtain ⟨i, rfl⟩ : ∃ i, j = i + 1 := ⟨j - 1, by omega⟩
          have li : (i : Int) < (ps.length : Int) := by omega
          have li0 : (0 : Int) ≤ (i : Int) := by omega
          have hd : decide (placeI (sk ps (i + 1)).1 (sk ps (i + 1)).2 < 0) = false := decide_eq_false (by rw [hp1]; omega)
          have hgt : decide (0 < (i : Int) + 1) = true := decide_eq_true (by omega)
          obtain ⟨A0, C0, p0, e0, ep0, hlt0⟩ := hprev (by omega)
          have hge : decide (placeI (sk ps (i + 1)).1 (sk ps (i + 1)).2 ≤ placeI A0 C0) = false := decide_eq_false (by rw [hp1, ep0]; omega)
          obtain ⟨y', hy', d0, d1⟩ := hs5 i (by omega)
          obtain rfl : y = y' := by simpa using hy'
          rw [show sk ps i = (A0, C0) by rw [e0]; rfl] at d0 d1
          have hpp : ∀ W, Calls Try.prog 14 #[.agg #[.int .i64 (sk ps (i + 1)).1, .int .i64 (sk ps (i + 1)).2]] W _ := fun W => place_any (sk ps (i + 1)).1 (sk ps (i + 1)).2 W
          have hpq : ∀ W, Calls Try.prog 14 #[.agg #[.int .i64 A0, .int .i64 C0]] W _ := fun W => place_any A0 C0 W
          have HP := Lib.hid hpp
          have HQ := Lib.hid hpq
          have HWh := Lib.hid HW
          have HK := Lib.hid hKlt
          clear HW hpp hpq hp1 hfr hpl hprev e0 ep0 hlt0 hy' hs5 hpos hKlt hKS hs3
          generalize (sk ps (i + 1)).1 = A at *
          generalize (sk ps (i + 1)).2 = C at *
          generalize placeI A C = P at *
          generalize placeI A0 C0 = P0 at *
          have S1 : (fun W => (W.cell? (y.add (i * 2)) = some (.int .i64 A0) ∧ W.cell? ⟨(y.add (i * 2)).block, (y.add (i * 2)).off + 1, none⟩ = some (.int .i64 C0)) ∧ K7 W7 K A C W) W7.drew := ⟨⟨d0, d1⟩, S0⟩
          refine wp_region_held_drew (S := fun W => (W.cell? (y.add (i * 2)) = some (.int .i64 A0) ∧ W.cell? ⟨(y.add (i * 2)).block, (y.add (i * 2)).off + 1, none⟩ = some (.int .i64 C0)) ∧ K7 W7 K A C W) (by kernel_rfl) S1 (fun hHeld => ?_)
          clear S1 S0 d0 d1
          have kb : ∀ W W', ((W.cell? (y.add (i * 2)) = some (.int .i64 A0) ∧ W.cell? ⟨(y.add (i * 2)).block, (y.add (i * 2)).off + 1, none⟩ = some (.int .i64 C0)) ∧ K7 W7 K A C W) → Below W.heap.size W W' → ((W'.cell? (y.add (i * 2)) = some (.int .i64 A0) ∧ W'.cell? ⟨(y.add (i * 2)).block, (y.add (i * 2)).off + 1, none⟩ = some (.int .i64 C0)) ∧ K7 W7 K A C W') :=
            fun W W' h hb => ⟨⟨(hb.cell (cell_block_lt h.1.1)).trans h.1.1, (hb.cell (cell_block_lt h.1.2)).trans h.1.2⟩, k7_below h.2 hb⟩
          have KB := Lib.hid kb
          clear kb
          refine reg_take (i := 0) (v := ?_) rfl rfl (by kernel_rfl) (by kernel_rfl) (by kernel_rfl) (fun _ _ _ h => h) (by assumption) (by rfl) ?_ ?_
          rotate_left 1
          · (intro w hSw; (try dsimp only at hSw); go_simp; try with_reducible rfl)
          try simp only [List.setIfInBounds_toArray, List.set_cons_zero, List.set_cons_succ]
          refine reg_step (i := 1) (by kernel_rfl) rfl (by rfl) (fun KC hKC => ?_)
          go_simp
          refine (HP.out _).mono ?_; rintro e W8 ⟨rfl, t8⟩
          have s8 := KB.out _ _ hHeld t8
          clear hHeld t8
          refine hKC.out _ _ ?_ (fun hHeld => ?_)
          · exact s8
          clear hKC KC
          have hwr : IntKind.i64.wrap (i : Int) = (i : Int) := IntWalk.i64_in _ (by omega)
          refine reg_take (i := 2) (v := ?_) rfl rfl (by kernel_rfl) (by kernel_rfl) (by kernel_rfl) (fun _ _ _ h => h) (by assumption) (by rfl) ?_ ?_
          rotate_left 1
          · (intro w hSw; (try dsimp only at hSw); go_simp; try with_reducible rfl)
          try simp only [List.setIfInBounds_toArray, List.set_cons_zero, List.set_cons_succ]
          refine reg_take (i := 3) (v := ?_) rfl rfl (by kernel_rfl) (by kernel_rfl) (by kernel_rfl) (fun _ _ _ h => h) (by assumption) (by rfl) ?_ ?_
          rotate_left 1
          · (intro w hSw; (try dsimp only at hSw); go_simp; try with_reducible rfl)
          try simp only [List.setIfInBounds_toArray, List.set_cons_zero, List.set_cons_succ]
          refine reg_take (i := 4) (v := ?_) rfl rfl (by kernel_rfl) (by kernel_rfl) (by kernel_rfl) (fun _ _ _ h => h) (by assumption) (by rfl) ?_ ?_
          rotate_left 1
          · (intro w hSw; (try dsimp only at hSw); go_simp; try with_reducible rfl)
          try simp only [List.setIfInBounds_toArray, List.set_cons_zero, List.set_cons_succ]
          refine reg_take (i := 5) (v := ?_) rfl rfl (by kernel_rfl) (by kernel_rfl) (by kernel_rfl) (fun _ _ _ h => h) (by assumption) (by rfl) ?_ ?_
          rotate_left 1
          · (intro w hSw; (try dsimp only at hSw); go_simp; try with_reducible rfl)
          try simp only [List.setIfInBounds_toArray, List.set_cons_zero, List.set_cons_succ]
          refine reg_take (i := 6) (v := ?_) rfl rfl (by kernel_rfl) (by kernel_rfl) (by kernel_rfl) (fun _ _ _ h => h) (by assumption) (by rfl) ?_ ?_
          rotate_left 1
          · (intro w hSw; (try dsimp only at hSw); go_simp; try with_reducible rfl)
          try simp only [List.setIfInBounds_toArray, List.set_cons_zero, List.set_cons_succ]
          refine reg_take (i := 7) (v := ?_) rfl rfl (by kernel_rfl) (by kernel_rfl) (by kernel_rfl) (fun _ _ _ h => h) (by assumption) (by rfl) ?_ ?_
          rotate_left 1
          · (intro w hSw; (try dsimp only at hSw); go_simp; try with_reducible rfl)
          try simp only [List.setIfInBounds_toArray, List.set_cons_zero, List.set_cons_succ]
          refine reg_take (i := 8) (v := ?_) rfl rfl (by kernel_rfl) (by kernel_rfl) (by kernel_rfl) (fun _ _ _ h => h) (by assumption) (by rfl) ?_ ?_
          rotate_left 1
          · (intro w hSw; (try dsimp only at hSw); go_simp; try with_reducible rfl)
          try simp only [List.setIfInBounds_toArray, List.set_cons_zero, List.set_cons_succ]
          refine reg_take (i := 9) (v := ?_) rfl rfl (by kernel_rfl) (by kernel_rfl) (by kernel_rfl) (fun _ _ _ h => h) (by assumption) (by rfl) ?_ ?_
          rotate_left 1
          · (intro w hSw; (try dsimp only at hSw); go_simp; try with_reducible rfl)
          try simp only [List.setIfInBounds_toArray, List.set_cons_zero, List.set_cons_succ]
          refine reg_take (i := 10) (v := ?_) rfl rfl (by kernel_rfl) (by kernel_rfl) (by kernel_rfl) (fun _ _ _ h => h) (by assumption) (by rfl) ?_ ?_
          rotate_left 1
          · (intro w hSw; (try dsimp only at hSw); go_simp; try with_reducible rfl)
          try simp only [List.setIfInBounds_toArray, List.set_cons_zero, List.set_cons_succ]
          refine reg_take (i := 11) (v := ?_) rfl rfl (by kernel_rfl) (by kernel_rfl) (by kernel_rfl) (fun _ _ _ h => h) (by assumption) (by rfl) ?_ ?_
          rotate_left 1
          · (intro w hSw; (try dsimp only at hSw); go_simp; try with_reducible rfl)
          try simp only [List.setIfInBounds_toArray, List.set_cons_zero, List.set_cons_succ]
          refine reg_take (i := 13) (v := ?_) rfl rfl (by kernel_rfl) (by kernel_rfl) (by kernel_rfl) (fun _ _ _ h => h) (by assumption) (by rfl) ?_ ?_
          rotate_left 1
          · (intro w hSw; (try dsimp only at hSw); go_simp; try with_reducible rfl)
          try simp only [List.setIfInBounds_toArray, List.set_cons_zero, List.set_cons_succ]
          refine reg_step (i := 12) (by kernel_rfl) rfl (by rfl) (fun KC hKC => ?_)
          go_simp
          refine (HQ.out _).mono ?_; rintro e W9 ⟨rfl, t9⟩
          have s9 := KB.out _ _ hHeld t9
          clear hHeld t9 s8
          refine hKC.out _ _ ?_ (fun hHeld => ?_)
          · exact s9
          clear hKC KC
          refine reg_step (i := 14) (by kernel_rfl) rfl (by rfl) (fun KC hKC => ?_)
          go_simp
          refine (HP.out _).mono ?_; rintro e W10 ⟨rfl, t10⟩
          have s10 := KB.out _ _ hHeld t10
          clear hHeld t10 s9
          refine hKC.out _ _ ?_ (fun hHeld => ?_)
          · exact s10
          clear hKC KC hwr
          refine reg_take (i := 15) (v := ?_) rfl rfl (by kernel_rfl) (by kernel_rfl) (by kernel_rfl) (fun _ _ _ h => h) (by assumption) (by rfl) ?_ ?_
          rotate_left 1
          · (intro w hSw; (try dsimp only at hSw); go_simp; try with_reducible rfl)
          try simp only [List.setIfInBounds_toArray, List.set_cons_zero, List.set_cons_succ]
          refine reg_take (i := 16) (v := ?_) rfl rfl (by kernel_rfl) (by kernel_rfl) (by kernel_rfl) (fun _ _ _ h => h) (by assumption) (by rfl) ?_ ?_
          rotate_left 1
          · (intro w hSw; (try dsimp only at hSw); go_simp; try with_reducible rfl)
          try simp only [List.setIfInBounds_toArray, List.set_cons_zero, List.set_cons_succ]
          refine reg_take (i := 17) (v := ?_) rfl rfl (by kernel_rfl) (by kernel_rfl) (by kernel_rfl) (fun _ _ _ h => h) (by assumption) (by rfl) ?_ ?_
          rotate_left 1
          · (intro w hSw; (try dsimp only at hSw); go_simp; try with_reducible rfl)
          try simp only [List.setIfInBounds_toArray, List.set_cons_zero, List.set_cons_succ]
          refine reg_take (i := 18) (v := ?_) rfl rfl (by kernel_rfl) (by kernel_rfl) (by kernel_rfl) (fun _ _ _ h => h) (by assumption) (by rfl) ?_ ?_
          rotate_left 1
          · (intro w hSw; (try dsimp only at hSw); go_simp; try with_reducible rfl)
          try simp only [List.setIfInBounds_toArray, List.set_cons_zero, List.set_cons_succ]
          refine reg_take (i := 19) (v := ?_) rfl rfl (by kernel_rfl) (by kernel_rfl) (by kernel_rfl) (fun _ _ _ h => h) (by assumption) (by rfl) ?_ ?_
          rotate_left 1
          · (intro w hSw; (try dsimp only at hSw); go_simp; try with_reducible rfl)
          try simp only [List.setIfInBounds_toArray, List.set_cons_zero, List.set_cons_succ]
          refine reg_take (i := 21) (v := ?_) rfl rfl (by kernel_rfl) (by kernel_rfl) (by kernel_rfl) (fun _ _ _ h => h) (by assumption) (by rfl) ?_ ?_
          rotate_left 1
          · (intro w hSw; (try dsimp only at hSw); go_simp; try with_reducible rfl)
          try simp only [List.setIfInBounds_toArray, List.set_cons_zero, List.set_cons_succ]
          refine reg_step (i := 20) (by kernel_rfl) rfl (by rfl) (fun KC hKC => ?_)
          go_simp
          have s11 := k7_alloc hHeld.2 (Obj.cells #[Value.int IntKind.i64 A, Value.int IntKind.i64 C] 23)
          have s12 := KB.out _ (W10.alloc (Obj.cells #[Value.int IntKind.i64 A, Value.int IntKind.i64 C] 23)) hHeld ((Below.refl _ _).alloc (Nat.le_refl _) _)
          have g0 : (W10.alloc (Obj.cells #[Value.int IntKind.i64 A, Value.int IntKind.i64 C] 23)).cell? ⟨W10.heap.size, 0, none⟩ = some (.int .i64 A) := cell_of_row _ _ 0 _ _ _ (heap_alloc_new _ _)
          have g1 : (W10.alloc (Obj.cells #[Value.int IntKind.i64 A, Value.int IntKind.i64 C] 23)).cell? ⟨W10.heap.size, 1, none⟩ = some (.int .i64 C) := cell_of_row _ _ 1 _ _ _ (heap_alloc_new _ _)
          generalize W10.alloc (Obj.cells #[Value.int IntKind.i64 A, Value.int IntKind.i64 C] 23) = W11 at *
          generalize W10.heap.size = G at *
          clear s10 hHeld
          refine hKC.out _ _ ?_ (fun hHeld => ?_)
          · exact s12
          clear hKC KC
          refine reg_step (i := 22) (by kernel_rfl) rfl (by rfl) (fun KC hKC => ?_)
          go_simp
          refine (HWh.out _ G g0 g1 s11.2.2).mono ?_; rintro e W12 ⟨rfl, t12⟩
          have s13 := KB.out _ _ hHeld t12
          clear s11 s12 g0 g1 hHeld t12
          refine hKC.out _ _ ?_ (fun hHeld => ?_)
          · exact s13
          clear hKC KC
          refine reg_take (i := 23) (v := ?_) rfl rfl (by kernel_rfl) (by kernel_rfl) (by kernel_rfl) (fun _ _ _ h => h) (by assumption) (by rfl) ?_ ?_
          rotate_left 1
          · (intro w hSw; (try dsimp only at hSw); go_simp; try with_reducible rfl)
          try simp only [List.setIfInBounds_toArray, List.set_cons_zero, List.set_cons_succ]
          refine reg_take (i := 24) (v := ?_) rfl rfl (by kernel_rfl) (by kernel_rfl) (by kernel_rfl) (fun _ _ _ h => h) (by assumption) (by rfl) ?_ ?_
          rotate_left 1
          · (intro w hSw; (try dsimp only at hSw); go_simp; try with_reducible rfl)
          try simp only [List.setIfInBounds_toArray, List.set_cons_zero, List.set_cons_succ]
          refine wpAnyH_done (by kernel_rfl) ?_ _
          clear hHeld HWh HP HQ KB
          have hb10 := hb7.trans (s13.2.2.2.mono hb7.size)
          clear s13 hb7 hb5
          go_wp2_with fail
          exact ⟨⟨i + 1 + 1, by omega, by go_num, hb10⟩, by simp [intOf]; omega⟩
        --)a
      · obtain rfl : j = ps.length := by omega
        clear hlt hfr hpl hj j0
        have hk4 := hk3.below hbj
        have hs4 := hs3.below hbj
        have hf4 := KLf.out.below hbj
        have hb4 := hb3.trans (hbj.mono hb3.size)
        clear hk3 hs3 KLf hb3 hbj
        have KF := Lib.hid hf4
        have HK := Lib.hid hKlt
        have HR := Lib.hid hKS
        have hfn : KR wr (some ⟨g, 0, none⟩) n (zp z0) := KR.congr (fun i hi => hf4 i (by omega)) fun i hi => (if_pos hi).symm
        have hint := kintact_yes ⟨g, 0, none⟩ (some x) n c (zp z0) 77 0 wr (by omega) hfn hk4 hf4
        clear hf4 hfn KF hKlt hKS
        have HI := Lib.hid hint
        clear hint
        go_wp2_with fail
        refine HI.out.mono ?_; rintro e W5 ⟨rfl, t5⟩
        have hk5 := hk4.below t5
        have hs5 := hs4.below t5
        have hb5 := hb4.trans (t5.mono hb4.size)
        clear hk4 hs4 hb4 t5 HI
        go_wp2_with fail
        refine (kwithin_any (some x) s n ps.length cs c (zp z0) (sk ps) W5 (by omega) (by omega) hk5 hs5).mono ?_; rintro e W6 ⟨r, rfl, hr, t6⟩
        obtain rfl : r = true := hr.2 (by rw [← HPS.out]; exact within_own_s _ _)
        have hk6 := hk5.below t6
        have hs6 := hs5.below t6
        have hb6 := hb5.trans (t6.mono hb5.size)
        clear hk5 hs5 hb5 t6 hr
        go_wp2_with fail
        refine (kwithin_any s (some x) ps.length n c cs (sk ps) (zp z0) W6 (by omega) (by omega) hs6 hk6).mono ?_; rintro e W7 ⟨r, rfl, hr, t7⟩
        obtain rfl : r = true := hr.2 (by rw [← HPS.out]; exact within_s_own _ _)
        have hk7 := hk6.below t7
        have hs7 := hs6.below t7
        have hb7 := hb6.trans (t7.mono hb6.size)
        clear hk6 hs6 hb6 t7 hr
        go_wp2_with fail
        refine (ksort_kr s ps.length cs (sk ps) W7 (by omega) hs7).mono ?_; rintro e W8 ⟨v8, rfl, ks8, t8⟩
        rw [show kS (sk ps) ps.length = ps by rw [← HPS.out]; exact kS_again _ _] at ks8
        obtain ⟨s2, cs2, rfl, hs28, hs20, hcs2⟩ := ks8.kr
        have hk8 := hk7.below t8
        have hs8 := hs7.below t8
        have hb8 := hb7.trans (t8.mono hb7.size)
        clear hk7 hs7 hb7 t8 ks8
        go_wp2_with fail
        refine (same_yes s2 s ps.length cs2 cs W8 (by omega) (same_kr hs28 hs8)).mono ?_; rintro e W9 ⟨rfl, t9⟩
        have hk9 := hk8.below t9
        have hs9 := hs8.below t9
        have hb9 := hb8.trans (t9.mono hb8.size)
        clear hk8 hs8 hs28 hb8 t9 hs20 hcs2
        go_wp2_with fail
        have hz9 := hs9
        go_loopw [94] (fun i wr => ∃ j : Nat, j ≤ n ∧ i = .int .i64 (j : Int) ∧ Below W9.heap.size W9 wr) (fun i _ => n - (intOf i).toNat)
        case atStart => exact ⟨0, by omega, rfl, Below.refl _ _⟩
        case round =>
          obtain ⟨j, hj, rfl, hbj⟩ := hrel
          have j0 : (0 : Int) ≤ (j : Int) := by omega
          have hlB := hbj.size
          by_cases hlt : j < n
          · have l1 : (j : Int) < (n : Int) := by omega
            obtain ⟨y, hy, c0, c1⟩ := (hk9.below hbj) j hlt
            obtain rfl : x = y := by simpa using hy
            clear hy
            have hs10 := hs9.below hbj
            have hyes : kHas (sk ps) ps.length (zp z0 j) ↔ 0 ≤ placeI (zp z0 j).1 (zp z0 j).2 := by
              constructor
              · rintro ⟨i, hi, e⟩
                rw [← e, sk_place ps HK.out i hi]
                exact (HK.out _ (List.getElem_mem hi)).1
              · intro hp
                have := kS_has (zp z0) n j hlt hp
                rwa [HPS.out] at this
            have HY := Lib.hid hyes
            clear hyes
            rw [show zp z0 j = ((zp z0 j).1, (zp z0 j).2) from rfl] at HY
            generalize (zp z0 j).1 = A at *
            generalize (zp z0 j).2 = C at *
            --(b
            go_upto_region 16 with fail
            have bA : Below wr.heap.size wr (wr.alloc (.cells #[.int .i64 A, .int .i64 C] 23)) := (Below.refl _ _).alloc (Nat.le_refl _) _
            have hs11 := hs10.below bA
            have hb11 := hbj.trans (bA.mono hbj.size)
            have k0 : (wr.alloc (.cells #[.int .i64 A, .int .i64 C] 23)).cell? ⟨wr.heap.size, 0, none⟩ = some (.int .i64 A) := cell_of_row _ _ 0 _ _ _ (heap_alloc_new _ _)
            have k1 : (wr.alloc (.cells #[.int .i64 A, .int .i64 C] 23)).cell? ⟨wr.heap.size, 1, none⟩ = some (.int .i64 C) := cell_of_row _ _ 1 _ _ _ (heap_alloc_new _ _)
            clear c0 c1 hs10 bA hbj
            generalize wr.alloc (.cells #[.int .i64 A, .int .i64 C] 23) = W10 at *
            generalize wr.heap.size = K at *
            go_wp2_with fail
            go_loopw [12, 100] (fun b i wr => ∃ m : Nat, m ≤ ps.length ∧ i = .int .i64 (m : Int) ∧ b = .bool (decide (kHas (sk ps) m (A, C))) ∧ Below W10.heap.size W10 wr) (fun _ i _ => ps.length - (intOf i).toNat)
            case atStart => exact ⟨0, by omega, rfl, by rw [decide_eq_false (fun ⟨i, h, _⟩ => absurd h (by omega))], Below.refl _ _⟩
            case round =>
              obtain ⟨m, hm, rfl, rfl, hbm⟩ := hrel
              have m0 : (0 : Int) ≤ (m : Int) := by omega
              by_cases hlt2 : m < ps.length
              · have l2 : (m : Int) < (ps.length : Int) := by omega
                obtain ⟨y, rfl, d0, d1⟩ := (hs11.below hbm) m hlt2
                have q0 := (hbm.cell (cell_block_lt k0)).trans k0
                have q1 := (hbm.cell (cell_block_lt k1)).trans k1
                have hstep : decide (kHas (sk ps) (m + 1) (A, C)) = (decide (kHas (sk ps) m (A, C)) || ((sk ps m).1 == A && (sk ps m).2 == C)) := kHas_step _ _ _ _
                have HS := Lib.hid hstep
                clear hstep hs11 hk9
                generalize (sk ps m).1 = A1 at *
                generalize (sk ps m).2 = C1 at *
                generalize decide (kHas (sk ps) m (A, C)) = B at *
                go_upto_region 19 with fail
                have bB : Below wr.heap.size wr (wr.alloc (.cells #[.int .i64 A1, .int .i64 C1] 23)) := (Below.refl _ _).alloc (Nat.le_refl _) _
                have r0 := (bB.cell (cell_block_lt q0)).trans q0
                have r1 := (bB.cell (cell_block_lt q1)).trans q1
                have x0 : (wr.alloc (.cells #[.int .i64 A1, .int .i64 C1] 23)).cell? ⟨wr.heap.size, 0, none⟩ = some (.int .i64 A1) := cell_of_row _ _ 0 _ _ _ (heap_alloc_new _ _)
                have x1 : (wr.alloc (.cells #[.int .i64 A1, .int .i64 C1] 23)).cell? ⟨wr.heap.size, 1, none⟩ = some (.int .i64 C1) := cell_of_row _ _ 1 _ _ _ (heap_alloc_new _ _)
                have hbm2 := hbm.trans (bB.mono hbm.size)
                clear d0 d1 q0 q1 bB hbm
                generalize wr.alloc (.cells #[.int .i64 A1, .int .i64 C1] 23) = W12 at *
                generalize wr.heap.size = K2 at *
                cases B with
                | true =>
                  go_wp2_with fail
                  exact ⟨⟨m + 1, by omega, by go_num, by rw [HS.out]; rfl, hbm2⟩, by simp [intOf]; omega⟩
                | false =>
                  rcases (show (A1 = A ∧ C1 = C) ∨ A1 ≠ A ∨ (A1 = A ∧ C1 ≠ C) by omega) with ⟨rfl, rfl⟩ | h1 | ⟨rfl, h1⟩
                  · go_wp2_with fail
                    exact ⟨⟨m + 1, by omega, by go_num, by rw [HS.out]; simp, hbm2⟩, by simp [intOf]; omega⟩
                  · have h2 : (A1 == A) = false := beq_eq_false_iff_ne.2 h1
                    go_wp2_with fail
                    exact ⟨⟨m + 1, by omega, by go_num, by rw [HS.out]; simp [h2], hbm2⟩, by simp [intOf]; omega⟩
                  · have h2 : (C1 == C) = false := beq_eq_false_iff_ne.2 h1
                    go_wp2_with fail
                    exact ⟨⟨m + 1, by omega, by go_num, by rw [HS.out]; simp [h2], hbm2⟩, by simp [intOf]; omega⟩
              · obtain rfl : m = ps.length := by omega
                have hb12 := hb11.trans (hbm.mono hb11.size)
                have q0 := (hbm.cell (cell_block_lt k0)).trans k0
                have q1 := (hbm.cell (cell_block_lt k1)).trans k1
                have hyd : decide (kHas (sk ps) ps.length (A, C)) = decide (0 ≤ placeI A C) := decide_eq_decide.2 HY.out
                clear hs11 hk9 k0 k1 hbm hb11 hlt2
                rw [hyd]
                have hpp : ∀ W, Calls Try.prog 14 #[.agg #[.int .i64 A, .int .i64 C]] W _ := fun W => place_any A C W
                have HP := Lib.hid hpp
                clear hyd hpp HY
                generalize placeI A C = P at *
                go_wp2_with fail
                refine (HP.out _).mono ?_; rintro e W13 ⟨rfl, t13⟩
                have hb13 := hb12.trans (t13.mono hb12.size)
                clear q0 q1 t13 hb12
                by_cases hp : 0 ≤ P
                · go_wp2_with fail
                  exact ⟨⟨j + 1, by omega, by go_num, hb13⟩, by simp [intOf]; omega⟩
                · have hpd : decide (0 ≤ P) = false := decide_eq_false hp
                  go_wp2_with fail
                  exact ⟨⟨j + 1, by omega, by go_num, hb13⟩, by simp [intOf]; omega⟩
            --)b
          · obtain rfl : j = n := by omega
            have hk10 := hk9.below hbj
            have hs10 := hs9.below hbj
            have hb10 := hb9.trans (hbj.mono hb9.size)
            clear hk9 hs9 hz9 hb9 hbj hlt j0 hj
            have hown : KL wr.heap.size (wr.alloc (.cells #[] 23)) (.slice (some ⟨wr.heap.size, 0, none⟩) 0 0) 0 (zp z0) := World.ownsRow_made (base := wr.heap.size) (e := 23) (size := 2) wr #[] 0 (Nat.le_refl _) (by unfold maxLen; omega) rfl
            have bA : Below wr.heap.size wr (wr.alloc (.cells #[] 23)) := (Below.refl _ _).alloc (Nat.le_refl _) _
            have hk11 := hk10.below bA
            have hs11 := hs10.below bA
            have hb11 := hb10.trans (bA.mono hb10.size)
            obtain ⟨v', W', hrun, g1, g2, _, g5⟩ := kl_append hown (by simp) (some x) c hk11 (fun q => by cases q) (by omega) 29
            go_upto_region 25 with (first | (at_builtin; refine wpList_run_append rfl _ _ _ rfl rfl rfl hrun ?_) | fail)
            have hb12 := hb11.trans (g2.mono hb10.size)
            have hc12 := bA.trans g2
            obtain ⟨v0, hrow⟩ := id g1
            rcases hrow with ⟨q, _⟩ | ⟨gb, cb, cur, rfl, hgb, hheap, hcb, _⟩
            · have := g5 q; cases this
            have hbk := (KL.bk g1).congr (f' := swapF (zp z0) j 0) fun i hi => by
              unfold catF; rw [if_neg (by omega), swapF_zero]; rfl
            have hsz := hc12.size
            clear hrun g1 g2 g5 v0 hheap hown hk11 hs11 hb11 bA hk10
            rw [Nat.zero_add] at hbk hcb ⊢
            generalize W' = W1 at *
            go_wp2_with fail
            go_loopw [16, 17] (fun i e wq => ∃ t : Nat, 2 * t ≤ j + 1 ∧ i = .int .i64 (t : Int) ∧ e = .int .i64 ((j : Int) - 1 - t) ∧ BK gb j (swapF (zp z0) j t) wq ∧ Below wr.heap.size wr wq) (fun i _ _ => j - (intOf i).toNat)
            case atStart => exact ⟨0, by omega, rfl, by congr 1; omega, hbk, hc12⟩
            case round =>
              rename_i wq
              obtain ⟨t, ht, rfl, rfl, hbt, hbb⟩ := hrel
              have t0 : (0 : Int) ≤ (t : Int) := by omega
              by_cases hlt : (t : Int) < (j : Int) - 1 - t
              · obtain ⟨k, hk⟩ : ∃ k : Nat, t + 1 + k = j := ⟨j - 1 - t, by omega⟩
                have ek : (j : Int) - 1 - t = (k : Int) := by omega
                rw [ek]
                rw [ek] at hlt
                have k1 : (k : Int) < (j : Int) := by omega
                have t1 : (t : Int) < (j : Int) := by omega
                have k0 : (0 : Int) ≤ (k : Int) := by omega
                obtain ⟨c0, c1⟩ := hbt.1 t (by omega)
                obtain ⟨d0, d1⟩ := hbt.1 k (by omega)
                have hf := hbt.2
                obtain ⟨A, C, eA⟩ : ∃ A C, swapF (zp z0) j t t = (A, C) := ⟨_, _, rfl⟩
                obtain ⟨A', C', eA'⟩ : ∃ A' C', swapF (zp z0) j t k = (A', C') := ⟨_, _, rfl⟩
                rw [eA] at c0 c1
                rw [eA'] at d0 d1
                have hsw := hbt.swap hk (by omega) eA eA'
                have hbe := (((hbb.setCell (p := ⟨gb, t * 2, none⟩) hgb (.int .i64 A')).setCell (p := ⟨gb, t * 2 + 1, none⟩) hgb (.int .i64 C')).setCell (p := ⟨gb, k * 2, none⟩) hgb (.int .i64 A)).setCell (p := ⟨gb, k * 2 + 1, none⟩) hgb (.int .i64 C)
                have HSW := Lib.hid hsw
                have HBE := Lib.hid hbe
                have f0 := hf (t * 2)
                have f1 := hf (t * 2 + 1)
                have f2 := hf (k * 2)
                have f3 := hf (k * 2 + 1)
                clear hsw hbe hf eA eA' hbt hbb ek
                go_upto_region 28 with fail
                go_region
                have hsw := HSW.out.drew
                have hbe := below_drewN HBE.out 1
                clear HSW HBE c0 c1 d0 d1 f0 f1 f2 f3
                go_wp2_with fail
                exact ⟨⟨t + 1, by omega, by go_num, by congr 1; omega, hsw, hbe⟩, by simp [intOf]; omega⟩
              · have hbk2 : KR wr (some ⟨gb, 0, none⟩) j (revF (zp z0) j) := (hbt.congr fun i hi => (swapF_end _ _ _ _ hi (by omega)).symm).kr
                have hld : decide ((t : Int) < (j : Int) - 1 - t) = false := decide_eq_false hlt
                have hs13 := hs10.below hbb
                have hb13 := hb10.trans (hbb.mono hb10.size)
                clear hbt hbk hs10 hb10 hbb hb12 hc12
                by_cases hp0 : ps.length = 0
                · have hp1 : ((ps.length : Nat) : Int) = 0 := by omega
                  have hp2 : decide ((0 : Int) < (ps.length : Int)) = false := by rw [hp1]; rfl
                  have hp3 : decide (0 < ps.length) = false := decide_eq_false (by omega)
                  clear hp1 hp0
                  go_wp2_with fail
                  refine (ksort_kr (some ⟨gb, 0, none⟩) j cb (revF (zp z0) j) wr (by omega) hbk2).mono ?_; rintro e WA ⟨va, rfl, ka, ta⟩
                  rw [kS_back, HPS.out] at ka
                  obtain ⟨sa, ca, rfl, hsa, _, hca⟩ := ka.kr
                  have hsA := hs13.below ta
                  have hbA := hb13.trans (ta.mono hb13.size)
                  clear ka ta hbk2 hs13 hb13
                  go_wp2_with fail
                  refine (same_yes sa s ps.length ca cs WA (by omega) (same_kr hsa hsA)).mono ?_; rintro e WB ⟨rfl, tb⟩
                  have hbB := hbA.trans (tb.mono hbA.size)
                  clear hsa hsA hbA tb
                  go_wp2_with fail
                  refine (kwithin_any none none 0 0 0 0 (zp z0) (zp z0) WB (by omega) (by omega) (fun i hi => absurd hi (by omega)) (fun i hi => absurd hi (by omega))).mono ?_; rintro e WC ⟨r, rfl, hr, tc⟩
                  obtain rfl : r = true := hr.2 fun i hi => absurd hi (by omega)
                  have hbC := hbB.trans (tc.mono hbB.size)
                  clear hbB tc hr
                  go_wp2_with fail
                  refine (kruns_any WC).mono ?_; rintro e WD ⟨rfl, td⟩
                  have hbD := hbC.trans (td.mono hbC.size)
                  clear hbC td
                  go_wp2_with fail
                  go_ret
                  exact ⟨rfl, hbD⟩
                · obtain ⟨y, hy⟩ : ∃ y, s = some y := by
                    obtain ⟨y, e, _⟩ := hs13 0 (by omega)
                    exact ⟨y, e⟩
                  subst hy
                  have hpp : (0 : Int) < (ps.length : Int) := by omega
                  have hpn : 0 < ps.length := by omega
                  have hwi := fun W => Fp.within_any a1 0 ((ps.length : Int) - 1) (by omega) (by omega) (by omega) W
                  have hW2 := Fp.within_bounds a1 0 ((ps.length : Int) - 1) (by omega)
                  obtain ⟨i, hi⟩ : ∃ i : Nat, Fp.withinI a1 0 ((ps.length : Int) - 1) = (i : Int) := ⟨(Fp.withinI a1 0 ((ps.length : Int) - 1)).toNat, by omega⟩
                  rw [hi] at hwi hW2
                  have HWI := Lib.hid hwi
                  clear hwi hi hp0
                  go_wp2_with fail
                  refine (HWI.out _).mono ?_; rintro e W0 ⟨rfl, rfl⟩
                  clear HWI
                  go_upto_region 31 with fail
                  have i0 : (0 : Int) ≤ (i : Int) := by omega
                  have i1 : (i : Int) + 1 ≤ (ps.length : Int) := by omega
                  have i2 : (i : Int) ≤ (ps.length : Int) := by omega
                  have i3 : (i : Int) ≤ (cs : Int) := by omega
                  have i4 : (i : Int) + 1 ≤ (cs : Int) := by omega
                  have i5 : (ps.length : Int) ≤ (cs : Int) := by omega
                  have i6 : (0 : Int) ≤ (i : Int) + 1 := by omega
                  obtain ⟨yt, hyt⟩ : ∃ yt, (if cs = i + 1 then some y else some (y.add ((i + 1) * 2))) = yt := ⟨_, rfl⟩
                  have htl : ∀ W, KR W (some y) ps.length (sk ps) → KR W yt (ps.length - (i + 1)) (fun t => sk ps (i + 1 + t)) := fun W h t ht => by
                    have hne : cs ≠ i + 1 := by omega
                    rw [if_neg hne] at hyt
                    obtain ⟨y', e, c0, c1⟩ := h (i + 1 + t) (by omega)
                    obtain rfl : y = y' := by simpa using e
                    refine ⟨_, hyt.symm, ?_, ?_⟩
                    · rw [← add_add]; exact c0
                    · rw [← add_add]; exact c1
                  have hyn : yt ≠ none := by
                    rw [← hyt]; split <;> exact fun q => by cases q
                  have HTL := Lib.hid htl
                  clear htl
                  have hwr : IntKind.i64.wrap ((i : Int) + 1) = (i : Int) + 1 := IntWalk.i64_in _ (by omega)
                  have htn : ((i : Int) + 1).toNat = i + 1 := by omega
                  refine wp_region_held_drew (S := fun W => Below wr.heap.size wr W) (by kernel_rfl) (below_drewN (Below.refl _ _) 1) (fun hHeld => ?_)
                  refine reg_take (i := 1) (v := ?_) rfl rfl (by kernel_rfl) (by kernel_rfl) (by kernel_rfl) (fun _ _ _ h => h) (by assumption) (by rfl) ?_ ?_
                  rotate_left 1
                  · (intro w hSw; (try dsimp only at hSw); go_simp; try with_reducible rfl)
                  try simp only [List.setIfInBounds_toArray, List.set_cons_zero, List.set_cons_succ]
                  refine reg_take (i := 2) (v := ?_) rfl rfl (by kernel_rfl) (by kernel_rfl) (by kernel_rfl) (fun _ _ _ h => h) (by assumption) (by rfl) ?_ ?_
                  rotate_left 1
                  · (intro w hSw; (try dsimp only at hSw); go_simp; try with_reducible rfl)
                  try simp only [List.setIfInBounds_toArray, List.set_cons_zero, List.set_cons_succ]
                  refine reg_take (i := 3) (v := ?_) rfl rfl (by kernel_rfl) (by kernel_rfl) (by kernel_rfl) (fun _ _ _ h => h) (by assumption) (by rfl) ?_ ?_
                  rotate_left 1
                  · (intro w hSw; (try dsimp only at hSw); go_simp; try with_reducible rfl)
                  try simp only [List.setIfInBounds_toArray, List.set_cons_zero, List.set_cons_succ]
                  refine reg_take (i := 5) (v := ?_) rfl rfl (by kernel_rfl) (by kernel_rfl) (by kernel_rfl) (fun _ _ _ h => h) (by assumption) (by rfl) ?_ ?_
                  rotate_left 1
                  · (intro w hSw; (try dsimp only at hSw); go_simp; try with_reducible rfl)
                  try simp only [List.setIfInBounds_toArray, List.set_cons_zero, List.set_cons_succ]
                  refine reg_take (i := 6) (v := ?_) rfl rfl (by kernel_rfl) (by kernel_rfl) (by kernel_rfl) (fun _ _ _ h => h) (by assumption) (by rfl) ?_ ?_
                  rotate_left 1
                  · (intro w hSw; (try dsimp only at hSw); go_simp; try with_reducible rfl)
                  try simp only [List.setIfInBounds_toArray, List.set_cons_zero, List.set_cons_succ]
                  refine reg_take (i := 7) (v := ?_) rfl rfl (by kernel_rfl) (by kernel_rfl) (by kernel_rfl) (fun _ _ _ h => h) (by assumption) (by rfl) ?_ ?_
                  rotate_left 1
                  · (intro w hSw; (try dsimp only at hSw); go_simp; try with_reducible rfl)
                  try simp only [List.setIfInBounds_toArray, List.set_cons_zero, List.set_cons_succ]
                  refine reg_take (i := 8) (v := ?_) rfl rfl (by kernel_rfl) (by kernel_rfl) (by kernel_rfl) (fun _ _ _ h => h) (by assumption) (by rfl) ?_ ?_
                  rotate_left 1
                  · (intro w hSw; (try dsimp only at hSw); go_simp; try with_reducible rfl)
                  try simp only [List.setIfInBounds_toArray, List.set_cons_zero, List.set_cons_succ]
                  clear hwr htn hyt i0 i1 i2 i3 i4 i5 i6
                  refine reg_step (i := 0) (by kernel_rfl) rfl (by rfl) (fun KC hKC => ?_)
                  go_simp
                  have hbn : Below wr.heap.size wr (wr.drew.alloc (Obj.cells #[] 23)) := ((Below.refl _ wr).trans (below_drewN (Below.refl _ _) 1)).alloc (Nat.le_refl _) _
                  have hown : KL wr.heap.size (wr.drew.alloc (.cells #[] 23)) (.slice (some ⟨wr.heap.size, 0, none⟩) 0 0) 0 (sk ps) := World.ownsRow_made (base := wr.heap.size) (e := 23) (size := 2) wr.drew #[] 0 (Nat.le_refl _) (by unfold maxLen; omega) rfl
                  obtain ⟨v1, W1, hrun1, g11, g12, _, g15⟩ := kl_append (m := i) (y := sk ps) hown (by simp) (some y) cs (fun t ht => (hs13.below hbn) t (by omega)) (fun q => by cases q) (by omega) 29
                  refine hKC.out _ _ ?_ (fun hHeld => ?_)
                  · exact hbn
                  clear hKC KC
                  refine reg_step (i := 4) (by kernel_rfl) rfl (by rfl) (fun KC hKC => ?_)
                  refine wp_run_append _ _ _ rfl rfl rfl hrun1 ?_
                  go_simp
                  have hb21 := hbn.trans g12
                  have hs21 := hs13.below hb21
                  obtain ⟨v2, W2', hrun2, g21, g22, _, g25⟩ := kl_append (m := ps.length - (i + 1)) (y := fun t => sk ps (i + 1 + t)) g11 hb21.size yt (cs - (i + 1)) (HTL.out _ hs21) (fun q => absurd q hyn) (by omega) 29
                  have hb22 := hb21.trans g22
                  have hs22 := hs13.below hb22
                  have hl22 : KL wr.heap.size W2' v2 (ps.length - 1) (lessF (sk ps) i) := by
                    rw [show ps.length - 1 = 0 + i + (ps.length - (i + 1)) by omega]
                    refine g21.congr fun q hq => ?_
                    unfold catF lessF
                    by_cases q1 : q < i
                    · rw [if_pos q1, if_pos (by omega), if_neg (by omega)]; rfl
                    · rw [if_neg q1, if_neg (by omega)]
                      congr 1; omega
                  obtain ⟨sl, cl, rfl, hsl, _, hcl⟩ := hl22.kr
                  have hnot := less_not ps HR.out HK.out i (by omega)
                  have hin := less_in (sk ps) ps.length i (by omega)
                  have HNOT := Lib.hid hnot
                  have HIN := Lib.hid hin
                  clear hnot hin hl22 g21 g22 g25 g15 g11 g12 hown hbn hs21
                  refine hKC.out _ _ ?_ (fun hHeld => ?_)
                  · exact hb21
                  clear hKC KC
                  refine reg_step (i := 9) (by kernel_rfl) rfl (by rfl) (fun KC hKC => ?_)
                  refine wp_run_append _ _ _ rfl rfl rfl hrun2 ?_
                  go_simp
                  refine hKC.out _ _ ?_ (fun hHeld => ?_)
                  · exact hb22
                  clear hKC KC hrun1 hrun2
                  refine reg_take (i := 10) (v := ?_) rfl rfl (by kernel_rfl) (by kernel_rfl) (by kernel_rfl) (fun _ _ _ h => h) (by assumption) (by rfl) ?_ ?_
                  rotate_left 1
                  · (intro w hSw; (try dsimp only at hSw); go_simp; try with_reducible rfl)
                  try simp only [List.setIfInBounds_toArray, List.set_cons_zero, List.set_cons_succ]
                  refine wpAnyH_done (by kernel_rfl) ?_ _
                  have hb23 := hb13.trans (hb22.mono hb13.size)
                  have hbk3 := hbk2.below hb22
                  clear hs13 hb13 hb22 hb21 hHeld hbk2
                  go_wp2_with fail
                  refine (kwithin_any (some y) sl ps.length (ps.length - 1) cl cs (sk ps) (lessF (sk ps) i) W2' (by omega) (by omega) hs22 hsl).mono ?_; rintro e W4 ⟨r, rfl, hr, t4⟩
                  obtain rfl : r = false := by
                    cases r with
                    | false => rfl
                    | true => exact absurd (hr.1 rfl) HNOT.out
                  have hs24 := hs22.below t4
                  have hsl4 := hsl.below t4
                  have hb24 := hb23.trans (t4.mono hb23.size)
                  have hbk4 := hbk3.below t4
                  clear hs22 hsl hb23 hbk3 t4 hr
                  go_wp2_with fail
                  refine (kwithin_any sl (some y) (ps.length - 1) ps.length cs cl (lessF (sk ps) i) (sk ps) W4 (by omega) (by omega) hsl4 hs24).mono ?_; rintro e W5 ⟨r, rfl, hr, t5⟩
                  obtain rfl : r = true := hr.2 HIN.out
                  have hs25 := hs24.below t5
                  have hb25 := hb24.trans (t5.mono hb24.size)
                  have hbk5 := hbk4.below t5
                  clear hs24 hsl4 hb24 hbk4 t5 hr HIN HNOT HTL
                  go_wp2_with fail
                  refine (ksort_kr (some ⟨gb, 0, none⟩) j cb (revF (zp z0) j) W5 (by omega) hbk5).mono ?_; rintro e WA ⟨va, rfl, ka, ta⟩
                  rw [kS_back, HPS.out] at ka
                  obtain ⟨sa, ca, rfl, hsa, _, hca⟩ := ka.kr
                  have hsA := hs25.below ta
                  have hbA := hb25.trans (ta.mono hb25.size)
                  clear ka ta hbk5 hs25 hb25
                  go_wp2_with fail
                  refine (same_yes sa (some y) ps.length ca cs WA (by omega) (same_kr hsa hsA)).mono ?_; rintro e WB ⟨rfl, tb⟩
                  have hbB := hbA.trans (tb.mono hbA.size)
                  clear hsa hsA hbA tb
                  go_wp2_with fail
                  refine (kwithin_any none none 0 0 0 0 (zp z0) (zp z0) WB (by omega) (by omega) (fun i hi => absurd hi (by omega)) (fun i hi => absurd hi (by omega))).mono ?_; rintro e WC ⟨r, rfl, hr, tc⟩
                  obtain rfl : r = true := hr.2 fun i hi => absurd hi (by omega)
                  have hbC := hbB.trans (tc.mono hbB.size)
                  clear hbB tc hr
                  go_wp2_with fail
                  refine (kruns_any WC).mono ?_; rintro e WD ⟨rfl, td⟩
                  have hbD := hbC.trans (td.mono hbC.size)
                  clear hbC td
                  go_wp2_with fail
                  go_ret
                  exact ⟨rfl, hbD⟩
end Go.Proofs.Ytncgppdmfnapiaa.St
