/- Each page is one's: what Grow, Shrink and Back keep; plain. No condition but those written in each statement. -/
import Derived.Test.YtdlcbclfniahoaaDoorSpM
namespace Go.Proofs.YtdlcbclfniahoaaDoor.St
open Go.RowKit
set_option linter.unusedVariables false

def b01 (b : Bool) : Nat := if b = true then 1 else 0
def ownC (a : SpS) (wl : List Int) (g : Nat) : Nat := b01 (usedI a.f g) + (pgA a 0).count (g : Int) + (pgA a 1).count (g : Int) + wl.count (g : Int)
structure OI (free : Int) (a : SpS) (wl : List Int) : Prop where
  own : ∀ g : Nat, g < 64 → ownC a wl g = b01 (usedI free g)
  wy : ∀ g : Nat, g < 64 → (g : Int) ∈ wl → usedI a.wy g = true
  rng : ∀ g ∈ wl, 0 ≤ g ∧ g < 64
  x : ∀ p, p < 2 → (a.X p).size ≤ 6
  m : ∀ p, p < 2 → a.M p = noughts (16 * (a.X p).size)
theorem OI.start (free : Int) : OI free (pS free) [] :=
  ⟨fun g hg => by unfold ownC; show b01 (usedI free g) + List.count _ [] + List.count _ [] + List.count _ [] = _; simp, fun g _ h => (List.not_mem_nil h).elim, fun g h => (List.not_mem_nil h).elim, fun p _ => Nat.zero_le _, fun p _ => rfl⟩
theorem b01_le (b : Bool) : b01 b ≤ 1 := by unfold b01; split <;> omega
theorem OI.nodup {free : Int} {a : SpS} {wl : List Int} (H : OI free a wl) : wl.Nodup := by
  rw [List.nodup_iff_count]
  intro g
  by_cases h : g ∈ wl
  · obtain ⟨h0, h1⟩ := H.rng g h
    obtain ⟨u, rfl⟩ := Int.eq_ofNat_of_zero_le h0
    have := H.own u (by omega)
    have h2 := b01_le (usedI free u)
    unfold ownC at this
    omega
  · rw [List.count_eq_zero_of_not_mem h]; omega
theorem OI.clear {free : Int} {a : SpS} {wl : List Int} (H : OI free a wl) (g : Nat) (hg : g < 64) (h : (g : Int) ∈ wl) : usedI a.f g = false := by
  have := H.own g hg
  have h2 := b01_le (usedI free g)
  have h3 := List.count_pos_iff.2 h
  unfold ownC at this
  cases hu : usedI a.f g with
  | false => rfl
  | true =>
    rw [hu] at this
    have : b01 true = 1 := rfl
    omega

/-! ### Back -/
theorem back_all : ∀ (l : List Int) (y : Int × Int), l.Nodup → (∀ g ∈ l, 0 ≤ g ∧ g < 64) → (∀ g : Nat, g < 64 → (g : Int) ∈ l → usedI y.2 g = true ∧ usedI y.1 g = false) →
    (∀ g : Nat, g < 64 → usedI (l.foldl bk2 y).1 g = (usedI y.1 g || decide ((g : Int) ∈ l))) ∧ ones64 (IntKind.u64.wrap (l.foldl bk2 y).1) = ones64 (IntKind.u64.wrap y.1) + l.length
  | [], y, _, _, _ => ⟨fun g hg => by simp, by simp⟩
  | g :: l, y, hn, hr, hu => by
    obtain ⟨h0, h1⟩ := hr g (List.mem_cons_self ..)
    obtain ⟨u, rfl⟩ := Int.eq_ofNat_of_zero_le h0
    obtain ⟨u1, u2⟩ := hu u (by omega) (List.mem_cons_self ..)
    have hnl := (List.nodup_cons.1 hn).1
    have e : bk2 y (u : Int) = (markI y.1 u, unmarkN y.2 u) := by
      unfold bk2
      rw [if_neg (by omega), Int.toNat_natCast, u1, if_neg (by decide)]
    have ih := back_all l (markI y.1 u, unmarkN y.2 u) (List.nodup_cons.1 hn).2 (fun x hx => hr x (List.mem_cons_of_mem _ hx)) (fun x hx hm => by
      have hne : u ≠ x := fun q => hnl (by rw [q]; exact hm)
      obtain ⟨a1, a2⟩ := hu x hx (List.mem_cons_of_mem _ hm)
      show usedI (unmarkN y.2 u) x = true ∧ usedI (markI y.1 u) x = false
      rw [used_unmark _ _ _ hx, used_mark _ _ _ hx, a1, a2]
      simp [hne])
    show (∀ g : Nat, g < 64 → usedI (l.foldl bk2 (bk2 y (u : Int))).1 g = _) ∧ ones64 (IntKind.u64.wrap (l.foldl bk2 (bk2 y (u : Int))).1) = _
    rw [e]
    refine ⟨fun x hx => ?_, ?_⟩
    · rw [ih.1 x hx]
      show (usedI (markI y.1 u) x || decide ((x : Int) ∈ l)) = (usedI y.1 x || decide ((x : Int) ∈ (u : Int) :: l))
      rw [used_mark _ _ _ hx, Bool.or_assoc]
      congr 1
      rw [Bool.eq_iff_iff]
      simp only [Bool.or_eq_true, decide_eq_true_eq, List.mem_cons]
      rw [show u = x ↔ (x : Int) = (u : Int) by omega]
    · rw [ih.2]
      show ones64 (IntKind.u64.wrap (markI y.1 u)) + _ = _
      rw [ones_mark _ _ (by omega) u2]
      simp only [List.length_cons]
      omega
theorem OI.back {free : Int} {a : SpS} {wl : List Int} (H : OI free a wl) : OI free (bkA a wl) [] ∧ ones64 (IntKind.u64.wrap (bkA a wl).f) = ones64 (IntKind.u64.wrap a.f) + wl.length := by
  obtain ⟨h1, h2⟩ := back_all wl (a.f, a.wy) H.nodup H.rng (fun g hg hm => ⟨H.wy g hg hm, H.clear g hg hm⟩)
  refine ⟨⟨fun g hg => ?_, fun g _ h => (List.not_mem_nil h).elim, fun g h => (List.not_mem_nil h).elim, H.x, H.m⟩, h2⟩
  have ho := H.own g hg
  have h3 := h1 g hg
  rw [← ho]
  unfold ownC
  show b01 (usedI (wl.foldl bk2 (a.f, a.wy)).1 g) + (pgA a 0).count (g : Int) + (pgA a 1).count (g : Int) + List.count _ [] = _
  rw [h3]
  by_cases hm : (g : Int) ∈ wl
  · have c1 : wl.count (g : Int) = 1 := by
      have a1 := List.count_pos_iff.2 hm
      have a2 := (List.nodup_iff_count.1 H.nodup) (g : Int)
      omega
    rw [c1, H.clear g hg hm, decide_eq_true hm]
    show 1 + _ + _ + 0 = 0 + _ + _ + 1
    omega
  · rw [List.count_eq_zero_of_not_mem hm, decide_eq_false hm, Bool.or_false]
    rfl

/-! ### Grow -/
def gL (f : Int) : Nat → List Int
  | 0 => []
  | j + 1 => gL f j ++ [tz64 (IntKind.u64.wrap (gN f j))]
theorem gL_len (f : Int) : ∀ j, (gL f j).length = j
  | 0 => rfl
  | j + 1 => by unfold gL; rw [List.length_append, gL_len f j]; rfl
theorem pgL_append (a b : List UInt8) : pgL (a ++ b) = pgL a ++ pgL b := by unfold pgL; rw [List.map_append]
theorem pgL_gS (f : Int) (s : ByteArray) : ∀ j, pgL (gS f s j).data.toList = pgL s.data.toList ++ gL f j
  | 0 => by simp [gS, gL]
  | j + 1 => by
    have ih := pgL_gS f s j
    obtain ⟨u, e, _, hu⟩ := tz_nat (IntKind.u64.wrap (gN f j))
    unfold gS gL gC
    rw [show ((gS f s j ++ ⟨#[UInt8.ofNat (tz64 (IntKind.u64.wrap (gN f j))).toNat]⟩ : ByteArray)).data.toList = (gS f s j).data.toList ++ [UInt8.ofNat (tz64 (IntKind.u64.wrap (gN f j))).toNat] by simp, pgL_append, ih, List.append_assoc]
    congr 2
    rw [e, Int.toNat_natCast]
    unfold pgL
    simp
    omega
theorem gL_own (f : Int) (n : Nat) (h : (n : Int) ≤ ones64 (IntKind.u64.wrap f)) (g : Nat) (hg : g < 64) : ∀ j, j ≤ n → b01 (usedI (gN f j) g) + (gL f j).count (g : Int) = b01 (usedI f g)
  | 0, _ => by simp [gN, gL]
  | j + 1, hj => by
    have ih := gL_own f n h g hg j (by omega)
    obtain ⟨u, hu, e, hb, _⟩ := tz_used (gN f j) (gN_some f n h j (by omega))
    unfold gL
    show b01 (usedI (unmarkN (gN f j) (tz64 (IntKind.u64.wrap (gN f j))).toNat) g) + _ = _
    rw [e, Int.toNat_natCast, List.count_append, used_unmark _ _ _ hg]
    by_cases q : u = g
    · subst q
      rw [hb] at ih
      rw [hb]
      simp [b01] at ih ⊢
      omega
    · have : List.count (g : Int) [(u : Int)] = 0 := by rw [List.count_eq_zero]; simp; omega
      rw [this, decide_eq_false q]
      simpa using ih
theorem noughts_add (a b : Nat) : noughts a ++ noughts b = noughts (a + b) := by
  unfold noughts
  apply ByteArray.ext
  rw [ByteArray.data_append]
  show (Lib.repeatL [0] a).toArray ++ (Lib.repeatL [0] b).toArray = (Lib.repeatL [0] (a + b)).toArray
  rw [Lib.repeatL_add]
  simp
theorem noughts_head (a b : Nat) (h : a ≤ b) : (noughts b).extract 0 a = noughts a := by
  obtain ⟨c, rfl⟩ : ∃ c, b = a + c := ⟨b - a, by omega⟩
  rw [← noughts_add]
  have hs := noughts_size a
  generalize noughts a = x at *
  generalize noughts c = y at *
  subst hs
  apply ByteArray.ext
  simp
theorem pgA_upd (f wy : Int) (X M : Nat → ByteArray) (p : Nat) (hp : p < 2) (s : ByteArray) (q : Nat) (hq : q < 2) : pgA ⟨f, wy, updF X p s, M⟩ (q : Int) = if q = p then pgL s.data.toList else pgL (X q).data.toList := by
  unfold pgA
  rw [if_pos (by omega), Int.toNat_natCast]
  show pgL (updF X p s q).data.toList = _
  unfold updF
  split <;> rfl
theorem pgA_at (a : SpS) (q : Nat) (hq : q < 2) : pgA a (q : Int) = pgL (a.X q).data.toList := by
  unfold pgA
  rw [if_pos (by omega), Int.toNat_natCast]
theorem gOk_in {a : SpS} {p n : Int} (h : gOk a p n = true) : 0 ≤ p ∧ p < 2 ∧ 0 ≤ n ∧ n ≤ 6 - ((a.X p.toNat).size : Int) ∧ n ≤ ones64 (IntKind.u64.wrap a.f) := of_decide_eq_true h
theorem hOk_in {a : SpS} {p n : Int} (h : hOk a p n = true) : 0 ≤ p ∧ p < 2 ∧ 0 ≤ n ∧ n ≤ ((a.X p.toNat).size : Int) := of_decide_eq_true h
/-- Two processes' pages, one of which has more. -/
theorem count_two (a b : Nat → Nat) (p : Nat) (hp : p < 2) (k : Nat) (h1 : b p = a p + k) (h2 : ∀ q, q < 2 → q ≠ p → b q = a q) : b 0 + b 1 = a 0 + a 1 + k := by
  rcases (by omega : p = 0 ∨ p = 1) with rfl | rfl
  · rw [h1, h2 1 (by omega) (by omega)]; omega
  · rw [h1, h2 0 (by omega) (by omega)]; omega
theorem OI.grow {free : Int} {a : SpS} {wl : List Int} (H : OI free a wl) (p n : Int) : OI free (gA a p n) wl := by
  unfold gA
  by_cases hg : gOk a p n = true
  · rw [if_pos hg]
    obtain ⟨p0, p1, n0, n1, n2⟩ := gOk_in hg
    obtain ⟨P, rfl⟩ := Int.eq_ofNat_of_zero_le p0
    obtain ⟨N, rfl⟩ := Int.eq_ofNat_of_zero_le n0
    simp only [Int.toNat_natCast] at *
    have hP : P < 2 := by omega
    refine ⟨fun g hg => ?_, H.wy, H.rng, fun q hq => ?_, fun q hq => ?_⟩
    · rw [← H.own g hg]
      unfold ownC
      have e1 := gL_own a.f N n2 g hg N (Nat.le_refl _)
      have e2 := count_two (fun q => (pgA a q).count (g : Int)) (fun q => (pgA ⟨gN a.f N, a.wy, updF a.X P (gS a.f (a.X P) N), updF a.M P (a.M P ++ noughts ((N : Int) * 16).toNat)⟩ q).count (g : Int)) P hP ((gL a.f N).count (g : Int)) (by
          show (pgA _ (P : Int)).count _ = (pgA _ (P : Int)).count _ + _
          rw [pgA_upd _ _ _ _ _ hP _ _ hP, if_pos rfl, pgL_gS, List.count_append, pgA_at _ _ hP]) (fun q hq hne => by
          show (pgA _ (q : Int)).count _ = (pgA _ (q : Int)).count _
          rw [pgA_upd _ _ _ _ _ hP _ _ hq, if_neg hne, pgA_at _ _ hq])
      show b01 (usedI (gN a.f N) g) + (pgA _ ((0 : Nat) : Int)).count _ + (pgA _ ((1 : Nat) : Int)).count _ + _ = b01 (usedI a.f g) + (pgA _ ((0 : Nat) : Int)).count _ + (pgA _ ((1 : Nat) : Int)).count _ + _
      omega
    · show (updF a.X P _ q).size ≤ 6
      by_cases e : q = P
      · subst e; rw [updF_same, gS_size]; omega
      · rw [updF_other _ _ _ _ e]; exact H.x q hq
    · show updF a.M P _ q = noughts (16 * (updF a.X P _ q).size)
      by_cases e : q = P
      · subst e
        rw [updF_same, updF_same, gS_size, H.m q hq, noughts_add]
        congr 1
        omega
      · rw [updF_other _ _ _ _ e, updF_other _ _ _ _ e]; exact H.m q hq
  · rw [if_neg hg]; exact H

/-! ### Shrink -/
theorem head_tail (s : ByteArray) (n : Int) (h0 : 0 ≤ n) (h1 : n ≤ s.size) : pgL s.data.toList = pgL (headS s ((s.size : Int) - n)).data.toList ++ pgL (tailS s n).data.toList := by
  rw [← pgL_append]
  congr 1
  unfold headS tailS
  rw [ByteArray.data_extract, ByteArray.data_extract]
  simp
  rw [List.take_of_length_le (l := List.drop _ _) (by simp)]
  exact (List.take_append_drop _ _).symm
theorem shY_used (g : Nat) (hg : g < 64) : ∀ (l : List Int) (a : Int), (∀ x ∈ l, 0 ≤ x ∧ x < 64) → usedI (shY a l) g = (usedI a g || decide ((g : Int) ∈ l))
  | [], a, _ => by simp [shY]
  | x :: l, a, h => by
    obtain ⟨h0, h1⟩ := h x (List.mem_cons_self ..)
    obtain ⟨u, rfl⟩ := Int.eq_ofNat_of_zero_le h0
    show usedI (shY (markI a (u : Int).toNat) l) g = _
    rw [Int.toNat_natCast, shY_used g hg l _ (fun y hy => h y (List.mem_cons_of_mem _ hy)), used_mark _ _ _ hg, Bool.or_assoc]
    congr 1
    rw [Bool.eq_iff_iff]
    simp only [Bool.or_eq_true, decide_eq_true_eq, List.mem_cons]
    rw [show u = g ↔ (g : Int) = (u : Int) by omega]
theorem pgL_rng (l : List UInt8) : ∀ g ∈ pgL l, 0 ≤ g ∧ g < 64 := by
  intro g hg
  obtain ⟨b, _, rfl⟩ := List.mem_map.1 hg
  omega
/-- What the way has more of behind it. -/
def hW (a : SpS) (p n : Int) : List Int := if hOk a p n = true then hL a p n else []
theorem OI.shrink {free : Int} {a : SpS} {wl : List Int} (H : OI free a wl) (p n : Int) : OI free (hA a p n) (wl ++ hW a p n) := by
  unfold hA hW
  by_cases hg : hOk a p n = true
  · rw [if_pos hg, if_pos hg]
    obtain ⟨p0, p1, n0, n1⟩ := hOk_in hg
    obtain ⟨P, rfl⟩ := Int.eq_ofNat_of_zero_le p0
    unfold hL
    simp only [Int.toNat_natCast] at *
    have hP : P < 2 := by omega
    have ht := head_tail (a.X P) n n0 n1
    have hr := pgL_rng (tailS (a.X P) n).data.toList
    have hsz : (headS (a.X P) (((a.X P).size : Int) - n)).size = ((a.X P).size : Int) - n := by unfold headS; rw [ByteArray.size_extract]; omega
    refine ⟨fun g hg => ?_, fun g hg hm => ?_, fun g hm => ?_, fun q hq => ?_, fun q hq => ?_⟩
    · rw [← H.own g hg]
      unfold ownC
      have e2 := count_two (fun q => (pgA ⟨a.f, shY a.wy (pgL (tailS (a.X P) n).data.toList), updF a.X P (headS (a.X P) (((a.X P).size : Int) - n)), updF a.M P (headS (a.M P) (min ((a.M P).size : Int) ((((a.X P).size : Int) - n) * 16)))⟩ q).count (g : Int)) (fun q => (pgA a q).count (g : Int)) P hP ((pgL (tailS (a.X P) n).data.toList).count (g : Int)) (by
          show (pgA _ (P : Int)).count _ = (pgA _ (P : Int)).count _ + _
          rw [pgA_upd _ _ _ _ _ hP _ _ hP, if_pos rfl, pgA_at _ _ hP, ht, List.count_append]) (fun q hq hne => by
          show (pgA _ (q : Int)).count _ = (pgA _ (q : Int)).count _
          rw [pgA_upd _ _ _ _ _ hP _ _ hq, if_neg hne, pgA_at _ _ hq])
      rw [List.count_append]
      show b01 (usedI a.f g) + (pgA _ ((0 : Nat) : Int)).count _ + (pgA _ ((1 : Nat) : Int)).count _ + _ = b01 (usedI a.f g) + (pgA _ ((0 : Nat) : Int)).count _ + (pgA _ ((1 : Nat) : Int)).count _ + _
      omega
    · show usedI (shY a.wy _) g = true
      rw [shY_used g hg _ _ hr]
      rcases List.mem_append.1 hm with hm | hm
      · rw [H.wy g hg hm]; rfl
      · rw [decide_eq_true hm, Bool.or_true]
    · rcases List.mem_append.1 hm with hm | hm
      · exact H.rng g hm
      · exact hr g hm
    · show (updF a.X P _ q).size ≤ 6
      by_cases e : q = P
      · subst e; rw [updF_same]; have := H.x q hq; omega
      · rw [updF_other _ _ _ _ e]; exact H.x q hq
    · show updF a.M P _ q = noughts (16 * (updF a.X P _ q).size)
      by_cases e : q = P
      · subst e
        rw [updF_same, updF_same, H.m q hq, noughts_size]
        unfold headS at hsz ⊢
        rw [noughts_head _ _ (by omega)]
        congr 1
        omega
      · rw [updF_other _ _ _ _ e, updF_other _ _ _ _ e]; exact H.m q hq
  · rw [if_neg hg, if_neg hg, List.append_nil]; exact H
/-- What Pages told, from where so many stand no more. -/
theorem hL_drop (a : SpS) (P : Nat) (hP : P < 2) (n : Int) (h : hOk a P n = true) : hL a P n = (pgA a P).drop ((pgA a P).length - n.toNat) := by
  obtain ⟨_, _, n0, n1⟩ := hOk_in h
  rw [Int.toNat_natCast] at n1
  have ht := head_tail (a.X P) n n0 n1
  have hl : (pgL (tailS (a.X P) n).data.toList).length = n.toNat := by
    unfold pgL tailS
    rw [List.length_map, ByteArray.data_extract]
    simp
    omega
  rw [pgA_at _ _ hP, ht]
  unfold hL
  rw [Int.toNat_natCast, List.length_append, hl, Nat.add_sub_cancel, List.drop_left]
theorem grow_pages (a : SpS) (P : Nat) (hP : P < 2) (n : Int) : ∃ l, pgA (gA a P n) P = pgA a P ++ l := by
  unfold gA
  by_cases hg : gOk a P n = true
  · rw [if_pos hg]
    refine ⟨gL a.f n.toNat, ?_⟩
    rw [Int.toNat_natCast, pgA_upd _ _ _ _ _ hP _ _ hP, if_pos rfl, pgL_gS, pgA_at _ _ hP]
  · rw [if_neg hg]; exact ⟨[], (List.append_nil _).symm⟩
theorem pgA_len (a : SpS) (P : Nat) (hP : P < 2) : (pgA a P).length = (a.X P).size := by
  rw [pgA_at _ _ hP]; unfold pgL; rw [List.length_map]; simp
theorem pgA_rng (a : SpS) (P : Nat) (hP : P < 2) : ∀ g ∈ pgA a P, 0 ≤ g ∧ g < 64 := by rw [pgA_at _ _ hP]; exact pgL_rng _
end Go.Proofs.YtdlcbclfniahoaaDoor.St
