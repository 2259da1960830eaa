/- cloisterbook.Same of numbers where they are the same, and chapter 16's runs. Where the library's table holds what its initialiser lays. -/
import Derived.Test.YtdlcbclfniahoaaDoorSpR
namespace Go.Proofs.YtdlcbclfniahoaaDoor.St
open Go.RowKit
set_option linter.unusedVariables false

theorem NR.maps {W W' : World} {L : Lay} {st : VSt} {a : Option Addr} {zs : List Int} (h : NR W a zs) (hV : ViewAt W L st) (hm : Maps L W W') : NR W' a zs := fun i hi => by
  obtain ⟨x, e, c⟩ := h i hi
  have hlt := World.block_lt_of_cell? _ _ c
  obtain ⟨_, _, hr, _⟩ := hV.cr
  obtain ⟨_, _, hmm, _⟩ := hV.cm
  have hne : ¬((x.add i).block = L.r ∨ (x.add i).block = L.m) := by
    rintro (q | q)
    · unfold World.cell? at c; rw [q, hr] at c; simp at c
    · unfold World.cell? at c; rw [q, hmm] at c; simp at c
  refine ⟨x, e, ?_⟩
  rw [World.cell?_of_block (hm.block (x.add i).block (by simpa using hlt) hne)]
  exact c
theorem NR.drewN {W : World} {a : Option Addr} {zs : List Int} (h : NR W a zs) (n : Nat) : NR (W.drewN n) a zs := h.below ⟨rfl, rfl, rfl, Nat.le_refl _, fun _ _ => rfl⟩
theorem NR.alloc {W : World} {a : Option Addr} {zs : List Int} (h : NR W a zs) (o : Obj) : NR (W.alloc o) a zs := h.below ((Below.refl _ _).alloc (Nat.le_refl _) _)
theorem IL.nr {B : Nat} {W : World} {v : Value} {ps : List Int} (h : IL B W v ps) : ∃ a cap, v = .slice a ps.length cap ∧ NR W a ps := by
  obtain ⟨a, cap, e, hc⟩ := h.cell
  exact ⟨a, cap, e, fun i hi => by
    obtain ⟨x, e, _, _, c⟩ := hc i hi
    exact ⟨x, e, c⟩⟩
theorem nr_made (W : World) (zs : List Int) (n : Nat) (h : n = W.heap.size) (t : TypeId) : NR (W.alloc (.cells (zs.map (Value.int .i64)).toArray t)) (some ⟨n, 0, none⟩) zs := fun i hi => by
  subst h
  refine ⟨_, rfl, ?_⟩
  have e : (⟨W.heap.size, 0, none⟩ : Addr).add i = ⟨W.heap.size, i, none⟩ := by unfold Addr.add; split <;> simp_all
  rw [e]
  unfold World.cell?
  simp only []
  rw [heap_alloc_new]
  simp [hi]
attribute [local irreducible] Int.lt Int.le
set_option maxRecDepth 100000 in
theorem sameI_yes (a b : Option Addr) (c d : Nat) (zs : List Int) (w : World) (hn : zs.length ≤ 1000000) (ha : NR w a zs) (hb : NR w b zs) :
    Calls Tryd.prog 13 #[.slice a zs.length c, .slice b zs.length d] w fun e w' => e = .returned (.bool true) ∧ ∃ q, w' = w.drewN q := by
  go_enter Tryd.func13, Tryd.ntmps13
  go_wp2_with fail
  go_loopw [5] (fun i wr => ∃ j : Nat, j ≤ zs.length ∧ i = .int .i64 (j : Int) ∧ ∃ q, wr = w.drewN q) (fun i _ => zs.length - (intOf i).toNat)
  case atStart => exact ⟨0, Nat.zero_le _, rfl, 0, rfl⟩
  case round =>
    obtain ⟨j, hj, rfl, q, rfl⟩ := hrel
    by_cases hlt : j < zs.length
    · have l1 : (j : Int) < (zs.length : Int) := by omega
      have l0 : (0 : Int) ≤ (j : Int) := by omega
      obtain ⟨x, rfl, x0⟩ := ha j hlt
      obtain ⟨y, rfl, y0⟩ := hb j hlt
      clear ha hb
      generalize zs[j] = z at *
      go_wp2_with fail
      go_quiet (fail)
      go_wp2_with fail
      exact ⟨⟨j + 1, by omega, by go_num, q + nq, by first | rfl | exact (World.drewN_add _ _ _).symm⟩, by simp [intOf]; omega⟩
    · obtain rfl : j = zs.length := by omega
      clear ha hb
      go_wp2_with fail
      go_ret
      exact ⟨rfl, q, rfl⟩

/-! ### Chapter 16's runs -/
def ru0 : SpS := pS 15
def ru1 : SpS := gA ru0 0 2
def ru2 : SpS := gA ru1 1 1
def ru3 : SpS := hA ru2 0 1
def ru4 : SpS := bkA ru3 [1]
def ru5 : SpS := gA ru4 1 2
theorem ru_ok : gOk ru0 0 2 = true ∧ gOk ru1 1 1 = true ∧ hOk ru2 0 1 = true ∧ gOk ru4 1 2 = true := by decide +kernel
theorem ru_pages : pgA ru2 0 = [0, 1] ∧ pgA ru2 1 = [2] ∧ hL ru2 0 1 = [1] ∧ pgA ru5 1 = [2, 1, 3] := by decide +kernel
theorem ru_free : ones64 (IntKind.u64.wrap ru3.f) = 1 ∧ ones64 (IntKind.u64.wrap ru4.f) = 2 := by decide +kernel
theorem ru_size : (∀ p, p < 2 → (ru0.X p).size ≤ 1000) ∧ (∀ p, p < 2 → (ru0.M p).size ≤ 1000) ∧ (∀ p, p < 2 → (ru1.X p).size ≤ 1000) ∧ (∀ p, p < 2 → (ru1.M p).size ≤ 1000) ∧ (∀ p, p < 2 → (ru2.X p).size ≤ 1000) ∧ (∀ p, p < 2 → (ru2.M p).size ≤ 1000) ∧ (∀ p, p < 2 → (ru4.X p).size ≤ 1000) ∧ (∀ p, p < 2 → (ru4.M p).size ≤ 1000) ∧ (∀ p, p < 2 → (ru5.X p).size ≤ 1000) := by decide +kernel
set_option maxRecDepth 100000 in
set_option maxHeartbeats 1000000 in
theorem spaceRuns_any (w : World) (hM : Bx w) :
    Calls Tryd.prog 3 #[] w fun e w' => e = .returned (.bool true) ∧ Below w.heap.size w w' := by
  obtain ⟨z0X, z0M, z1X, z1M, z2X, z2M, z4X, z4M, z5X⟩ := ru_size
  go_enter Tryd.func3, Tryd.ntmps3
  go_wp2_with fail
  refine (lpool_any 15 _).mono ?_; rintro e W0 ⟨t, d, q, L, rfl, S0⟩
  have R0 : SR _ ru0 := pl2_SR 15
  have c0 := S0.cell
  go_wp2_with fail
  refine (s_grow S0 R0 hM z0X z0M 0 2 (by decide)).mono ?_; rw [ru_ok.1]; rintro e W1 ⟨rfl, st1, R1, S1, _⟩
  rw [show gA ru0 0 2 = ru1 from rfl] at R1
  clear S0 R0 c0
  go_wp2_with fail
  refine (s_grow S1 R1 hM z1X z1M 1 1 (by decide)).mono ?_; rw [ru_ok.2.1]; rintro e W2 ⟨rfl, st2, R2, S2, _⟩
  rw [show gA ru1 1 1 = ru2 from rfl] at R2
  clear S1 R1
  go_wp2_with fail
  refine (s_pages S2 R2 z2X 0 (by decide)).mono ?_; rw [ru_pages.1]; rintro e W3 ⟨v1, rfl, il1, st3, R3, S3, _⟩
  obtain ⟨a1, k1, rfl, n1⟩ := il1.nr
  clear S2 R2 il1
  go_wp2_with fail
  refine (s_pages S3 R3 z2X 1 (by decide)).mono ?_; rw [ru_pages.2.1]; rintro e W4 ⟨v2, rfl, il2, st4, R4, S4, m4⟩
  obtain ⟨a2, k2, rfl, n2⟩ := il2.nr
  have n1 := n1.maps S3.v m4
  clear S3 R3 il2 m4
  go_wp2_with fail
  refine (s_shrink S4 R4 z2X z2M 0 1 (by decide)).mono ?_; rw [ru_ok.2.2.1, ru_pages.2.2.1]; rintro e W5 ⟨v3, rfl, il3, st5, R5, S5, m5⟩
  obtain ⟨a3, k3, rfl, n3⟩ := (il3.1 rfl).nr
  rw [show hA ru2 0 1 = ru3 from rfl] at R5
  have n1 := n1.maps S4.v m5
  have n2 := n2.maps S4.v m5
  clear S4 R4 il3 m5
  go_wp2_with fail
  refine (s_free S5 R5).mono ?_; rw [ru_free.1]; rintro e W6 ⟨rfl, st6, R6, S6, m6⟩
  have n1 := n1.maps S5.v m6
  have n2 := n2.maps S5.v m6
  have n3 := n3.maps S5.v m6
  clear S5 R5 m6
  go_wp2_with fail
  have S6' := S6.below ((Below.refl _ _).alloc (Nat.le_refl _) (Obj.cells #[.int .i64 1] 3))
  have nl := nr_made W6 [1] _ rfl 3
  have n1 := n1.alloc (Obj.cells #[.int .i64 1] 3)
  have n2 := n2.alloc (Obj.cells #[.int .i64 1] 3)
  have n3 := n3.alloc (Obj.cells #[.int .i64 1] 3)
  refine (s_back S6' R6 _ 1 [1] (by decide) nl).mono ?_; rintro e W7 ⟨rfl, st7, R7, S7, m7⟩
  rw [show bkA ru3 [1] = ru4 from rfl] at R7
  have n1 := n1.maps S6'.v m7
  have n2 := n2.maps S6'.v m7
  have n3 := n3.maps S6'.v m7
  clear S6 S6' R6 m7 nl
  go_wp2_with fail
  refine (s_free S7 R7).mono ?_; rw [ru_free.2]; rintro e W8 ⟨rfl, st8, R8, S8, m8⟩
  have n1 := n1.maps S7.v m8
  have n2 := n2.maps S7.v m8
  have n3 := n3.maps S7.v m8
  clear S7 R7 m8
  go_wp2_with fail
  refine (s_grow S8 R8 hM z4X z4M 1 2 (by decide)).mono ?_; rw [ru_ok.2.2.2]; rintro e W9 ⟨rfl, st9, R9, S9, m9⟩
  rw [show gA ru4 1 2 = ru5 from rfl] at R9
  have n1 := n1.maps S8.v m9
  have n2 := n2.maps S8.v m9
  have n3 := n3.maps S8.v m9
  clear S8 R8 m9
  go_wp2_with fail
  have n1 := n1.alloc (Obj.cells #[.int .i64 0, .int .i64 1] 3)
  have n2 := n2.alloc (Obj.cells #[.int .i64 0, .int .i64 1] 3)
  have n3 := n3.alloc (Obj.cells #[.int .i64 0, .int .i64 1] 3)
  have S9 := S9.below ((Below.refl _ _).alloc (Nat.le_refl _) (Obj.cells #[.int .i64 0, .int .i64 1] 3))
  have nl := nr_made W9 [0, 1] _ rfl 3
  refine (sameI_yes a1 _ k1 2 [0, 1] _ (by decide) n1 nl).mono ?_; rintro e W10 ⟨rfl, q1, rfl⟩
  have n2 := n2.drewN q1
  have n3 := n3.drewN q1
  have S9 := S9.drewN q1
  clear n1 nl
  generalize World.drewN (W9.alloc (Obj.cells #[.int .i64 0, .int .i64 1] 3)) q1 = W10 at *
  go_wp2_with fail
  have n2 := n2.alloc (Obj.cells #[.int .i64 2] 3)
  have n3 := n3.alloc (Obj.cells #[.int .i64 2] 3)
  have S9 := S9.below ((Below.refl _ _).alloc (Nat.le_refl _) (Obj.cells #[.int .i64 2] 3))
  have nl := nr_made W10 [2] _ rfl 3
  refine (sameI_yes a2 _ k2 1 [2] _ (by decide) n2 nl).mono ?_; rintro e W11 ⟨rfl, q2, rfl⟩
  have n3 := n3.drewN q2
  have S9 := S9.drewN q2
  clear n2 nl
  generalize World.drewN (W10.alloc (Obj.cells #[.int .i64 2] 3)) q2 = W11 at *
  go_wp2_with fail
  have n3 := n3.alloc (Obj.cells #[.int .i64 1] 3)
  have S9 := S9.below ((Below.refl _ _).alloc (Nat.le_refl _) (Obj.cells #[.int .i64 1] 3))
  have nl := nr_made W11 [1] _ rfl 3
  refine (sameI_yes a3 _ k3 1 [1] _ (by decide) n3 nl).mono ?_; rintro e W12 ⟨rfl, q3, rfl⟩
  have S9 := S9.drewN q3
  clear n3 nl
  generalize World.drewN (W11.alloc (Obj.cells #[.int .i64 1] 3)) q3 = W12 at *
  go_wp2_with fail
  refine (s_pages S9 R9 z5X 1 (by decide)).mono ?_; rw [ru_pages.2.2.2]; rintro e W13 ⟨v4, rfl, il4, st13, R13, S13, _⟩
  obtain ⟨a4, k4, rfl, n4⟩ := il4.nr
  clear S9 R9 il4
  go_wp2_with fail
  have n4 := n4.alloc (Obj.cells #[.int .i64 2, .int .i64 1, .int .i64 3] 3)
  have S13 := S13.below ((Below.refl _ _).alloc (Nat.le_refl _) (Obj.cells #[.int .i64 2, .int .i64 1, .int .i64 3] 3))
  have nl := nr_made W13 [2, 1, 3] _ rfl 3
  refine (sameI_yes a4 _ k4 3 [2, 1, 3] _ (by decide) n4 nl).mono ?_; rintro e W14 ⟨rfl, q4, rfl⟩
  have S13 := S13.drewN q4
  clear n4 nl
  generalize World.drewN (W13.alloc (Obj.cells #[.int .i64 2, .int .i64 1, .int .i64 3] 3)) q4 = W14 at *
  go_wp2_with fail
  go_ret
  exact ⟨rfl, S13.b⟩
end Go.Proofs.YtdlcbclfniahoaaDoor.St
