/- The contracts of math/bits.Mul at one, of slices.Repeat of one share, and of share.New. No condition but those written in each statement. -/
import Derived.Test.YtdpgpnjjonhdhaaShC
import Derived.Deep.RegionLaw
namespace Go.Proofs.Ytdpgpnjjonhdhaa.St
open Go.RowKit Go.Proofs.Ytdpgpnjjonhdhaa.Fp
set_option linter.unusedVariables false

theorem and_low (c : Nat) (h : c ≤ 64) : bits .and .u64 (c : Int) 4294967295 = (c : Int) := by
  have h1 := u64_and_nat c 4294967295 (by omega) (by omega)
  have e : ((4294967295 : Nat) : Int) = 4294967295 := rfl
  rw [e] at h1
  rw [h1, show (4294967295 : Nat) = 2 ^ 32 - 1 by decide, Nat.and_two_pow_sub_one_eq_mod, Nat.mod_eq_of_lt (by omega)]

attribute [local irreducible] Int.lt Int.le less more quo aheadI
set_option maxRecDepth 100000 in
theorem mul64_one (c : Nat) (h : c ≤ 64) (w : World) :
    Calls Try.prog 55 #[.int .u64 1, .int .u64 (c : Int)] w fun e w' => e = .returned (.tuple #[.int .u64 0, .int .u64 (c : Int)]) ∧ w = w' := by
  have h1 := and_low c h
  have h2 : bits .and .u64 1 4294967295 = 1 := by have := and_low 1 (by omega); exact this
  have h3 : bits .and .u64 0 4294967295 = 0 := by have := and_low 0 (by omega); exact this
  have h4 : (c : Int) / 4294967296 = 0 := by omega
  go_enter Try.func55, Try.ntmps55
  go_wp2_with fail
  go_ret2
  exact ⟨rfl, rfl⟩
set_option maxRecDepth 100000 in
theorem mul_one (c : Nat) (h : c ≤ 64) (w : World) :
    Calls Try.prog 47 #[.int .u64 1, .int .u64 (c : Int)] w fun e w' => e = .returned (.tuple #[.int .u64 0, .int .u64 (c : Int)]) ∧ w = w' := by
  go_enter Try.func47, Try.ntmps47
  go_wp2_with fail
  refine (mul64_one c h _).mono ?_; rintro e w' ⟨rfl, rfl⟩
  go_wp2_with fail
  go_ret2
  exact ⟨rfl, rfl⟩

theorem info_one : (Try.prog.info? 54).map (fun i => (i.zero, i.size, i.bytes)) = some (some (.agg #[.int .u64 0, .int .u64 0, .int .i64 0]), 3, 24) := by kernel_rfl
theorem one_size : (Try.prog.info? 54).map (·.size) = some 3 := by kernel_rfl
theorem run_copy_wide {P : Program} (w : World) (dT sT ty elem : TypeId) (S m b o dLen dCap : Nat) (a : Addr) (sLen sCap : Nat) (cs : List Value)
    (hu : P.underlying dT = some (.slice elem)) (hs : (P.info? elem).map (·.size) = some S) (hm : Nat.min sLen dLen = m) (hn : cs.length = m * S)
    (hsrc : ∀ j v, cs[j]? = some v → w.cell? (a.add j) = some v) (hc : ∀ j, j < cs.length → (w.cell? ⟨b, o + j, none⟩).isSome = true) (hf : ∀ j, j < cs.length → w.frozen? ⟨b, o + j, none⟩ = false) (h1 : ∀ v ∈ cs, v.oneCell' = true) :
    (Builtin.copy_ #[dT, sT] ty #[.slice (some ⟨b, o, none⟩) dLen dCap, .slice (some a) sLen sCap]).run P w = .ok (goInt m) (w.setCells b o cs) := by
  have hl := run_loadCells_list (P := P) w a cs hsrc
  have hst := run_storeCells_cells (P := P) b o cs 0 w (by simpa using hc) (by simpa using hf) h1
  cases hq : P.info? elem with
  | none => simp [hq] at hs
  | some i =>
    have hi : i.size = S := by simpa [hq] using hs
    simp [Builtin.copy_, run_underlying hu, Builtin.lenOf, Builtin.firstCells, sizeOf, typeInfo, hq, hi, hm, ← hn, hl, hst]
theorem wpList_copy_own2 {P : Program} (w : World) {ops : Array Oper} {rest : List Oper} {o : Oper} {a : Act} {Q : Exit → Act → World → Prop} (hgd : o.guard = none) (d s : Operand) (t t' : TypeId)
    (ho : o.op = .call { callee := .builtin .copy, args := #[d, s], argTypes := #[t, t'] }) (v u : Value) (hd : a.eval d = v) (hs : a.eval s = u) {v' : Value} {w' : World}
    (hr : (Builtin.copy_ #[t, t'] o.type #[v, u]).run P w = .ok v' w') (h : wpList P ops Q rest (a.put o.dst v') w') : wpList P ops Q (o :: rest) a w := by
  refine wpList_plain hgd fun _ hK => ?_
  unfold Oper.wp execOp
  simp only [ho, resolve, invoke, builtin, Sem.run_bind, Sem.run_pure, Result.andThen_ok, List.map_toArray, List.map_cons, List.map_nil, hd, hs, hr]
  exact hK _ _ h

/-- Copy as one step of a region that draws. -/
theorem step_copy_own2 {P : Program} {ops : Array Oper} {o : Oper} {a : Act} {w : World} {K : Act → World → Prop} {Q : Exit → Act → World → Prop} {E : Prop}
    (hg : o.guard = none) (d x : Operand) (dT sT : TypeId) (hop : o.op = Op.call { callee := Callee.builtin Builtin.copy, args := #[d, x], argTypes := #[dT, sT] })
    (v u : Value) (hd : a.eval d = v) (hx : a.eval x = u) {v' : Value} {w' : World} (hr : (Builtin.copy_ #[dT, sT] o.type #[v, u]).run P w = .ok v' w') (hK : K (a.put o.dst v') w') :
    if Region.wanted o (yielded ops a.tmps) = true then Oper.wp P o a w K Q else E := by
  have hw : Region.wanted o (yielded ops a.tmps) = true := by simp [Region.wanted, hg]
  rw [if_pos hw]
  unfold Oper.wp
  simp [execOp, hop, resolve, invoke, builtin, hd, hx, hr, Result.andThen]
  exact hK

/-- What all have at first. -/
def one0 : Nat → One := fun _ => ⟨4607182418800017408, 0, 0⟩
def ocells (m : Nat) : List Value := (List.range (m * 3)).map (scell one0)
theorem ocells_len (m : Nat) : (ocells m).length = m * 3 := by simp [ocells]
theorem ocells_at (m j : Nat) (h : j < m * 3) : (ocells m)[j]? = some (scell one0 j) := by simp [ocells, h]
theorem ocells_one (m : Nat) : ∀ v ∈ ocells m, v.oneCell' = true := by
  intro v h
  unfold ocells at h
  obtain ⟨j, _, rfl⟩ := List.mem_map.1 h
  unfold scell
  split
  · rfl
  · split <;> rfl
theorem scell_per (j n : Nat) (h : n * 3 ≤ j) : scell one0 (j - n * 3) = scell one0 j := by
  unfold scell
  rw [show (j - n * 3) % 3 = j % 3 by omega]
  rfl

set_option maxRecDepth 100000 in
set_option maxHeartbeats 4000000 in
theorem repeat_any (x : Addr) (k : Nat) (w : World) (hk : k ≤ 64) (h0 : w.cell? x = some (.int .u64 4607182418800017408)) (h1 : w.cell? (x.add 1) = some (.int .u64 0)) (h2 : w.cell? (x.add 2) = some (.int .i64 0)) :
    Calls Try.prog 30 #[.slice (some x) 1 1, .int .i64 (k : Int)] w fun e w' => ∃ g, e = .returned (.slice (some ⟨g, 0, none⟩) k k) ∧ w.heap.size ≤ g ∧ w'.rowIs g 54 (k * 3) (scell one0) ∧ Below w.heap.size w w' := by
  obtain ⟨i1, hi, hz0, hz1, hz2⟩ := info_parts info_one
  have hwk : IntKind.u64.wrap (k : Int) = k := by unfold IntKind.wrap; simp [IntKind.bits, IntKind.signed]; omega
  have hwk2 : IntKind.i64.wrap (k : Int) = k := by unfold IntKind.wrap; simp [IntKind.bits, IntKind.signed]; omega
  go_enter Try.func30, Try.ntmps30
  go_wp2_with (first
    | (go_at_call 47; refine (mul_one k hk _).mono ?_; rintro e w' ⟨rfl, rfl⟩)
    | (at_make; refine wpList_make_full _ rfl _ _ 51 rfl w.heap.size 54 i1 (.agg #[.int .u64 0, .int .u64 0, .int .i64 0]) 3 Try.underlying51 hi hz0 hz1 .i64 .i64 _ _ k rfl rfl ?c1 ?c2 ?c3 ?c4 (Nat.le_refl _) ?_)
    | fail)
  case c1 => omega
  case c2 => omega
  case c3 => rw [hz2]; omega
  case c4 => unfold maxLen; omega
  intro W2 hown2 hgr
  have bel2 := (Below.refl w.heap.size w).grown hgr (Nat.le_refl _) (fun q hq => by cases hq)
  obtain ⟨g, cap, cur, e', hg, hb, q1, q2, q3, q4⟩ := hown2.2.resolve_left (fun q => by cases q.1)
  cases e'
  have hR : W2.rowIs w.heap.size 54 (k * 3) (fun i => cur[i]?.getD default) := ⟨cur, hb, q3, fun i hi2 => by simp [Array.getElem?_eq_getElem (show i < cur.size by omega)]⟩
  have z0 := (bel2.cell (cell_block_lt h0)).trans h0
  have z1 := (bel2.cell (cell_block_lt h1)).trans h1
  have z2 := (bel2.cell (cell_block_lt h2)).trans h2
  have gW : w.heap.size ≤ w.heap.size := Nat.le_refl _
  generalize hG : w.heap.size = g at *
  have hsrc : ∀ j v, (ocells (min 1 k))[j]? = some v → W2.cell? (x.add j) = some v := by
    intro j v hj
    obtain ⟨hlt, _⟩ := List.getElem?_eq_some_iff.1 hj
    rw [ocells_len] at hlt
    rw [ocells_at _ _ hlt] at hj
    rw [← Option.some.inj hj]
    rcases (show j = 0 ∨ j = 1 ∨ j = 2 by omega) with rfl | rfl | rfl
    · rw [show x.add 0 = x from rfl, z0]; rfl
    · rw [z1]; rfl
    · rw [z2]; rfl
  have hcl : ∀ j, j < (ocells (min 1 k)).length → (W2.cell? ⟨g, 0 + j, none⟩).isSome = true := fun j hj => by rw [ocells_len] at hj; rw [Nat.zero_add, hR.cell (by omega)]; rfl
  have hfr : ∀ j, j < (ocells (min 1 k)).length → W2.frozen? ⟨g, 0 + j, none⟩ = false := fun j _ => hR.frozen _
  have hcopy := fun ty => run_copy_wide (P := Try.prog) W2 51 51 ty 54 3 (min 1 k) g 0 k k x 1 1 (ocells (min 1 k)) Try.underlying51 one_size rfl (ocells_len _) hsrc hcl hfr (ocells_one _)
  go_wp2_with (first
    | (at_builtin; refine wpList_copy_own2 W2 rfl _ _ _ _ rfl _ _ rfl rfl (hcopy _) ?_)
    | fail)
  have hR3 := Go.rowIs_setCells (ocells (min 1 k)) 0 W2 _ hR
  have bel3 := Go.below_setCells (b := g) gW (ocells (min 1 k)) 0 W2 bel2
  have hF : ∀ j, j < min 1 k * 3 → (fun j => if 0 ≤ j ∧ j < 0 + (ocells (min 1 k)).length then (ocells (min 1 k))[j - 0]?.getD default else cur[j]?.getD default) j = scell one0 j := by
    intro j hj
    simp only []
    rw [ocells_len, if_pos (by omega), Nat.sub_zero, ocells_at _ _ hj]; rfl
  generalize (fun j => if 0 ≤ j ∧ j < 0 + (ocells (min 1 k)).length then (ocells (min 1 k))[j - 0]?.getD default else cur[j]?.getD default) = f at *
  generalize W2.setCells g 0 (ocells (min 1 k)) = W3 at *
  clear hsrc hcl hfr hcopy hR bel2 z0 z1 z2 h0 h1 h2 hown2 hgr hb q1 q2 q3 q4
  go_loopw [8] (fun i wr => ∃ (j : Nat) (f : Nat → Value), min 1 k ≤ j ∧ j ≤ k ∧ i = .int .i64 (j : Int) ∧ wr.rowIs g 54 (k * 3) f ∧ (∀ i, i < j * 3 → f i = scell one0 i) ∧ Below g w wr) (fun i _ => k - (intOf i).toNat)
  case atStart => exact ⟨min 1 k, f, Nat.le_refl _, by omega, by simp, hR3, hF, bel3⟩
  case round =>
    clear hR3 hF bel3
    obtain ⟨j, f2, j1, j2, rfl, hR4, hA, bel4⟩ := hrel
    by_cases hlt : j < k
    · have l1 : (j : Int) < (k : Int) := by omega
      have l0 : (0 : Int) ≤ (j : Int) := by omega
      go_wp2_with fail
      obtain ⟨m, hm⟩ : ∃ m, m = min j (k - j) := ⟨_, rfl⟩
      have m1 : 1 ≤ m := by omega
      have m2 : j + m ≤ k := by omega
      have m3 : m ≤ j := by omega
      have hwj : IntKind.i64.wrap ((j : Int) + (m : Int)) = (j : Int) + m := by unfold IntKind.wrap; simp [IntKind.bits, IntKind.signed]; omega
      have hsrc : ∀ i v, (ocells m)[i]? = some v → wr.cell? ((⟨g, 0, none⟩ : Addr).add i) = some v := by
        intro i v hj
        obtain ⟨hlt, _⟩ := List.getElem?_eq_some_iff.1 hj
        rw [ocells_len] at hlt
        rw [ocells_at _ _ hlt] at hj
        have ea : (⟨g, 0, none⟩ : Addr).add i = ⟨g, i, none⟩ := by unfold Addr.add; split <;> simp_all
        rw [ea, hR4.cell (by omega), hA _ (by omega), ← Option.some.inj hj]
      have hcl : ∀ i, i < (ocells m).length → (wr.cell? ⟨g, j * 3 + i, none⟩).isSome = true := fun i hj => by rw [ocells_len] at hj; rw [hR4.cell (by omega)]; rfl
      have hfr : ∀ i, i < (ocells m).length → wr.frozen? ⟨g, j * 3 + i, none⟩ = false := fun j _ => hR4.frozen _
      have hcopy := fun ty => run_copy_wide (P := Try.prog) wr.drew 51 51 ty 54 3 m g (j * 3) (k - j) (k - j) ⟨g, 0, none⟩ j k (ocells m) Try.underlying51 one_size hm.symm (ocells_len _) hsrc hcl hfr (ocells_one _)
      have hR6 := Go.rowIs_setCells (ocells m) (j * 3) wr.drew _ (show wr.drew.rowIs g 54 (k * 3) f2 from hR4)
      have bel6 := Go.below_setCells (b := g) gW (ocells m) (j * 3) wr.drew (below_drewN bel4 1)
      have hF6 : ∀ i, i < (j + m) * 3 → (fun i => if j * 3 ≤ i ∧ i < j * 3 + (ocells m).length then (ocells m)[i - j * 3]?.getD default else f2 i) i = scell one0 i := by
        intro i hi
        simp only []
        rw [ocells_len]
        by_cases c : j * 3 ≤ i
        · rw [if_pos (by omega), ocells_at _ _ (by omega), ← scell_per i j c]; rfl
        · rw [if_neg (by omega)]; exact hA i (by omega)
      generalize (fun i => if j * 3 ≤ i ∧ i < j * 3 + (ocells m).length then (ocells m)[i - j * 3]?.getD default else f2 i) = f6 at *
      have H6 := Lib.hid (And.intro hR6 (And.intro hF6 bel6))
      clear hsrc hcl hfr hR6 hF6 bel6 hR4 hA bel4 hm
      go_region_law (refine step_copy_own2 rfl _ _ 51 51 rfl (.slice (some ⟨g, j * 3, none⟩) (k - j) (k - j)) (.slice (some ⟨g, 0, none⟩) j k) (by simp [Act.eval, Act.put] <;> omega) (by simp [Act.eval, Act.put] <;> omega) (hcopy _) ?_)
      go_wp2_with fail
      exact ⟨⟨j + m, by omega, by omega, by go_num, f6, H6.out.1, H6.out.2.1, H6.out.2.2⟩, by simp [intOf]; omega⟩
    · obtain rfl : j = k := by omega
      have hR5 : wr.rowIs g 54 (j * 3) (scell one0) := hR4.congr (fun i hi => hA i hi)
      clear hR4 hA
      go_wp2_with fail
      go_ret
      exact ⟨g, rfl, by omega, hR5, by rw [hG]; exact bel4⟩

theorem sh_new {W0 W : World} {g k : Nat} (hk : k ≤ 64) (hR : W.rowIs g 54 (k * 3) (scell one0)) :
    Sh (W.alloc (.cells #[.slice (some ⟨g, 0, none⟩) k k] 56)) W.heap.size g k one0 := by
  obtain ⟨cur, hb, h2⟩ := hR
  have hg := (Array.getElem?_eq_some_iff.1 hb).1
  refine ⟨alloc_cell _ _ _ 0 _ rfl, ⟨cur, (Below.heap_alloc W _ g hg).trans hb, h2⟩, by omega, hk, fun j => ?_, fun j => ?_, fun j => ?_⟩
  · exact ⟨by show 0 < 4607182418800017408; omega, by show 4607182418800017408 < _; omega⟩
  · exact ⟨by show 0 < _; omega, by show nanN 0 = false; decide⟩
  · show (0 : Int) ≤ 0 ∧ (0 : Int) ≤ 21; omega
set_option maxRecDepth 100000 in
theorem new_any (k : Nat) (hk : k ≤ 64) (w : World) :
    Calls Try.prog 9 #[.int .i64 (k : Int)] w fun e w' => ∃ R X, e = .returned (.pointer (some ⟨R, 0, none⟩)) ∧ w.heap.size ≤ R ∧ w.heap.size ≤ X ∧ Sh w' R X k one0 ∧ Below w.heap.size w w' := by
  have a0 := alloc_cell w #[.int .u64 4607182418800017408, .int .u64 0, .int .i64 0] 54 0 _ rfl
  have a1 := alloc_cell w #[.int .u64 4607182418800017408, .int .u64 0, .int .i64 0] 54 1 _ rfl
  have a2 := alloc_cell w #[.int .u64 4607182418800017408, .int .u64 0, .int .i64 0] 54 2 _ rfl
  have u0 := (Below.refl w.heap.size w).alloc (Nat.le_refl _) (Obj.cells #[.int .u64 4607182418800017408, .int .u64 0, .int .i64 0] 54)
  have hrep := repeat_any ⟨w.heap.size, 0, none⟩ k _ hk a0 a1 a2
  have Hr := Lib.hid hrep
  have U0 := Lib.hid u0
  clear a0 a1 a2 hrep u0
  rcases Nat.eq_zero_or_pos k with rfl | hp
  case' inr => have l0 : (0 : Int) < (k : Int) := by omega
  all_goals
    go_enter Try.func9, Try.ntmps9
    go_wp2_with fail
    refine Hr.out.mono ?_; rintro e W1 ⟨g, rfl, hg, hR, t1⟩
    have hs := Lib.hid (sh_new (W0 := w) hk hR)
    have hb := Lib.hid (fun o => (U0.out.trans (t1.mono U0.out.size)).alloc (U0.out.trans (t1.mono U0.out.size)).size o)
    have hz := (U0.out.trans (t1.mono U0.out.size)).size
    have hg2 : w.heap.size ≤ g := Nat.le_trans U0.out.size hg
    clear hR t1 Hr
    go_wp2_with fail
    go_ret
    exact ⟨_, g, rfl, hz, hg2, hs.out, hb.out _⟩
end Go.Proofs.Ytdpgpnjjonhdhaa.St
