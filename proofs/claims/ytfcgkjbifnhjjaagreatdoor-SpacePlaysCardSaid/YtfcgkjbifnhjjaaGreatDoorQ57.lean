/- Lists of keys that are the call's own: appending a list to a list. key.Sort of any list of keys, one that isn't there too. The contract of key.Within of a list of one key that is there. No condition but those written in each statement. -/
import Derived.Test.YtfcgkjbifnhjjaaGreatDoorQ56
import Derived.Laws.OwnMore
namespace Go.Proofs.YtfcgkjbifnhjjaaGreatDoor.St
open Go.RowKit
set_option linter.unusedVariables false

/-- A list of n keys in blocks from B on. -/
def KL (B : Nat) (W : World) (v : Value) (n : Nat) (z : Nat → Int × Int) : Prop := W.ownsRow B 57 2 v n (kcells z n)
theorem KL.nil (B : Nat) (W : World) (z : Nat → Int × Int) : KL B W (.slice none 0 0) 0 z := World.ownsRow_nil _ _ _ _
theorem KL.keep {B : Nat} {W W' : World} {v : Value} {n : Nat} {z : Nat → Int × Int} (h : KL B W v n z) (hb : ∀ g, B ≤ g → g < W.heap.size → W'.heap[g]? = W.heap[g]?) : KL B W' v n z := by
  refine ⟨h.1, ?_⟩
  rcases h.2 with q | ⟨g, cap, cur, h1, h2, h3, h4⟩
  · exact Or.inl q
  · exact Or.inr ⟨g, cap, cur, h1, h2, (hb g h2 (lt_of_heap h3)).trans h3, h4⟩
theorem KL.below {B : Nat} {W W' : World} {v : Value} {n : Nat} {z : Nat → Int × Int} (h : KL B W v n z) (hb : Below W.heap.size W W') : KL B W' v n z := h.keep fun g _ hg => hb.block g hg
theorem KL.mono {B C : Nat} {W : World} {v : Value} {n : Nat} {z : Nat → Int × Int} (h : KL B W v n z) (hc : C ≤ B) : KL C W v n z := own_mono h hc
theorem KL.kr {B : Nat} {W : World} {v : Value} {n : Nat} {z : Nat → Int × Int} (h : KL B W v n z) : ∃ a c, v = .slice a n c ∧ KR W a n z ∧ (a = none → n = 0 ∧ c = 0) ∧ n ≤ c := by
  rcases h.2 with ⟨rfl, rfl⟩ | ⟨g, cap, cur, rfl, _, _, hnc, _⟩
  · exact ⟨none, 0, rfl, fun i hi => absurd hi (by omega), fun _ => ⟨rfl, rfl⟩, by omega⟩
  · refine ⟨_, _, rfl, fun i hi => ⟨_, rfl, ?_, ?_⟩, fun q => by (cases q), hnc⟩
    · exact World.ownsRow.cells h (g := g) rfl _ _ (kcells_at z n i hi).1
    · rw [← add_field _ _ 1 (by omega)]
      exact World.ownsRow.cells h (g := g) rfl _ _ (kcells_at z n i hi).2
theorem kcells_congr {z y : Nat → Int × Int} : ∀ n, (∀ i, i < n → z i = y i) → kcells z n = kcells y n
  | 0, _ => rfl
  | n + 1, h => by rw [kcells, kcells, kcells_congr n (fun i hi => h i (by omega)), h n (by omega)]
theorem KL.congr {B : Nat} {W : World} {v : Value} {n : Nat} {z y : Nat → Int × Int} (h : KL B W v n z) (e : ∀ i, i < n → y i = z i) : KL B W v n y := by
  unfold KL; rw [kcells_congr n e]; exact h
/-- One list behind the other. -/
def catF (z : Nat → Int × Int) (n : Nat) (y : Nat → Int × Int) : Nat → Int × Int := fun i => if i < n then z i else y (i - n)
theorem kcells_cat (z y : Nat → Int × Int) (n : Nat) : ∀ m, kcells z n ++ kcells y m = kcells (catF z n y) (n + m)
  | 0 => by
    rw [kcells, List.append_nil]
    exact kcells_congr n fun i hi => by unfold catF; rw [if_pos hi]
  | m + 1 => by
    rw [kcells, ← List.append_assoc, kcells_cat z y n m]
    show _ = kcells (catF z n y) (n + m) ++ [.int .i64 (catF z n y (n + m)).1, .int .i64 (catF z n y (n + m)).2]
    congr 1
    have e : catF z n y (n + m) = y m := by
      unfold catF
      rw [if_neg (by omega), Nat.add_sub_cancel_left]
    rw [e]
theorem KR.congr {W : World} {a : Option Addr} {n : Nat} {z y : Nat → Int × Int} (h : KR W a n z) (e : ∀ i, i < n → y i = z i) : KR W a n y := fun i hi => by
  rw [e i hi]; exact h i hi
theorem kl_append {B : Nat} {W : World} {v : Value} {n m : Nat} {z y : Nat → Int × Int} (h : KL B W v n z) (hB : B ≤ W.heap.size) (a : Option Addr) (cap : Nat) (hs : KR W a m y) (h0 : a = none → m = 0 ∧ cap = 0) (hl : n + m ≤ 10000) (ty : TypeId) :
    ∃ v' W', (Builtin.append_ #[81, 81] ty #[v, .slice a m cap]).run Tryz.prog W = .ok v' W' ∧ KL B W' v' (n + m) (catF z n y) ∧ Below B W W' ∧ W.grownBy W' v.ownBlock ∧ (v' = .slice none 0 0 → v = .slice none 0 0) := by
  obtain ⟨i1, hi, hz0, hz1, hz2⟩ := info_parts info_key
  cases a with
  | none =>
    obtain ⟨rfl, rfl⟩ := h0 rfl
    have := run_append_owned_none (P := Tryz.prog) (w := W) B 81 ty 57 i1 2 Tryz.underlying81 hi v _ _ h
    exact ⟨v, W, this, h.congr fun i hi => by unfold catF; rw [if_pos (by omega)], Below.refl _ _, World.grownBy.refl _ _, id⟩
  | some x =>
    obtain ⟨v', W', h1, h2, h3, h5⟩ := run_append_own (P := Tryz.prog) (w := W) B 81 ty 57 i1 (.agg #[.int .i64 0, .int .i64 0]) 2 16 Tryz.underlying81 hi hz0 hz1 hz2 rfl (by decide) v n (kcells z n) h x m cap (kcells y m) (kcells_len y m)
      (kcells_src hs) (kcells_one y m) (by unfold maxLen; omega) (by omega) hB
    rw [kcells_cat] at h2
    exact ⟨v', W', h1, h2, (Below.refl B W).grown h3 hB (fun j hj => (World.ownsRow.lt h j hj).1), h3, fun q => (h5.1 q).1⟩
theorem wp_run_append {P : Program} {w : World} {o : Oper} {a : Act} {K : Act → World → Prop} {Q : Exit → Act → World → Prop} (s x : Operand) (t : TypeId) (ho : o.op = .call { callee := .builtin .append, args := #[s, x], argTypes := #[t, t] }) {v u v' : Value} {w' : World} (hs : a.eval s = v) (hx : a.eval x = u)
    (hr : (Builtin.append_ #[t, t] o.type #[v, u]).run P w = .ok v' w') (h : K (a.put o.dst v') w') : o.wp P a w K Q := by
  unfold Oper.wp execOp
  simp only [ho, resolve, invoke, builtin, Sem.run_bind, Sem.run_pure, Result.andThen_ok, List.map_toArray, List.map_cons, List.map_nil, hs, hx, hr]
  exact h
theorem wpList_run_append {P : Program} {w : World} {ops : Array Oper} {rest : List Oper} {o : Oper} {a : Act} {Q : Exit → Act → World → Prop} (hgd : o.guard = none) (s x : Operand) (t : TypeId) (ho : o.op = .call { callee := .builtin .append, args := #[s, x], argTypes := #[t, t] }) {v u v' : Value} {w' : World} (hs : a.eval s = v) (hx : a.eval x = u)
    (hr : (Builtin.append_ #[t, t] o.type #[v, u]).run P w = .ok v' w') (h : wpList P ops Q rest (a.put o.dst v') w') : wpList P ops Q (o :: rest) a w :=
  wpList_plain hgd fun _ hK => wp_run_append s x t ho hs hx hr (hK _ _ h)
end Go.Proofs.YtfcgkjbifnhjjaaGreatDoor.St

namespace Go.Proofs.YtfcgkjbifnhjjaaGreatDoor.St
open Go.RowKit
set_option linter.unusedVariables false

attribute [local irreducible] Int.lt Int.le
set_option maxRecDepth 100000 in
set_option maxHeartbeats 4000000 in
theorem ksort_gen (a0 : Option Addr) (n cap : Nat) (z : Nat → Nat → Int) (w : World) (hn : n ≤ 1000000) (hx : ∀ i, i < n → ∃ x, a0 = some x ∧ w.cell? (x.add (i * 2)) = some (.int .i64 (z i 0)) ∧ w.cell? ⟨(x.add (i * 2)).block, (x.add (i * 2)).off + 1, none⟩ = some (.int .i64 (z i 1))) :
    Calls Tryz.prog 64 #[.slice a0 n cap] w fun e w' => ∃ v, e = .returned v ∧ w'.ownsRow w.heap.size 57 2 v (ksorted z n).length (flat (ksorted z n)) ∧ Below w.heap.size w w' := by
  obtain ⟨i0, hi, hz0, hz1, hz2⟩ := info_parts k_info_int
  go_enter Tryz.func64, Tryz.ntmps64
  go_wp2_with fail
  go_loopw [3, 14] (fun v i wr => ∃ k : Nat, k ≤ n ∧ i = .int .i64 (k : Int) ∧ wr.ownsRow w.heap.size 3 1 v (plN z k).length ((plN z k).map (Value.int .i64)) ∧ Below w.heap.size w wr) (fun _ i _ => n - (intOf i).toNat)
  case atStart => exact ⟨0, Nat.zero_le _, rfl, World.ownsRow_nil _ _ _ _, Below.refl _ _⟩
  case round =>
    obtain ⟨k, hk, rfl, hown, hnx⟩ := hrel
    by_cases hlt : k < n
    · have l1 : (k : Int) < (n : Int) := by omega
      have l0 : (0 : Int) ≤ (k : Int) := by omega
      obtain ⟨x, rfl, y0, y1⟩ := hx k hlt
      have z0 := (hnx.cell (cell_block_lt y0)).trans y0
      have z1 := (hnx.cell (cell_block_lt y1)).trans y1
      clear y0 y1
      go_wp2_with fail
      have hl := plN_le z k
      have b0 := hnx.size
      have s0 : wr.heap.size ≤ (wr.alloc (Obj.cells #[Value.int IntKind.i64 (z k 0), Value.int IntKind.i64 (z k 1)] 57)).heap.size := by simp
      have tb : Below wr.heap.size wr (wr.alloc (Obj.cells #[Value.int IntKind.i64 (z k 0), Value.int IntKind.i64 (z k 1)] 57)) := (Below.refl _ _).alloc (Nat.le_refl _) _
      refine (place_any (z k 0) (z k 1) _).mono ?_; rintro e w1 ⟨rfl, t1⟩
      have tb1 := tb.trans (t1.mono s0)
      have hown1 := own_below hown tb1
      have hnx1 := hnx.trans (tb1.mono b0)
      have b1 := hnx1.size
      clear tb t1 s0 hown z0 z1 tb1
      by_cases hp : 0 ≤ placeI (z k 0) (z k 1)
      · have hk1 := plN_hit z k hp
        generalize placeI (z k 0) (z k 1) = P at *
        have Hk1 := Lib.hid hk1
        clear hk1
        go_wp2_with (first
          | (at_builtin; refine wpList_append_own _ rfl _ _ 36 rfl w.heap.size 3 i0 (.int .i64 0) 1 8 Tryz.underlying36 hi hz0 hz1 hz2 rfl (by decide) _ _ _ rfl (hown1.alloc _) ⟨w1.heap.size, 0, none⟩ 1 1 [.int .i64 P] rfl rfl ?c1 ?c2 ?c3 ?c4 ?c5 ?_)
          | fail)
        case c1 =>
          intro j u hj
          match j, hj with
          | 0, hj => simp at hj; subst hj; simp [Addr.add]
        case c2 => intro u hu; simp at hu; subst hu; rfl
        case c3 => unfold maxLen; omega
        case c4 => omega
        case c5 => simp; omega
        intro v' w2 hown' hgrow _
        have R := own_push b1 hown1 hnx1 hown' hgrow
        rw [← Hk1.out] at R
        clear hown1 hnx1 hown' hgrow hnx
        go_wp2_with fail
        exact ⟨⟨k + 1, by omega, by go_num, R.1, R.2⟩, by simp [intOf]; omega⟩
      · have hk1 := plN_miss z k hp
        have hp' : decide (0 ≤ placeI (z k 0) (z k 1)) = false := decide_eq_false hp
        rw [← hk1] at hown1
        clear hk1 hl
        go_wp2_with fail
        exact ⟨⟨k + 1, by omega, by go_num, hown1, hnx1⟩, by simp [intOf]; omega⟩
    · obtain rfl : k = n := by omega
      have hl := plN_le z k
      go_wp2_with fail
      refine (sort_own (by omega) hown hnx.size).mono ?_; rintro e w1 ⟨rfl, hown1, t1⟩
      have hnx1 := hnx.trans t1
      clear hown hnx t1
      have hl1 : (srt (plN z k)).length ≤ 1000000 := by simp; omega
      go_wp2_with fail
      refine (compact_own hl1 hown1 hnx1.size).mono ?_; rintro e w2 ⟨a, c, rfl, hown2, t2⟩
      have hnx2 := hnx1.trans t2
      have hl2 := Nat.le_trans (compact_le (srt (plN z k))) hl1
      clear hown1 hnx1 t2 hl1 hl
      have hfold : Go.Lib.compact (srt (plN z k)) = ksorted z k := by rw [ksorted]
      rw [hfold] at hown2 hl2
      rw [hfold]
      clear hfold
      have hmem := ksorted_mem z k
      obtain ⟨ps, hps⟩ : ∃ ps, ps = ksorted z k := ⟨_, rfl⟩
      have Hps := Lib.hid hps
      rw [← hps] at hown2 hl2 hmem
      rw [← hps]
      clear hps
      have hcell : ∀ j, j < ps.length → ∃ b, a = some b ∧ w2.cell? (b.add j) = some (.int .i64 (ps.getD j 0)) := by
        intro j hj
        rcases hown2.2 with ⟨_, h0⟩ | ⟨g, cap', cur, e', _⟩
        · omega
        · cases e'
          refine ⟨_, rfl, hown2.cells rfl j _ ?_⟩
          simp [List.getD, List.getElem?_eq_getElem hj]
      have hB := hnx2.size
      clear hown2 hx hi hz0 hz1 hz2
      obtain ⟨i1, hi, hz0, hz1, hz2⟩ := info_parts info_key
      go_wp2_with fail
      go_loopw [7, 32] (fun v i wr => ∃ k : Nat, k ≤ ps.length ∧ i = .int .i64 (k : Int) ∧ wr.ownsRow w2.heap.size 57 2 v k (flat (ps.take k)) ∧ Below w2.heap.size w2 wr) (fun _ i _ => ps.length - (intOf i).toNat)
      case atStart => exact ⟨0, Nat.zero_le _, rfl, World.ownsRow_nil _ _ _ _, Below.refl _ _⟩
      case round =>
        obtain ⟨j, hj, rfl, hown, hnx⟩ := hrel
        by_cases hlt2 : j < ps.length
        · have l1 : (j : Int) < (ps.length : Int) := by omega
          have l0 : (0 : Int) ≤ (j : Int) := by omega
          obtain ⟨b, rfl, hb⟩ := hcell j hlt2
          have zb := (hnx.cell (cell_block_lt hb)).trans hb
          have hp := hmem (ps.getD j 0) (by simp [List.getD, List.getElem?_eq_getElem hlt2])
          have htk : flat (ps.take (j + 1)) = flat (ps.take j) ++ kcs (ps.getD j 0) := by
            rw [List.take_add_one, List.getElem?_eq_getElem hlt2, flat_app]
            simp [flat, List.getD, List.getElem?_eq_getElem hlt2]
          have Htk := Lib.hid htk
          have hat := fun W => at_any (ps.getD j 0) (by omega) W
          have Hat := Lib.hid hat
          clear hb hcell htk hat hmem
          generalize ps.getD j 0 = P at *
          go_wp2_with fail
          have hat2 := Hat.out wr
          rw [show atV P = .agg #[.int .i64 ((atK P).getD (0, 0)).1, .int .i64 ((atK P).getD (0, 0)).2] from rfl] at hat2
          rw [kcs] at Htk
          generalize ((atK P).getD (0, 0)).1 = A at *
          generalize ((atK P).getD (0, 0)).2 = C at *
          generalize (atK P).isSome = D at *
          refine hat2.mono ?_; rintro e w3 ⟨rfl, t3⟩
          have hown1 := own_below hown t3
          have hnx1 := hnx.trans (t3.mono hnx.size)
          have b3 := hnx1.size
          clear Hat hat2 hown hnx t3 zb hp
          go_wp2_with (first
            | (at_builtin; refine wpList_append_own _ rfl _ _ 81 rfl w2.heap.size 57 i1 (.agg #[.int .i64 0, .int .i64 0]) 2 16 Tryz.underlying81 hi hz0 hz1 hz2 rfl (by decide) _ _ _ rfl ((hown1.alloc _).alloc _) ⟨w3.heap.size + 1, 0, none⟩ 1 1 [.int .i64 A, .int .i64 C] rfl rfl ?c1 ?c2 ?c3 ?c4 ?c5 ?_)
            | fail)
          case c1 =>
            intro j u hj
            match j, hj with
            | 0, hj => simp at hj; subst hj; simp [Addr.add]
            | 1, hj => simp at hj; subst hj; simp [Addr.add]
          case c2 => intro u hu; simp at hu; rcases hu with rfl | rfl <;> rfl
          case c3 => unfold maxLen; omega
          case c4 => omega
          case c5 => simp; omega
          intro v' w4 hown' hgrow _
          have R := own_push2 (by simp; omega) (hown1.alloc _) (hnx1.alloc b3 _) hown' hgrow
          rw [← Htk.out] at hown'
          clear hown1 hnx1 hgrow Htk
          go_wp2_with fail
          exact ⟨⟨j + 1, by omega, by go_num, hown', R⟩, by simp [intOf]; omega⟩
        · obtain rfl : j = ps.length := by omega
          rw [List.take_length] at hown
          clear hcell hmem
          go_wp2_with fail
          go_ret
          rw [← Hps.out]
          exact ⟨_, rfl, own_mono hown hB, hnx2.trans (hnx.mono hB)⟩
theorem ksort_kr (a : Option Addr) (n cap : Nat) (z : Nat → Int × Int) (w : World) (hn : n ≤ 1000000) (h : KR w a n z) :
    Calls Tryz.prog 64 #[.slice a n cap] w fun e w' => ∃ v, e = .returned v ∧ KL w.heap.size w' v (kS z n).length (sk (kS z n)) ∧ Below w.heap.size w w' :=
  (ksort_gen a n cap (zz z) w hn h).mono fun e w' ⟨v, h1, h2, h3⟩ => ⟨v, h1, by unfold KL; rw [← flat_sk]; exact h2, h3⟩
end Go.Proofs.YtfcgkjbifnhjjaaGreatDoor.St

namespace Go.Proofs.YtfcgkjbifnhjjaaGreatDoor.St
open Go.RowKit
set_option linter.unusedVariables false

theorem kr_one {W : World} {g : Nat} {A C : Int} (h0 : W.cell? ⟨g, 0, none⟩ = some (.int .i64 A)) (h1 : W.cell? ⟨g, 1, none⟩ = some (.int .i64 C)) : KR W (some ⟨g, 0, none⟩) 1 (fun _ => (A, C)) := fun i hi => by
  obtain rfl : i = 0 := by omega
  exact ⟨⟨g, 0, none⟩, rfl, h0, h1⟩
theorem kw_one {n : Nat} {z : Nat → Int × Int} {A C : Int} (hh : kHas z n (A, C)) : kWithin (fun _ => (A, C)) 1 z n := fun i hi => lacks_no hh
end Go.Proofs.YtfcgkjbifnhjjaaGreatDoor.St
