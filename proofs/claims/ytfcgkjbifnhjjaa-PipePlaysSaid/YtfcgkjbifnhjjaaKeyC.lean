/- slices.AppendSeq and slices.Collect of keys. No condition but those written in each statement. -/
import Derived.Test.YtfcgkjbifnhjjaaKeys
import Derived.Test.YtfcgkjbifnhjjaaKeySg
import Derived.Maps.AppendAt
namespace Go.Proofs.Ytfcgkjbifnhjjaa.St
open Go.RowKit Go.Shelf
set_option linter.unusedVariables false
attribute [local go_sem] Oper.semAt_some

/-- The cells of a list of keys. -/
def kcL : List (Int × Int) → List Value
  | [] => []
  | k :: l => .int .i64 k.1 :: .int .i64 k.2 :: kcL l
theorem kcL_app (a b : List (Int × Int)) : kcL (a ++ b) = kcL a ++ kcL b := by
  induction a with
  | nil => rfl
  | cons k a ih => simp [kcL, ih]
theorem kcL_len (a : List (Int × Int)) : (kcL a).length = a.length * 2 := by
  induction a with
  | nil => rfl
  | cons k a ih => simp [kcL, ih]; omega
/-- A list of keys that is the call's own, in blocks from B on. -/
def KLs (B : Nat) (W : World) (v : Value) (l : List (Int × Int)) : Prop := W.ownsRow B 51 2 v l.length (kcL l)
theorem kcells_list (l : List (Int × Int)) : ∀ n, n ≤ l.length → kcells (fun i => l.getD i (0, 0)) n = kcL (l.take n)
  | 0, _ => by simp [kcells, kcL]
  | n + 1, h => by
    rw [kcells, kcells_list l n (by omega), List.take_succ_eq_append_getElem (by omega), kcL_app]
    have e : l.getD n (0, 0) = l[n] := by simp [List.getD, List.getElem?_eq_getElem (show n < l.length by omega)]
    rw [e]; rfl
theorem KLs.kl {B : Nat} {W : World} {v : Value} {l : List (Int × Int)} (h : KLs B W v l) : KL B W v l.length (fun i => l.getD i (0, 0)) := by
  unfold KL
  rw [kcells_list l _ (Nat.le_refl _), List.take_length]
  exact h

theorem KLs.below {B : Nat} {W W' : World} {v : Value} {l : List (Int × Int)} (h : KLs B W v l) (hb : Below W.heap.size W W') : KLs B W' v l := by
  refine ⟨h.1, ?_⟩
  rcases h.2 with q | ⟨g, cap, cur, h1, h2, h3, h4⟩
  · exact Or.inl q
  · exact Or.inr ⟨g, cap, cur, h1, h2, (hb.block g (lt_of_heap h3)).trans h3, h4⟩
theorem KLs.mono {B C : Nat} {W : World} {v : Value} {l : List (Int × Int)} (h : KLs B W v l) (hc : C ≤ B) : KLs C W v l := own_mono h hc
theorem news2 (W : World) (A C : Int) : ∀ j u, [Value.int .i64 A, .int .i64 C][j]? = some u → (W.alloc (.cells #[.int .i64 A, .int .i64 C] 51)).cell? ((⟨W.heap.size, 0, none⟩ : Addr).add j) = some u := by
  intro j u hj
  have h0 : (W.alloc (.cells #[.int .i64 A, .int .i64 C] 51)).cell? ⟨W.heap.size, 0, none⟩ = some (.int .i64 A) := cell_of_row _ _ 0 _ _ _ (heap_alloc_new _ _)
  have h1 : (W.alloc (.cells #[.int .i64 A, .int .i64 C] 51)).cell? ⟨W.heap.size, 1, none⟩ = some (.int .i64 C) := cell_of_row _ _ 1 _ _ _ (heap_alloc_new _ _)
  match j, hj with
  | 0, hj => simp at hj; subst hj; exact h0
  | 1, hj => simp at hj; subst hj; exact h1
theorem ones2 (A C : Int) : ∀ u ∈ [Value.int .i64 A, .int .i64 C], u.oneCell' = true := by
  intro u hu; simp at hu; rcases hu with rfl | rfl <;> rfl
set_option maxRecDepth 100000 in
set_option maxHeartbeats 2000000 in
theorem appseq_in (F : Fence) (n : Nat) (hF : F.fn 80) (hro : F.round = none) (hn : 3 ≤ n) (gf : Nat) (lb : Array Value) (hFg : F.fn gf) (eg : ∀ args w, (callFunc gf args).run Try.prog w = .ok (.enter gf args) w)
    (S Sp : List (Int × Int) → Prop) (N : Nat) (B : Nat) (v0 : Value) (L : List (Int × Int)) (w : World) (hB : B ≤ w.heap.size) (hL : L.length + N ≤ 100000) (hv : KLs B w v0 L)
    (hseq : SeqStops F (n - 1) Try.prog gf lb kV S Sp N w) :
    CallsIn F n Try.prog 80 #[v0, .func (.func gf) #[] lb] w fun e w' => ∃ v ks, e = .returned v ∧ S ks ∧ KLs B w' v (L ++ ks) ∧ Below B w w' := by
  have h1 : 1 ≤ n := by omega
  obtain ⟨i1, hi, hz0, hz1, hz2⟩ := info_parts info_key
  refine callsIn_of_wp_marks Try.func80 rfl hF ?_ hro
  simp only [Try.ntmps80, List.size_toArray, List.length_cons, List.length_nil, Nat.reduceAdd, Nat.reduceSub, Array.replicate_succ, Array.replicate_zero, List.push_toArray, List.append_toArray, List.nil_append, List.cons_append]
  obtain ⟨a0, c0, rfl, _⟩ := hv.kl.kr
  gi_wp2
  refine wpIn_rangeFunc_ownH (encs := fun x => #[kV x]) (Kp := KeepsWalks) hro h1 (gf := gf) (lb := lb) rfl hFg eg (w0 := w) (S := S) (Sp := Sp) (N := N) hseq walksK_t walksK_b ((Below.refl _ w).alloc (Nat.le_refl _) _) (fun _ => rfl)
    (fun pre W => (∃ v, Boxed W w.heap.size 91 v ∧ W.ownsRow B 51 2 v (L ++ pre).length (kcL (L ++ pre)) ∧ True) ∧ Below B w W)
    (fun _ _ _ => False)
    (OwnFrom.and (Own.from (holdsRow_own B w.heap.size 91 51 2 (fun pre => (L ++ pre).length) (fun pre => kcL (L ++ pre)) (fun _ _ => True)) _) (ownFrom_below hB (by simp; omega)))
    (fun _ _ _ _ _ hs _ _ => hs)
    ⟨⟨_, Boxed.new _ _ _, by rw [List.append_nil]; exact World.ownsRow.alloc hv _, trivial⟩, (Below.refl _ w).alloc hB _⟩
    (fun x a' W => ∃ Bx, w.heap.size < Bx ∧ W.heap[Bx]? = some (.cells #[.int .i64 x.1, .int .i64 x.2] 51 (0, 0)) ∧ a' = { tmps := #[Value.slice a0 L.length c0, Value.func (Fn.func gf) #[] lb, Value.pointer (some { block := w.heap.size, off := 0 }), undef, Value.slice none 0 0, .pointer (some ⟨Bx, 0, none⟩), Value.func (Fn.func gf) #[] lb, kV x, undef, undef, undef, undef, undef], defers := [] })
    ?hAx ?assign ?body ?done ?stop
  case hAx =>
    rintro x a' s W W' row ⟨Bx, h0, hh, e⟩ hg hr
    refine ⟨Bx, h0, (hg.block Bx (lt_of_heap hh) (fun q => ?_)).trans hh, e⟩
    obtain ⟨_, o, ho, hc⟩ := hr Bx q.symm
    rw [hh] at ho; cases ho; cases hc
  case assign =>
    rintro l pre x W K ⟨⟨v, hb, hr, _⟩, hbw⟩ hK
    gi_wp2
    exact hK _ _ ((KeepsOthers.alloc _ _).from _) (KeepsWalks.alloc _ _) ⟨⟨v, hb.alloc _, hr.alloc _, trivial⟩, hbw.alloc (Nat.le_trans hB hbw.size) _⟩ ⟨W.heap.size, hb.lt, heap_alloc_new _ _, rfl⟩
  case body =>
    rintro l pre x a' W hl ⟨r, hr⟩ ⟨⟨v, hb, hrow, _⟩, hbw⟩ ⟨Bx, hBx, hxc, rfl⟩ hlt
    have x0 : W.cell? ⟨Bx, 0, none⟩ = some (.int .i64 x.1) := cell_of_row _ _ 0 _ _ _ hxc
    have x1 : W.cell? ⟨Bx, 1, none⟩ = some (.int .i64 x.2) := cell_of_row _ _ 1 _ _ _ hxc
    have hc := hb.cell
    have hf := hb.frozen
    have hll : (L ++ pre).length ≤ 100000 := by rw [List.length_append]; simp at hl; omega
    have hl1 : (L ++ pre).length + 1 ≤ maxLen := by unfold maxLen; omega
    have hl2 : ((L ++ pre).length + 1) * 16 ≤ 140737488355328 := by omega
    have hl3 : B ≤ (W.alloc (.cells #[.int .i64 x.1, .int .i64 x.2] 51)).heap.size := by simp; have := hbw.size; omega
    gi_wp2_with (first
      | (gi_at_builtin; refine wpListIn_append_own _ rfl _ _ 91 rfl B 51 i1 (.agg #[.int .i64 0, .int .i64 0]) 2 16 Try.underlying91 hi hz0 hz1 hz2 rfl (by decide) _ _ _ rfl (hrow.alloc _) ⟨W.heap.size, 0, none⟩ 1 1 [.int .i64 x.1, .int .i64 x.2] rfl rfl (news2 _ _ _) (ones2 _ _) hl1 hl2 hl3 ?_; intro v' w1 hown' hgrow _; obtain ⟨g', cap', rfl⟩ := ownsRow_succ hown'; obtain ⟨hv1, hv2, hr2, hk2, hb2⟩ := hb.appended (by decide) hrow (Nat.le_trans hB hbw.size) hB hown' hgrow; have hc1 := hv1.cell; have hf1 := hv1.frozen)
      | gi_in)
    rw [List.length_append] at hk2 hv2 hr2 hb2
    refine ⟨hk2.from _, ⟨hk2.size, fun k o hk ho => hk2.same k o hk (by cases o <;> first | rfl | cases ho)⟩, ⟨_, hv2, ?_, trivial⟩, hbw.trans hb2⟩
    rw [show L ++ (pre ++ [x]) = (L ++ pre) ++ [x] from (List.append_assoc ..).symm, kcL_app, show ((L ++ pre) ++ [x]).length = L.length + pre.length + 1 by simp; omega]
    exact hr2
  case stop => rintro D c pre W _ _ h _; exact h.elim
  case done =>
    rintro D ks W hD hS ⟨⟨v, hb, hrow, _⟩, hbw⟩ hK
    have hc := hb.cell
    obtain ⟨a1, c1, rfl, _⟩ := KL.kr (KLs.kl (show KLs B W v (L ++ ks) from hrow))
    gi_wp2
    refine ⟨by simp, .inl ⟨_, _, rfl, run_takeDeferred hK, ?_⟩⟩
    refine ⟨_, results_tmp rfl _ _ _, _, ks, rfl, hS, ?_, hbw.grown (grownBy_putObj' _ D _) (Nat.le_trans hB hbw.size) (fun k e => by cases e; simp at hD; omega)⟩
    show KLs B _ (Value.slice a1 (L.length + ks.length) c1) (L ++ ks)
    unfold KLs
    rw [List.length_append] at hrow ⊢
    exact ownsRow_putObj hrow _ hK rfl
/-- slices.Collect of an iterator's keys. -/
theorem collect_any (gf : Nat) (lb : Array Value) (eg : ∀ args w, (callFunc gf args).run Try.prog w = .ok (.enter gf args) w) (S Sp : List (Int × Int) → Prop) (N : Nat) (hN : N ≤ 100000) (w : World) (hseq : SeqStops Fence.wide 2 Try.prog gf lb kV S Sp N w) :
    Calls Try.prog 69 #[.func (.func gf) #[] lb] w fun e w' => ∃ v ks, e = .returned v ∧ S ks ∧ KLs w.heap.size w' v ks ∧ Below w.heap.size w w' := by
  have h := appseq_in Fence.wide 3 trivial rfl (by decide) gf lb trivial eg S Sp N w.heap.size (.slice none 0 0) [] w (Nat.le_refl _) (by simpa using hN) (World.ownsRow_nil _ _ _ _) hseq
  rw [callsIn_wide] at h
  have H := Lib.hid h
  clear h hseq eg
  go_enter Try.func69, Try.ntmps69
  go_wp2_with fail
  refine H.out.mono ?_; rintro e w1 ⟨v, ks, rfl, hS, hk, hb⟩
  obtain ⟨a1, c1, rfl, _⟩ := KL.kr (KLs.kl hk)
  go_wp2_with fail
  go_ret
  exact ⟨_, ks, rfl, hS, hk, hb⟩
end Go.Proofs.Ytfcgkjbifnhjjaa.St
