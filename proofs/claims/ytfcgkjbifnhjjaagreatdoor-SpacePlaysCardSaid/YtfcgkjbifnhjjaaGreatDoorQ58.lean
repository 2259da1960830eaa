/- slices.AppendSeq and slices.Collect of keys. The row of the keys that a plain test says, by rising places; what key.Sort makes of a map's keys. The contracts of View.Reads and View.Foot. No condition but those written in each statement. -/
import Derived.Test.YtfcgkjbifnhjjaaGreatDoorKeysQ
import Derived.Test.YtfcgkjbifnhjjaaGreatDoorQ57
import Derived.Maps.AppendAt
import Derived.Test.YtfcgkjbifnhjjaaGreatDoorRegQ
namespace Go.Proofs.YtfcgkjbifnhjjaaGreatDoor.St
open Go.RowKit Go.Shelf
set_option linter.unusedVariables false
attribute [local go_sem] Oper.semAt_some

/-- The cells of a list of keys. -/
def kcL : List (Int × Int) → List Value
  | [] => []
  | k :: l => .int .i64 k.1 :: .int .i64 k.2 :: kcL l
theorem kcL_app (a b : List (Int × Int)) : kcL (a ++ b) = kcL a ++ kcL b := by
  induction a with
  | nil => rfl
  | cons k a ih => simp [kcL, ih]
theorem kcL_len (a : List (Int × Int)) : (kcL a).length = a.length * 2 := by
  induction a with
  | nil => rfl
  | cons k a ih => simp [kcL, ih]; omega
/-- A list of keys that is the call's own, in blocks from B on. -/
def KLs (B : Nat) (W : World) (v : Value) (l : List (Int × Int)) : Prop := W.ownsRow B 57 2 v l.length (kcL l)
theorem kcells_list (l : List (Int × Int)) : ∀ n, n ≤ l.length → kcells (fun i => l.getD i (0, 0)) n = kcL (l.take n)
  | 0, _ => by simp [kcells, kcL]
  | n + 1, h => by
    rw [kcells, kcells_list l n (by omega), List.take_succ_eq_append_getElem (by omega), kcL_app]
    have e : l.getD n (0, 0) = l[n] := by simp [List.getD, List.getElem?_eq_getElem (show n < l.length by omega)]
    rw [e]; rfl
theorem KLs.kl {B : Nat} {W : World} {v : Value} {l : List (Int × Int)} (h : KLs B W v l) : KL B W v l.length (fun i => l.getD i (0, 0)) := by
  unfold KL
  rw [kcells_list l _ (Nat.le_refl _), List.take_length]
  exact h

theorem KLs.below {B : Nat} {W W' : World} {v : Value} {l : List (Int × Int)} (h : KLs B W v l) (hb : Below W.heap.size W W') : KLs B W' v l := by
  refine ⟨h.1, ?_⟩
  rcases h.2 with q | ⟨g, cap, cur, h1, h2, h3, h4⟩
  · exact Or.inl q
  · exact Or.inr ⟨g, cap, cur, h1, h2, (hb.block g (lt_of_heap h3)).trans h3, h4⟩
theorem KLs.mono {B C : Nat} {W : World} {v : Value} {l : List (Int × Int)} (h : KLs B W v l) (hc : C ≤ B) : KLs C W v l := own_mono h hc
theorem news2 (W : World) (A C : Int) : ∀ j u, [Value.int .i64 A, .int .i64 C][j]? = some u → (W.alloc (.cells #[.int .i64 A, .int .i64 C] 57)).cell? ((⟨W.heap.size, 0, none⟩ : Addr).add j) = some u := by
  intro j u hj
  have h0 : (W.alloc (.cells #[.int .i64 A, .int .i64 C] 57)).cell? ⟨W.heap.size, 0, none⟩ = some (.int .i64 A) := cell_of_row _ _ 0 _ _ _ (heap_alloc_new _ _)
  have h1 : (W.alloc (.cells #[.int .i64 A, .int .i64 C] 57)).cell? ⟨W.heap.size, 1, none⟩ = some (.int .i64 C) := cell_of_row _ _ 1 _ _ _ (heap_alloc_new _ _)
  match j, hj with
  | 0, hj => simp at hj; subst hj; exact h0
  | 1, hj => simp at hj; subst hj; exact h1
theorem ones2 (A C : Int) : ∀ u ∈ [Value.int .i64 A, .int .i64 C], u.oneCell' = true := by
  intro u hu; simp at hu; rcases hu with rfl | rfl <;> rfl
set_option maxRecDepth 100000 in
set_option maxHeartbeats 2000000 in
theorem appseq_in (F : Fence) (n : Nat) (hF : F.fn 97) (hro : F.round = none) (hn : 3 ≤ n) (gf : Nat) (lb : Array Value) (hFg : F.fn gf) (eg : ∀ args w, (callFunc gf args).run Tryz.prog w = .ok (.enter gf args) w)
    (S Sp : List (Int × Int) → Prop) (N : Nat) (B : Nat) (v0 : Value) (L : List (Int × Int)) (w : World) (hB : B ≤ w.heap.size) (hL : L.length + N ≤ 100000) (hv : KLs B w v0 L)
    (hseq : SeqStops F (n - 1) Tryz.prog gf lb kV S Sp N w) :
    CallsIn F n Tryz.prog 97 #[v0, .func (.func gf) #[] lb] w fun e w' => ∃ v ks, e = .returned v ∧ S ks ∧ KLs B w' v (L ++ ks) ∧ Below B w w' := by
  have h1 : 1 ≤ n := by omega
  obtain ⟨i1, hi, hz0, hz1, hz2⟩ := info_parts info_key
  refine callsIn_of_wp_marks Tryz.func97 rfl hF ?_ hro
  simp only [Tryz.ntmps97, List.size_toArray, List.length_cons, List.length_nil, Nat.reduceAdd, Nat.reduceSub, Array.replicate_succ, Array.replicate_zero, List.push_toArray, List.append_toArray, List.nil_append, List.cons_append]
  obtain ⟨a0, c0, rfl, _⟩ := hv.kl.kr
  gi_wp2
  refine wpIn_rangeFunc_ownH (encs := fun x => #[kV x]) (Kp := KeepsWalks) hro h1 (gf := gf) (lb := lb) rfl hFg eg (w0 := w) (S := S) (Sp := Sp) (N := N) hseq walksK_t walksK_b ((Below.refl _ w).alloc (Nat.le_refl _) _) (fun _ => rfl)
    (fun pre W => (∃ v, Boxed W w.heap.size 81 v ∧ W.ownsRow B 57 2 v (L ++ pre).length (kcL (L ++ pre)) ∧ True) ∧ Below B w W)
    (fun _ _ _ => False)
    (OwnFrom.and (Own.from (holdsRow_own B w.heap.size 81 57 2 (fun pre => (L ++ pre).length) (fun pre => kcL (L ++ pre)) (fun _ _ => True)) _) (ownFrom_below hB (by simp; omega)))
    (fun _ _ _ _ _ hs _ _ => hs)
    ⟨⟨_, Boxed.new _ _ _, by rw [List.append_nil]; exact World.ownsRow.alloc hv _, trivial⟩, (Below.refl _ w).alloc hB _⟩
    (fun x a' W => ∃ Bx, w.heap.size < Bx ∧ W.heap[Bx]? = some (.cells #[.int .i64 x.1, .int .i64 x.2] 57 (0, 0)) ∧ a' = { tmps := #[Value.slice a0 L.length c0, Value.func (Fn.func gf) #[] lb, Value.pointer (some { block := w.heap.size, off := 0 }), undef, Value.slice none 0 0, .pointer (some ⟨Bx, 0, none⟩), Value.func (Fn.func gf) #[] lb, kV x, undef, undef, undef, undef, undef], defers := [] })
    ?hAx ?assign ?body ?done ?stop
  case hAx =>
    rintro x a' s W W' row ⟨Bx, h0, hh, e⟩ hg hr
    refine ⟨Bx, h0, (hg.block Bx (lt_of_heap hh) (fun q => ?_)).trans hh, e⟩
    obtain ⟨_, o, ho, hc⟩ := hr Bx q.symm
    rw [hh] at ho; cases ho; cases hc
  case assign =>
    rintro l pre x W K ⟨⟨v, hb, hr, _⟩, hbw⟩ hK
    gi_wp2
    exact hK _ _ ((KeepsOthers.alloc _ _).from _) (KeepsWalks.alloc _ _) ⟨⟨v, hb.alloc _, hr.alloc _, trivial⟩, hbw.alloc (Nat.le_trans hB hbw.size) _⟩ ⟨W.heap.size, hb.lt, heap_alloc_new _ _, rfl⟩
  case body =>
    rintro l pre x a' W hl ⟨r, hr⟩ ⟨⟨v, hb, hrow, _⟩, hbw⟩ ⟨Bx, hBx, hxc, rfl⟩ hlt
    have x0 : W.cell? ⟨Bx, 0, none⟩ = some (.int .i64 x.1) := cell_of_row _ _ 0 _ _ _ hxc
    have x1 : W.cell? ⟨Bx, 1, none⟩ = some (.int .i64 x.2) := cell_of_row _ _ 1 _ _ _ hxc
    have hc := hb.cell
    have hf := hb.frozen
    have hll : (L ++ pre).length ≤ 100000 := by rw [List.length_append]; simp at hl; omega
    have hl1 : (L ++ pre).length + 1 ≤ maxLen := by unfold maxLen; omega
    have hl2 : ((L ++ pre).length + 1) * 16 ≤ 140737488355328 := by omega
    have hl3 : B ≤ (W.alloc (.cells #[.int .i64 x.1, .int .i64 x.2] 57)).heap.size := by simp; have := hbw.size; omega
    gi_wp2_with (first
      | (gi_at_builtin; refine wpListIn_append_own _ rfl _ _ 81 rfl B 57 i1 (.agg #[.int .i64 0, .int .i64 0]) 2 16 Tryz.underlying81 hi hz0 hz1 hz2 rfl (by decide) _ _ _ rfl (hrow.alloc _) ⟨W.heap.size, 0, none⟩ 1 1 [.int .i64 x.1, .int .i64 x.2] rfl rfl (news2 _ _ _) (ones2 _ _) hl1 hl2 hl3 ?_; intro v' w1 hown' hgrow _; obtain ⟨g', cap', rfl⟩ := ownsRow_succ hown'; obtain ⟨hv1, hv2, hr2, hk2, hb2⟩ := hb.appended (by decide) hrow (Nat.le_trans hB hbw.size) hB hown' hgrow; have hc1 := hv1.cell; have hf1 := hv1.frozen)
      | gi_in)
    rw [List.length_append] at hk2 hv2 hr2 hb2
    refine ⟨hk2.from _, ⟨hk2.size, fun k o hk ho => hk2.same k o hk (by cases o <;> first | rfl | cases ho)⟩, ⟨_, hv2, ?_, trivial⟩, hbw.trans hb2⟩
    rw [show L ++ (pre ++ [x]) = (L ++ pre) ++ [x] from (List.append_assoc ..).symm, kcL_app, show ((L ++ pre) ++ [x]).length = L.length + pre.length + 1 by simp; omega]
    exact hr2
  case stop => rintro D c pre W _ _ h _; exact h.elim
  case done =>
    rintro D ks W hD hS ⟨⟨v, hb, hrow, _⟩, hbw⟩ hK
    have hc := hb.cell
    obtain ⟨a1, c1, rfl, _⟩ := KL.kr (KLs.kl (show KLs B W v (L ++ ks) from hrow))
    gi_wp2
    refine ⟨by simp, .inl ⟨_, _, rfl, run_takeDeferred hK, ?_⟩⟩
    refine ⟨_, results_tmp rfl _ _ _, _, ks, rfl, hS, ?_, hbw.grown (grownBy_putObj' _ D _) (Nat.le_trans hB hbw.size) (fun k e => by cases e; simp at hD; omega)⟩
    show KLs B _ (Value.slice a1 (L.length + ks.length) c1) (L ++ ks)
    unfold KLs
    rw [List.length_append] at hrow ⊢
    exact ownsRow_putObj hrow _ hK rfl
/-- slices.Collect of an iterator's keys. -/
theorem collect_any (gf : Nat) (lb : Array Value) (eg : ∀ args w, (callFunc gf args).run Tryz.prog w = .ok (.enter gf args) w) (S Sp : List (Int × Int) → Prop) (N : Nat) (hN : N ≤ 100000) (w : World) (hseq : SeqStops Fence.wide 2 Tryz.prog gf lb kV S Sp N w) :
    Calls Tryz.prog 65 #[.func (.func gf) #[] lb] w fun e w' => ∃ v ks, e = .returned v ∧ S ks ∧ KLs w.heap.size w' v ks ∧ Below w.heap.size w w' := by
  have h := appseq_in Fence.wide 3 trivial rfl (by decide) gf lb trivial eg S Sp N w.heap.size (.slice none 0 0) [] w (Nat.le_refl _) (by simpa using hN) (World.ownsRow_nil _ _ _ _) hseq
  rw [callsIn_wide] at h
  have H := Lib.hid h
  clear h hseq eg
  go_enter Tryz.func65, Tryz.ntmps65
  go_wp2_with fail
  refine H.out.mono ?_; rintro e w1 ⟨v, ks, rfl, hS, hk, hb⟩
  obtain ⟨a1, c1, rfl, _⟩ := KL.kr (KLs.kl hk)
  go_wp2_with fail
  go_ret
  exact ⟨_, ks, rfl, hS, hk, hb⟩
end Go.Proofs.YtfcgkjbifnhjjaaGreatDoor.St

namespace Go.Proofs.YtfcgkjbifnhjjaaGreatDoor.St
open Go.RowKit
set_option linter.unusedVariables false

theorem rise_from : ∀ (l : List Int) (a : Int), l.Pairwise (· < ·) → (∀ p ∈ l, a ≤ p ∧ p < 55) → (l.length : Int) ≤ max (55 - a) 0
  | [], a, _, _ => by simp; omega
  | x :: l, a, hr, h => by
    have h1 := List.pairwise_cons.1 hr
    have := rise_from l (x + 1) h1.2 (fun p hp => ⟨by have := h1.1 p hp; omega, (h p (List.mem_cons_of_mem _ hp)).2⟩)
    have hx := h x (List.mem_cons_self ..)
    rw [List.length_cons]
    omega
theorem rise_len (l : List Int) (hr : l.Pairwise (· < ·)) (h : ∀ p ∈ l, 0 ≤ p ∧ p < 55) : l.length ≤ 55 := by
  have := rise_from l 0 hr h
  omega
/-- The key at a place. -/
def keyP (p : Int) : Int × Int := (atK p).getD (0, 0)
/-- The places, rising, whose keys h says. -/
def plF (h : Int → Int → Bool) : List Int := ((List.range 55).filter fun (p : Nat) => h (keyP p).1 (keyP p).2).map fun (p : Nat) => (p : Int)
theorem place_keyP (p : Nat) (h : p < 55) : placeI (keyP p).1 (keyP p).2 = (p : Int) := (k_row_at p h).2
theorem keyP_place (k m : Int) (h : 0 ≤ placeI k m) : keyP (placeI k m) = (k, m) := key_of_place k m h
theorem plF_mem (h : Int → Int → Bool) (p : Int) : p ∈ plF h ↔ 0 ≤ p ∧ p < 55 ∧ h (keyP p).1 (keyP p).2 = true := by
  unfold plF
  simp only [List.mem_map, List.mem_filter, List.mem_range]
  constructor
  · rintro ⟨q, ⟨h1, h2⟩, rfl⟩
    exact ⟨by omega, by omega, h2⟩
  · rintro ⟨h0, h1, h2⟩
    obtain ⟨q, rfl⟩ := Int.eq_ofNat_of_zero_le h0
    exact ⟨q, ⟨by omega, h2⟩, rfl⟩
theorem plF_rises (h : Int → Int → Bool) : (plF h).Pairwise (· < ·) := by
  unfold plF
  rw [List.pairwise_map]
  refine List.Pairwise.imp (R := fun a b : Nat => a < b) (fun h => by omega) ?_
  exact (List.pairwise_lt_range (n := 55)).filter _
theorem plF_lt (h : Int → Int → Bool) : ∀ p ∈ plF h, 0 ≤ p ∧ p < 55 := fun p hp => by
  have := (plF_mem h p).1 hp; omega
theorem plF_congr {h h' : Int → Int → Bool} (e : ∀ k n, 0 ≤ placeI k n → h k n = h' k n) : plF h = plF h' :=
  rise_eq _ _ (plF_rises h) (plF_rises h') fun p => by
    rw [plF_mem, plF_mem]
    constructor
    · rintro ⟨a, b, c⟩
      obtain ⟨q, rfl⟩ := Int.eq_ofNat_of_zero_le a
      have := place_keyP q (by omega)
      exact ⟨a, b, by rw [← e _ _ (by rw [this]; omega)]; exact c⟩
    · rintro ⟨a, b, c⟩
      obtain ⟨q, rfl⟩ := Int.eq_ofNat_of_zero_le a
      have := place_keyP q (by omega)
      exact ⟨a, b, by rw [e _ _ (by rw [this]; omega)]; exact c⟩
theorem kS_plF (ks : List (Int × Int)) (h : Int → Int → Bool) (e : ∀ k n, 0 ≤ placeI k n → (h k n = true ↔ (k, n) ∈ ks)) : kS (fun i => ks.getD i (0, 0)) ks.length = plF h :=
  rise_eq _ _ (kS_rises _ _) (plF_rises h) fun p => by
    rw [kS_iff, plF_mem]
    constructor
    · rintro ⟨h0, i, hi, rfl⟩
      have hg : ks.getD i (0, 0) = ks[i] := by simp [List.getD, List.getElem?_eq_getElem hi]
      rw [hg] at h0 ⊢
      refine ⟨h0, k_place_lt _ _ h0, ?_⟩
      rw [keyP_place _ _ h0]
      exact (e _ _ h0).2 (List.getElem_mem hi)
    · rintro ⟨h0, h1, h2⟩
      obtain ⟨q, rfl⟩ := Int.eq_ofNat_of_zero_le h0
      have hp := place_keyP q (by omega)
      have hm := (e _ _ (by rw [hp]; omega)).1 h2
      obtain ⟨i, hi, hk⟩ := List.getElem_of_mem hm
      have hg : ks.getD i (0, 0) = ks[i] := by simp [List.getD, List.getElem?_eq_getElem hi]
      refine ⟨h0, i, hi, ?_⟩
      rw [hg, hk]; exact hp
/-- A list of keys that are objects, each once, is no longer than the row. -/
theorem keys_len (ks : List (Int × Int)) (hn : ks.Nodup) (hp : ∀ k ∈ ks, 0 ≤ placeI k.1 k.2) : ks.length ≤ 55 := by
  have h := nodup_len (ks.map fun k => (placeI k.1 k.2).toNat) (List.range 55) (by
    rw [List.nodup_iff_pairwise_ne, List.pairwise_map]
    refine (List.nodup_iff_pairwise_ne.1 hn).imp_of_mem fun {a b} ha hb hne q => hne ?_
    have e : placeI a.1 a.2 = placeI b.1 b.2 := by have := hp a ha; have := hp b hb; omega
    have h1 := keyP_place _ _ (hp a ha)
    have h2 := keyP_place _ _ (hp b hb)
    rw [e, h2] at h1
    exact h1.symm) (fun x hx => by
    obtain ⟨k, hk, rfl⟩ := List.mem_map.1 hx
    have := k_place_lt _ _ (hp k hk)
    have := hp k hk
    rw [List.mem_range]; omega)
  simpa using h

/-- What was read and written are objects; what was read is true. -/
structure VOk (st : VSt) : Prop where
  rd : ∀ k n v, st.rd k n = some v → 0 ≤ placeI k n ∧ v = .bool true
  wr : ∀ k n v, st.wr k n = some v → 0 ≤ placeI k n
theorem VOk.fresh (base : Nat → Val) : VOk (VSt.fresh base) := ⟨fun k n v h => (by cases h), fun k n v h => (by cases h)⟩
theorem VOk.saw {st : VSt} (h : VOk st) (k n : Int) : VOk (st.saw k n) := by
  unfold VSt.saw
  split
  · exact h
  · rename_i hp
    refine ⟨fun a b v hv => ?_, h.wr⟩
    unfold VSt.reads updK at hv
    simp only at hv
    split at hv
    · rename_i c; obtain ⟨rfl, rfl⟩ := c
      exact ⟨by omega, by cases hv; rfl⟩
    · exact h.rd a b v hv
theorem VOk.put {st : VSt} (h : VOk st) (k n : Int) (x : Val) : VOk (st.put k n x) := by
  unfold VSt.put
  split
  · exact h
  · rename_i hp
    refine ⟨h.rd, fun a b v hv => ?_⟩
    unfold updV at hv
    simp only at hv
    split at hv
    · rename_i c; obtain ⟨rfl, rfl⟩ := c; omega
    · exact h.wr a b v hv
/-- The places that were read; written; either. -/
def rdP (st : VSt) : List Int := plF fun k n => (st.rd k n).isSome
def wrP (st : VSt) : List Int := plF fun k n => (st.wr k n).isSome
def ftP (st : VSt) : List Int := plF fun k n => (st.rd k n).isSome || (st.wr k n).isSome
theorem es_len {es : Array MapEntry} {clk : Nat} {f : Int → Int → Option Value} (hk : KM es clk f) (hp : ∀ k n v, f k n = some v → 0 ≤ placeI k n) : es.size ≤ 55 := by
  have h1 : (es.toList.map kOf).Nodup := by
    rw [List.nodup_iff_pairwise_ne, List.pairwise_map]
    refine (List.nodup_iff_pairwise_ne.1 ?_).imp_of_mem fun hx hy hne q => hne (hk.inj hx hy q)
    have := hk.born.nodup
    rw [List.nodup_iff_pairwise_ne, List.pairwise_map] at this
    rw [List.nodup_iff_pairwise_ne]
    exact this.imp fun q e => q (by rw [e])
  have h2 := keys_len _ h1 fun k hk' => by
    obtain ⟨e, he, rfl⟩ := List.mem_map.1 hk'
    exact hp _ _ _ (hk.at he).2
  simpa using h2
end Go.Proofs.YtfcgkjbifnhjjaaGreatDoor.St

namespace Go.Proofs.YtfcgkjbifnhjjaaGreatDoor.St
open Go.RowKit Go.Shelf
set_option linter.unusedVariables false

theorem egR : ∀ args w, (callFunc 110 args).run Tryz.prog w = .ok (.enter 110 args) w := enters_of Tryz.func110 (by kernel_rfl) rfl
theorem egW : ∀ args w, (callFunc 98 args).run Tryz.prog w = .ok (.enter 98 args) w := enters_of Tryz.func98 (by kernel_rfl) rfl
theorem KeysOf.len {f : Int → Int → Option Value} {ks : List (Int × Int)} (h : KeysOf f ks) (hp : ∀ k n v, f k n = some v → 0 ≤ placeI k n) : ks.length ≤ 55 := keys_len ks h.1 fun k hk => by
  obtain ⟨v, hv⟩ := Option.isSome_iff_exists.1 ((h.2 k).1 hk)
  exact hp _ _ _ hv
/-- The keys read, collected. -/
theorem ckeysR (b : Nat) (es : Array MapEntry) (clk : Nat) (f : Int → Int → Option Value) (hk : KM es clk f) (hp : ∀ k n v, f k n = some v → 0 ≤ placeI k n) (Bm : Nat) (w : World) (hm : w.cell? ⟨Bm, 0, none⟩ = some (.map (some b))) (hb : w.heap[b]? = some (.map es clk)) :
    Calls Tryz.prog 65 #[.func (.func 110) #[] #[.pointer (some ⟨Bm, 0, none⟩)]] w fun e w' => ∃ v ks, e = .returned v ∧ KeysOf f ks ∧ KLs w.heap.size w' v ks ∧ Below w.heap.size w w' :=
  collect_any _ _ egR (KeysOf f) (fun _ => True) es.size (by have := es_len hk hp; omega) w (keysR_stops Fence.wide 2 trivial rfl (by decide) Bm b es clk f hk w hm hb)
theorem ckeysW (b : Nat) (es : Array MapEntry) (clk : Nat) (f : Int → Int → Option Value) (hk : KM es clk f) (hp : ∀ k n v, f k n = some v → 0 ≤ placeI k n) (Bm : Nat) (w : World) (hm : w.cell? ⟨Bm, 0, none⟩ = some (.map (some b))) (hb : w.heap[b]? = some (.map es clk)) :
    Calls Tryz.prog 65 #[.func (.func 98) #[] #[.pointer (some ⟨Bm, 0, none⟩)]] w fun e w' => ∃ v ks, e = .returned v ∧ KeysOf f ks ∧ KLs w.heap.size w' v ks ∧ Below w.heap.size w w' :=
  collect_any _ _ egW (KeysOf f) (fun _ => True) es.size (by have := es_len hk hp; omega) w (keysW_stops Fence.wide 2 trivial rfl (by decide) Bm b es clk f hk w hm hb)
theorem kls_sort {B : Nat} {W : World} {v : Value} {ks : List (Int × Int)} {h : Int → Int → Bool} (hk : KLs B W v ks) (hl : ks.length ≤ 1000000) (e : ∀ k n, 0 ≤ placeI k n → (h k n = true ↔ (k, n) ∈ ks)) :
    Calls Tryz.prog 64 #[v] W fun e w' => ∃ v, e = .returned v ∧ KL W.heap.size w' v (plF h).length (sk (plF h)) ∧ Below W.heap.size W w' := by
  obtain ⟨a, c, rfl, h1, _⟩ := hk.kl.kr
  have := ksort_kr a ks.length c _ W hl h1
  rw [kS_plF ks h e] at this
  exact this
theorem appseqW (b : Nat) (es : Array MapEntry) (clk : Nat) (f : Int → Int → Option Value) (hk : KM es clk f) (hp : ∀ k n v, f k n = some v → 0 ≤ placeI k n) (Bm B : Nat) (v0 : Value) (l : List (Int × Int)) (w : World) (hB : B ≤ w.heap.size) (hl : l.length ≤ 1000) (hv : KLs B w v0 l) (hm : w.cell? ⟨Bm, 0, none⟩ = some (.map (some b))) (hb : w.heap[b]? = some (.map es clk)) :
    Calls Tryz.prog 97 #[v0, .func (.func 98) #[] #[.pointer (some ⟨Bm, 0, none⟩)]] w fun e w' => ∃ v ks, e = .returned v ∧ KeysOf f ks ∧ KLs B w' v (l ++ ks) ∧ Below B w w' := by
  have h := appseq_in Fence.wide 3 trivial rfl (by decide) _ _ trivial egW (KeysOf f) (fun _ => True) es.size B v0 l w hB (by have := es_len hk hp; omega) hv (keysW_stops Fence.wide 2 trivial rfl (by decide) Bm b es clk f hk w hm hb)
  rwa [callsIn_wide] at h
abbrev VF (w : World) (L : Lay) (W : World) : Prop := W.cell? ⟨L.v, 1, none⟩ = some (.map (some L.r)) ∧ W.cell? ⟨L.v, 2, none⟩ = some (.map (some L.m)) ∧ Below w.heap.size w W
theorem VF.below {w : World} {L : Lay} {W W' : World} (hs : L.v < w.heap.size) (h : VF w L W) (hb : Below w.heap.size W W') : VF w L W' :=
  ⟨(hb.cell (show (⟨L.v, 1, none⟩ : Addr).block < w.heap.size from hs)).trans h.1, (hb.cell (show (⟨L.v, 2, none⟩ : Addr).block < w.heap.size from hs)).trans h.2.1, h.2.2.trans hb⟩
attribute [local irreducible] Int.lt Int.le
set_option maxRecDepth 100000 in
theorem vreads_any (L : Lay) (st : VSt) (w : World) (hV : ViewAt w L st) (hO : VOk st) :
    Calls Tryz.prog 45 #[.pointer (some ⟨L.v, 0, none⟩)] w fun e w' => ∃ v, e = .returned v ∧ KL w.heap.size w' v (rdP st).length (sk (rdP st)) ∧ Below w.heap.size w w' := by
  obtain ⟨es, clk, hb, hk⟩ := hV.cr
  have c1 := cell_of_row w L.v 1 _ _ _ hV.cv
  simp only [List.getElem?_toArray, List.getElem?_cons_succ, List.getElem?_cons_zero] at c1
  have hp := fun k n v h => (hO.rd k n v h).1
  have HP := Lib.hid hp
  clear hp
  go_enter Tryz.func45, Tryz.ntmps45
  go_wp2_with fail
  refine (mkeysR _ _).mono ?_; rintro e w1 ⟨rfl, rfl⟩
  have b1 : Below w.heap.size w (w.alloc (.cells #[.map (some L.r)] 103)) := (Below.refl _ _).alloc (Nat.le_refl _) _
  have hm1 : (w.alloc (.cells #[.map (some L.r)] 103)).cell? ⟨w.heap.size, 0, none⟩ = some (.map (some L.r)) := cell_of_row _ _ 0 _ _ _ (heap_alloc_new _ _)
  have hb1 := (b1.block L.r (lt_of_heap hb)).trans hb
  have hc := ckeysR L.r es clk _ hk HP.out w.heap.size _ hm1 hb1
  have HC := Lib.hid hc
  clear hc hm1 hb1
  go_wp2_with fail
  refine HC.out.mono ?_; rintro e w2 ⟨v, ks, rfl, hK, hks, t2⟩
  have hl := hK.len HP.out
  have hs := kls_sort (h := fun k n => (st.rd k n).isSome) hks (by omega) (fun k n _ => (hK.2 (k, n)).symm)
  have b2 := b1.trans (t2.mono b1.size)
  have HS := Lib.hid hs
  clear hs hK hks t2 b1 HC
  go_wp2_with fail
  refine HS.out.mono ?_; rintro e w3 ⟨v3, rfl, h3, t3⟩
  have b3 := b2.trans (t3.mono b2.size)
  have h4 := h3.mono b2.size
  obtain ⟨a, c, rfl, _⟩ := h3.kr
  clear t3 b2 HS
  go_wp2_with fail
  go_ret
  exact ⟨_, rfl, h4, b3⟩
end Go.Proofs.YtfcgkjbifnhjjaaGreatDoor.St
