/- What the last loop of cloisterlaw8.StoreTwin keeps. No condition but those written in each statement. -/
import Derived.Test.YtncgppdmfnapiaaTwA
namespace Go.Proofs.Ytncgppdmfnapiaa.St
open Go.RowKit
set_option linter.unusedVariables false
theorem store_below {B : Nat} {W W' : World} {s l : Nat} {base : Nat → Val} (h : StoreAt W s l base) (hb : Below B W W') (hs : s < B) (hl : l < B) : StoreAt W' s l base :=
  ⟨by obtain ⟨cap, h0, h1⟩ := h.cs; exact ⟨cap, h0, (hb.block s hs).trans h1⟩, by obtain ⟨c, h1, h2⟩ := h.cl; exact ⟨c, (hb.block l hl).trans h1, h2⟩⟩
theorem below_setB {B b : Nat} {W W' : World} (h : Below B W W') (hb : B ≤ b) (o : Obj) : Below B W (setB W' b o) :=
  h.trans ⟨rfl, rfl, rfl, by rw [setB_size]; exact Nat.le_refl _, fun k hk => setB_other W' b k o (by omega)⟩
/-- The blocks lie apart: the view's (L), its twin's (s, l), the two maps (O: own, B: what was). -/
structure Far (w : World) (L : Lay) (s l O B : Nat) : Prop where
  lw : w.heap.size ≤ L.l
  rw_ : w.heap.size ≤ L.r
  mw : w.heap.size ≤ L.m
  ow : w.heap.size ≤ O
  vl : L.v ≠ L.l
  sl : L.s ≠ L.l
  rl : L.r ≠ L.l
  ml : L.m ≠ L.l
  vo : L.v ≠ O
  so : L.s ≠ O
  lo : L.l ≠ O
  ro : L.r ≠ O
  mo : L.m ≠ O
  bl : B ≠ L.l
  br : B ≠ L.r
  bm : B ≠ L.m
  bo : B ≠ O
  tl : s ≠ L.l
  tr : s ≠ L.r
  tm : s ≠ L.m
  to : s ≠ O
  ul : l ≠ L.l
  ur : l ≠ L.r
  um : l ≠ L.m
  uo : l ≠ O
/-- What stands: the view's state, what it wrote (own, as a map), the map of what was, the twin. -/
structure Tw (w : World) (L : Lay) (s l O B : Nat) (e0 : Array MapEntry) (c0 : Nat) (b0 : Nat → Val) (st : VSt) (g : Int → Int → Option Val) (W : World) : Prop where
  v : ViewAt W L st
  ok : VOk st
  own : ∃ es clk, blk W O = some (.map es clk) ∧ KM es clk (fun k n => (g k n).map fun x => .agg x.cells)
  was : blk W B = some (.map e0 c0)
  tw : StoreAt W s l b0
  b : Below w.heap.size w W
section
variable {w : World} {L : Lay} {s l O B : Nat} {e0 : Array MapEntry} {c0 : Nat} {b0 : Nat → Val} {st : VSt} {g : Int → Int → Option Val} {W W' : World}
theorem Tw.below (h : Tw w L s l O B e0 c0 b0 st g W) (hb : Below W.heap.size W W') : Tw w L s l O B e0 c0 b0 st g W' :=
  ⟨h.v.below hb, h.ok, by obtain ⟨es, clk, h1, h2⟩ := h.own; exact ⟨es, clk, (hb.block O (lt_of_heap h1)).trans h1, h2⟩, (hb.block B (lt_of_heap h.was)).trans h.was, h.tw.keep (Turn.of_below hb (fun _ => False)) id id, h.b.trans (hb.mono h.b.size)⟩
theorem Tw.saw (F : Far w L s l O B) (h : Tw w L s l O B e0 c0 b0 st g W) (k n : Int) (hV : ViewAt W' L (st.saw k n)) (T : Turn (· = L.r) W W') : Tw w L s l O B e0 c0 b0 (st.saw k n) g W' :=
  ⟨hV, h.ok.saw k n, by obtain ⟨es, clk, h1, h2⟩ := h.own; exact ⟨es, clk, blk_of_turn T h1 (fun q => F.ro q.symm), h2⟩, blk_of_turn T h.was (fun q => F.br q), h.tw.keep T (fun q => F.tr q) (fun q => F.ur q), h.b.trans (T.below (B := w.heap.size) h.b.size (fun i q => by have : i = L.r := q; have := F.rw_; omega))⟩
theorem Tw.put (F : Far w L s l O B) (h : Tw w L s l O B e0 c0 b0 st g W) (k n : Int) (x : Val) (hV : ViewAt W' L (st.put k n x)) (T : Turn (· = L.m) W W') : Tw w L s l O B e0 c0 b0 (st.put k n x) g W' :=
  ⟨hV, h.ok.put k n x, by obtain ⟨es, clk, h1, h2⟩ := h.own; exact ⟨es, clk, blk_of_turn T h1 (fun q => F.mo q.symm), h2⟩, blk_of_turn T h.was (fun q => F.bm q), h.tw.keep T (fun q => F.tm q) (fun q => F.um q), h.b.trans (T.below (B := w.heap.size) h.b.size (fun i q => by have : i = L.m := q; have := F.mw; omega))⟩
theorem Tw.sput (F : Far w L s l O B) (h : Tw w L s l O B e0 c0 b0 st g W) (base : Nat → Val) (hS : StoreAt W' L.s L.l base) (T : Turn (· = L.l) W W') : Tw w L s l O B e0 c0 b0 { st with base := base } g W' := by
  obtain ⟨er, cr, r1, r2⟩ := h.v.cr
  obtain ⟨em, cm, m1, m2⟩ := h.v.cm
  exact ⟨⟨blk_of_turn T h.v.cv (fun q => F.vl q), hS, ⟨er, cr, blk_of_turn T r1 (fun q => F.rl q), r2⟩, ⟨em, cm, blk_of_turn T m1 (fun q => F.ml q), m2⟩, h.v.ne⟩, ⟨h.ok.rd, h.ok.wr⟩, by obtain ⟨es, clk, h1, h2⟩ := h.own; exact ⟨es, clk, blk_of_turn T h1 (fun q => F.lo q.symm), h2⟩, blk_of_turn T h.was (fun q => F.bl q), h.tw.keep T (fun q => F.tl q) (fun q => F.ul q), h.b.trans (T.below (B := w.heap.size) h.b.size (fun i q => by have : i = L.l := q; have := F.lw; omega))⟩
/-- own[k] = x. -/
theorem Tw.oput (F : Far w L s l O B) (h : Tw w L s l O B e0 c0 b0 st g W) (k n : Int) (x : Val) :
    ∃ es clk es' clk', blk W O = some (.map es clk) ∧ (∀ W' : World, blk W' O = some (.map es clk) → (Instr.mapUpdate 59 (.map (some O)) (.agg #[.int .i64 k, .int .i64 n]) (.agg x.cells)).run Try.prog W' = .ok () (setB W' O (.map es' clk'))) ∧
      ∀ W' : World, Tw w L s l O B e0 c0 b0 st g W' → blk W' O = some (.map es clk) → Tw w L s l O B e0 c0 b0 st (updV g k n x) (setB W' O (.map es' clk')) := by
  obtain ⟨es, clk, h1, h2⟩ := h.own
  obtain ⟨es', clk', hk, hput⟩ := run_putV (r := O) (clk := clk) h2 k n (.agg x.cells)
  refine ⟨es, clk, es', clk', h1, hput, fun W' q hb => ?_⟩
  have T : Turn (· = O) W' (setB W' O (.map es' clk')) := (Turn.refl (· = O) W').setB (b := O) (Or.inl rfl) _
  refine ⟨q.v.keep T (fun i e => by have : i = O := e; subst this; exact ⟨F.vo.symm, F.so.symm, F.lo.symm, F.ro.symm, F.mo.symm⟩), q.ok, ⟨es', clk', blk_setB_same _ _ _ (lt_of_heap hb), by rw [updV_km]; exact hk⟩, blk_of_turn T q.was (fun e => F.bo e), q.tw.keep T (fun e => F.to e) (fun e => F.uo e), q.b.trans (T.below (B := w.heap.size) q.b.size (fun i e => by have : i = O := e; have := F.ow; omega))⟩
/-- x, is := own[k]. -/
theorem Tw.olook (h : Tw w L s l O B e0 c0 b0 st g W) (k n : Int) :
    (Instr.lookup 59 (.map (some O)) (.agg #[.int .i64 k, .int .i64 n]) true).run Try.prog W = .ok (.tuple #[.agg ((g k n).getD Val.zero).cells, .bool (g k n).isSome]) W := by
  obtain ⟨es, clk, h1, h2⟩ := h.own
  have := run_lookV h2 k n W h1
  rw [Option.isSome_map, show ((g k n).map fun x => Value.agg x.cells).getD (.agg Val.zero.cells) = .agg ((g k n).getD Val.zero).cells by cases g k n <;> rfl] at this
  exact this
/-- was[k]. -/
theorem Tw.wlook {f0 : Int → Int → Option Value} (hk : KM e0 c0 f0) (hf : ∀ k n, 0 ≤ placeI k n → f0 k n = some (.agg (b0 (placeI k n).toNat).cells)) (h : Tw w L s l O B e0 c0 b0 st g W) (k n : Int) (hp : 0 ≤ placeI k n) :
    (Instr.lookup 59 (.map (some B)) (.agg #[.int .i64 k, .int .i64 n]) false).run Try.prog W = .ok (.agg (storeLook b0 k n).cells) W := by
  have := run_look0 Try.underlying59 hk k n W h.was (zero_val W)
  rw [hf k n hp] at this
  unfold storeLook
  rw [if_neg (by omega)]
  exact this
theorem wlook_blk {f0 : Int → Int → Option Value} (hk : KM e0 c0 f0) (hf : ∀ k n, 0 ≤ placeI k n → f0 k n = some (.agg (b0 (placeI k n).toNat).cells)) (h : blk W B = some (.map e0 c0)) (k n : Int) (hp : 0 ≤ placeI k n) :
    (Instr.lookup 59 (.map (some B)) (.agg #[.int .i64 k, .int .i64 n]) false).run Try.prog W = .ok (.agg (storeLook b0 k n).cells) W := by
  have := run_look0 Try.underlying59 hk k n W h (zero_val W)
  rw [hf k n hp] at this
  unfold storeLook
  rw [if_neg (by omega)]
  exact this
theorem run_look_op {ρ : Operand → Value} {T : TypeId} {x y : Operand} {dst : Option Tmp} {ty : TypeId} {pos : String} {after : Array Edge} {guard : Option (Nat × Bool)} {v : Value} (h : (Instr.lookup T (ρ x) (ρ y) false).run Try.prog W = .ok v W) :
    (execOp ρ { dst, op := .lookup T x y false, type := ty, pos, after, guard }).run Try.prog W = .ok (.value v) W := by
  simp [execOp, h]
theorem Tw.low {C : Nat} (h : Tw w L s l O B e0 c0 b0 st g W) (hb : Below C W W') (hv : L.v < C ∧ L.s < C ∧ L.l < C ∧ L.r < C ∧ L.m < C) (ho : O < C) (hB : B < C) (hs : s < C) (hl : l < C) (hw : w.heap.size ≤ C) : Tw w L s l O B e0 c0 b0 st g W' :=
  ⟨h.v.off (B := C) ⟨hb.os, hb.tape, hb.output, hb.size, fun i hi hn => hb.block i (by omega)⟩ hv, h.ok, by obtain ⟨es, clk, h1, h2⟩ := h.own; exact ⟨es, clk, (hb.block O ho).trans h1, h2⟩, (hb.block B hB).trans h.was, store_below h.tw hb hs hl, h.b.trans (hb.mono hw)⟩
theorem wr_size {es : Array MapEntry} {clk : Nat} (ok : VOk st) (hk : KM es clk (fun k n => (st.wr k n).map fun x => .agg x.cells)) : es.size = (wrL st).length := by
  rw [wrL_len]
  have hs : ∀ e ∈ es.toList, (st.wr (kOf e).1 (kOf e).2).isSome = true := fun e he => by
    have h1 := (hk.at he).2
    obtain ⟨x, hx, _⟩ := Option.map_eq_some_iff.1 h1
    rw [hx]; rfl
  have hp : ∀ e ∈ es.toList, 0 ≤ placeI (kOf e).1 (kOf e).2 := fun e he => by
    obtain ⟨x, hx⟩ := Option.isSome_iff_exists.1 (hs e he)
    exact ok.wr _ _ _ hx
  have hn : es.toList.Nodup := by
    have := hk.born.nodup
    rw [List.nodup_iff_pairwise_ne, List.pairwise_map] at this
    rw [List.nodup_iff_pairwise_ne]
    exact this.imp fun q e => q (by rw [e])
  have h1 := nodup_len (es.toList.map fun e => placeI (kOf e).1 (kOf e).2) (wrP st) (by
    rw [List.nodup_iff_pairwise_ne, List.pairwise_map]
    refine (List.nodup_iff_pairwise_ne.1 hn).imp_of_mem fun {a b} ha hb hne q => hne (hk.inj ha hb ?_)
    have h1 := keyP_place _ _ (hp a ha)
    have h2 := keyP_place _ _ (hp b hb)
    rw [q, h2] at h1
    exact h1.symm) (fun p hq => by
    obtain ⟨e, he, rfl⟩ := List.mem_map.1 hq
    refine (plF_mem _ _).2 ⟨hp e he, place_lt _ _, ?_⟩
    rw [keyP_place _ _ (hp e he)]
    exact hs e he)
  have h2 := nodup_len ((wrP st).map keyP) (es.toList.map kOf) (by
    rw [List.nodup_iff_pairwise_ne, List.pairwise_map]
    refine (plF_rises _).imp_of_mem fun {a b} ha hb hlt q => ?_
    have ha' := plF_lt _ a ha
    have hb' := plF_lt _ b hb
    have e1 := place_keyP a.toNat (by omega)
    have e2 := place_keyP b.toNat (by omega)
    rw [show ((a.toNat : Nat) : Int) = a by omega] at e1
    rw [show ((b.toNat : Nat) : Int) = b by omega] at e2
    rw [q, e2] at e1
    omega) (fun k hq => by
    obtain ⟨p, hp1, rfl⟩ := List.mem_map.1 hq
    have h3 := ((plF_mem _ _).1 hp1).2.2
    obtain ⟨x, hx⟩ := Option.isSome_iff_exists.1 h3
    obtain ⟨i, hi, he⟩ := hk.there (keyP p).1 (keyP p).2 (.agg x.cells) (by show (st.wr _ _).map _ = _; rw [hx]; rfl)
    exact List.mem_map.2 ⟨es[i], by simp, kOf_key he⟩)
  simp at h1 h2
  omega
theorem Tw.len (h : Tw w L s l O B e0 c0 b0 st st.wr W) (x : TypeId) : (Builtin.len_ #[59] x #[.map (some O)]).run Try.prog W = .ok (.int .i64 ((wrL st).length : Nat)) W := by
  obtain ⟨es, clk, h1, h2⟩ := h.own
  rw [← wr_size h.ok h2]
  have ht := Try.underlying59
  have hb : W.heap[O]? = some (.map es clk) := h1
  simp [Builtin.len_, run_underlying ht, MapKept.run_getObj_map hb, goInt]
theorem put_wr (st : VSt) (k n : Int) (x : Val) (h : 0 ≤ placeI k n) : (st.put k n x).wr = updV st.wr k n x := by
  unfold VSt.put; rw [if_neg (by omega)]
theorem saw_wr (st : VSt) (k n : Int) : (st.saw k n).wr = st.wr := by
  unfold VSt.saw; split <;> rfl
theorem look_some (st : VSt) (k n : Int) (x : Val) (h : 0 ≤ placeI k n) (e : st.wr k n = some x) : st.get k n = x := by
  unfold VSt.get; rw [if_neg (by omega), e]; rfl
theorem look_none (st : VSt) (k n : Int) (h : 0 ≤ placeI k n) (e : st.wr k n = none) : st.get k n = storeLook st.base k n := by
  unfold VSt.get storeLook; rw [if_neg (by omega), if_neg (by omega), e]; rfl
end
end Go.Proofs.Ytncgppdmfnapiaa.St
