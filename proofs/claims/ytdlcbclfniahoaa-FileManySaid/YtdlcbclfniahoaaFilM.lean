/- A table of open files as a set of numbers; a map of bools by ints; file.Stat of what isn't open. No condition but those written in each statement. -/
import Derived.Test.YtdlcbclfniahoaaFilT
import Derived.Test.YtdlcbclfniahoaaBits
import Derived.Maps.OwnSet
import Derived.Maps.Views
namespace Go.Proofs.Ytdlcbclfniahoaa.St
open Go.RowKit Go.Maps
set_option linter.unusedVariables false

/-! ### The map the call made -/
theorem int_law : Keyed Try.prog 3 := int_keyed Try.underlying3
theorem zero_bool (w : World) : (zeroValue 4).run Try.prog w = .ok (.bool false) w := by kernel_rfl
theorem plain_bool_inv {H : Type} {P : Program} {e : TypeId} (he : P.underlying e = some .bool) {v : Value} {z : DataW H × List MemPlace} (h : plainElem P e v = some z) : ∃ x, v = .bool x ∧ z = (.lit (.bool x), []) := by
  unfold plainElem at h
  rw [he] at h
  cases v <;> simp at h
  exact ⟨_, rfl, h.symm⟩
/-- Block B is a map of at most n entries in which the numbers are true that c says. -/
def IM (W : World) (B : Nat) (c : Nat → Bool) (n : Nat) : Prop := ∃ D : DataW Unit, W.ownsMap Try.prog 3 (plainElem Try.prog 4) B n D ∧ n ≤ 100 ∧
  ∀ x : Nat, x < 12 → D.atKey (.int .i64 x) (.lit (.bool false)) = .lit (.bool (c x))
theorem IM.made (w : World) : IM (w.alloc (.map #[] 0)) w.heap.size (fun _ => false) 0 :=
  ⟨.map [], World.ownsMap_made _ _ _ _, by decide, fun x _ => rfl⟩
theorem IM.lt {W : World} {B : Nat} {c : Nat → Bool} {n : Nat} (h : IM W B c n) : B < W.heap.size := by
  obtain ⟨D, h1, _⟩ := h; exact h1.lt
theorem IM.keep {W W' : World} {B : Nat} {c : Nat → Bool} {n : Nat} (h : IM W B c n) (e : W'.heap[B]? = W.heap[B]?) : IM W' B c n := by
  obtain ⟨D, ⟨es, ck, h1, h2⟩, h3⟩ := h
  exact ⟨D, ⟨es, ck, e.trans h1, h2⟩, h3⟩
theorem IM.below {W W' : World} {B : Nat} {c : Nat → Bool} {n : Nat} (h : IM W B c n) (hb : Below W.heap.size W W') : IM W' B c n := h.keep (hb.block B h.lt)
theorem wf_small (x : Nat) (h : x < 12) : (Lit.int .i64 (x : Int)).wf = true := by apply WalkArith.wf_i64 <;> omega
theorem IM.look {W : World} {B : Nat} {c : Nat → Bool} {n : Nat} (h : IM W B c n) (x : Nat) (hx : x < 12) :
    (Instr.lookup 49 (.map (some B)) (.int .i64 x) false).run Try.prog W = .ok (.bool (c x)) W := by
  obtain ⟨D, h1, h2, h3⟩ := h
  obtain ⟨v, ps, hrun, hv⟩ := h1.lookup int_law Try.underlying49 (zero_bool _) (plainElem_bool Try.underlying4 false) (keyOf_int_mk Try.underlying3 (wf_small x hx))
  obtain ⟨b, rfl, hc⟩ := plain_bool_inv Try.underlying4 hv
  have e := congrArg Prod.fst hc
  simp only at e
  rw [h3 x hx] at e
  have : c x = b := by simpa using e
  rw [this]; exact hrun
theorem IM.put {W : World} {B : Nat} {c : Nat → Bool} {n : Nat} (h : IM W B c n) (hn : n < 100) (x : Nat) (hx : x < 12) :
    ∃ W', (Instr.mapUpdate 49 (.map (some B)) (.int .i64 x) (.bool true)).run Try.prog W = .ok () W' ∧ IM W' B (fun j => c j || decide (x = j)) (n + 1) ∧ W.grownBy W' (some B) := by
  obtain ⟨D, h1, h2, h3⟩ := h
  have hm := (h1.tidy int_law).isMap
  obtain ⟨W', hrun, hown, ht⟩ := h1.update (d := .lit (.bool true)) (ps := []) int_law Try.underlying49 (by unfold maxLen; omega) (keyOf_int_mk Try.underlying3 (wf_small x hx)) (plainElem_bool Try.underlying4 true)
  refine ⟨W', hrun, ⟨_, hown, by omega, fun y hy => ?_⟩, ht⟩
  by_cases e : y = x
  · subst e
    rw [Maps.atKey_put_same hm (show WideAt.IsKeyLit (.int .i64 _) from trivial)]
    simp
  · rw [Maps.atKey_put_other (by intro q; simp at q; omega), h3 y hy]
    simp; omega
/-- Where only such a block has turned. -/
theorem turn_grown {W W' : World} {B : Nat} (g : W.grownBy W' (some B)) : Turn (· = B) W W' :=
  ⟨g.os, g.tape, g.output, g.size, fun i hi hn => g.block i hi (fun e => hn (by simpa using e))⟩
theorem Std.off {w W W' : World} {t : Nat} {L : Lay} {d q : Nat} {st : VSt} (S : Std w t L d q st W) {B : Nat} (h : Turn (· = B) W W') (hb : w.heap.size ≤ B) (hl : L.v ≠ B ∧ L.s ≠ B ∧ L.l ≠ B ∧ L.r ≠ B ∧ L.m ≠ B) (ht : t ≠ B) : Std w t L d q st W' := by
  refine ⟨S.v.keep h ?_, blk_of_turn h S.t (fun e => ht e), S.b.trans (h.below (B := w.heap.size) S.b.size (fun i p => by have : i = B := p; omega)), S.r, S.m⟩
  rintro i rfl
  obtain ⟨a, b, c, e, f⟩ := hl
  exact ⟨Ne.symm a, Ne.symm b, Ne.symm c, Ne.symm e, Ne.symm f⟩

/-! ### The open files as a set of numbers -/
theorem place6' : ∀ j : Nat, j < 12 → 0 ≤ placeI 6 (j : Int) := by decide
structure FM (st : VSt) (o : Nat → Bool) (h : Int) : Prop where
  tab : ∀ j, j < 12 → usedI ((st.get 5 0).n 0) j = o j
  fl : ∀ j : Nat, j < 12 → o j = true → OF (st.get 6 j) 1 0 1
  i0 : Holds st 1 2 1 h ByteArray.empty
theorem FM.same {st st' : VSt} {o : Nat → Bool} {h : Int} (H : FM st o h) (e : ∀ k n, st'.get k n = st.get k n) : FM st' o h :=
  ⟨fun j hj => by rw [e]; exact H.tab j hj, fun j hj ho => by rw [e]; exact H.fl j hj ho, by unfold Holds; rw [e]; exact H.i0⟩
theorem FM.has {st : VSt} {o : Nat → Bool} {h : Int} (H : FM st o h) (j : Nat) (hj : j < 12) : fHas st (j : Int) = o j := by
  unfold fHas
  rw [if_neg (by omega), show (j : Int).toNat = j from rfl, H.tab j hj]
theorem free_go {x : Int} {k : Nat} (hk : k ≤ 12) (h : ∀ j, j < k → usedI x j = true) : freeF x 12 = freeF x (12 - k) := by
  induction k with
  | zero => rfl
  | succ k ih => rw [ih (by omega) (fun j hj => h j (by omega)), freeF_past x k (by omega) (h k (by omega))]
theorem FM.free {st : VSt} {o : Nat → Bool} {h : Int} (H : FM st o h) {k : Nat} (hk : k < 12) (h1 : ∀ j, j < k → o j = true) (h2 : o k = false) : fFree st = k := by
  unfold fFree
  rw [free_go (k := k) (by omega) (fun j hj => by rw [H.tab j (by omega)]; exact h1 j hj), freeF_hit _ _ hk (by rw [H.tab k hk]; exact h2)]
theorem FM.full {st : VSt} {o : Nat → Bool} {h : Int} (H : FM st o h) (h1 : ∀ j, j < 12 → o j = true) : fFree st = 12 := by
  unfold fFree
  rw [free_go (k := 12) (by omega) (fun j hj => by rw [H.tab j (by omega)]; exact h1 j hj)]; rfl
theorem FM.congr {st : VSt} {o o' : Nat → Bool} {h : Int} (H : FM st o h) (e : ∀ j, j < 12 → o' j = o j) : FM st o' h :=
  ⟨fun j hj => by rw [e j hj]; exact H.tab j hj, fun j hj ho => H.fl j hj (by rw [← e j hj]; exact ho), H.i0⟩
theorem FM.take {st : VSt} {o : Nat → Bool} {h : Int} (H : FM st o h) {k : Nat} (hk : k < 12) : FM (fTake st k 1 1 1) (fun j => o j || decide (k = j)) h := by
  unfold fTake
  refine ⟨fun j hj => ?_, fun j hj ho => ?_, ?_⟩
  · rw [get_put_other _ _ _ _ _ _ (by omega), get_put_same _ _ _ _ place5]
    show usedI (markI ((st.get 5 0).n 0) k) j = _
    rw [used_mark _ _ _ (by omega), H.tab j hj]
  · by_cases e : k = j
    · subst e
      rw [get_put_same _ _ _ _ (place6' k hk)]
      exact ⟨rfl, rfl, rfl, rfl, rfl⟩
    · rw [get_put_other _ _ _ _ _ _ (by omega), get_put_other _ _ _ _ _ _ (by omega), get_saw]
      exact H.fl j hj (by simpa [e] using ho)
  · unfold Holds
    rw [get_put_other _ _ _ _ _ _ (by omega), get_put_other _ _ _ _ _ _ (by omega), get_saw]; exact H.i0
theorem FM.change {st : VSt} {o : Nat → Bool} {h : Int} (H : FM st o h) (h1 : -1000 ≤ h) (h2 : h ≤ 1000) (dh : Int) (d1 : -10 ≤ dh) (d2 : dh ≤ 10) : FM (iChange st 1 0 dh) o (h + dh) := by
  have hc := (holds_change H.i0 (by decide) (by decide) (by decide) 0 dh (by unfold wrap64; omega)).1
  rw [wrap_id _ (by omega) (by omega), wrap_id _ (by omega) (by omega)] at hc
  refine ⟨fun j hj => ?_, fun j hj ho => ?_, hc⟩
  · rw [change_far _ _ _ _ _ _ (by omega) (by omega)]; exact H.tab j hj
  · rw [change_far _ _ _ _ _ _ (by omega) (by omega)]; exact H.fl j hj ho
theorem FM.iHas {st : VSt} {o : Nat → Bool} {h : Int} (H : FM st o h) : iHas st 1 = true := (holds_val H.i0 (by decide) (by decide) (by decide)).2.2.2.2
theorem FM.close {st : VSt} {o : Nat → Bool} {h : Int} (H : FM st o h) (h1 : -1000 ≤ h) (h2 : h ≤ 1000) {x : Nat} (hx : x < 12) (hox : o x = true) : FM (fClose st x) (fun j => o j && !decide (x = j)) (h - 1) := by
  obtain ⟨x0, x1, x2, x3, x4⟩ := H.fl x hx hox
  have hd := down_n _ x1 (by omega) (by omega)
  have hh := H.has x hx
  rw [hox] at hh
  have hg : fGet st x = st.get 6 x := by unfold fGet; rw [hh, if_pos rfl]
  unfold fClose
  rw [hh, if_pos rfl, hg, hd, if_neg (by omega)]
  have y0 : (fDown (st.get 6 x)).n 0 = 1 := by simpa [fDown, Val.set] using x0
  have y2 : (fDown (st.get 6 x)).n 2 = 1 := by simpa [fDown, Val.set] using x2
  unfold fEnd
  rw [if_pos y0, y2]
  have HG : FM (fGone st x) (fun j => o j && !decide (x = j)) h := by
    refine ⟨fun j hj => ?_, fun j hj ho => ?_, ?_⟩
    · rw [gone_tab, show (x : Int).toNat = x from rfl, used_unmark _ _ _ (by omega), H.tab j hj]
    · have e : x ≠ j := by intro e; subst e; simp at ho
      rw [gone_get _ _ _ _ (by omega) (by omega)]
      exact H.fl j hj (by simpa [e] using ho)
    · unfold Holds; rw [gone_get _ _ _ _ (by omega) (by omega)]; exact H.i0
  exact HG.change h1 h2 (-1) (by omega) (by omega)

section
variable {w W : World} {t : Nat} {L : Lay} {d q : Nat} {st : VSt} {o : Nat → Bool} {h : Int}
theorem m_change (S : Std w t L d q st W) (H : FM st o h) (h1 : -1000 ≤ h) (h2 : h ≤ 1000) : Calls Try.prog 10 #[.pointer (some ⟨L.v, 0, none⟩), .int .i64 1, .int .i64 0, .int .i64 1] W fun e W' => e = .returned (.bool true) ∧ ∃ st', FM st' o (h + 1) ∧ Std w t L d q st' W' ∧ Maps L W W' := by
  have k := s_change S 1 0 1
  rw [H.iHas] at k
  exact k.mono fun e W' ⟨a, b, c⟩ => ⟨a, _, H.change h1 h2 1 (by omega) (by omega), b, c⟩
theorem m_open (S : Std w t L d q st W) (H : FM st o h) {k : Nat} (hk : k < 12) (h1 : ∀ j, j < k → o j = true) (h2 : o k = false) : Calls Try.prog 11 #[.pointer (some ⟨L.v, 0, none⟩), .int .i64 1, .int .i64 1, .int .i64 1] W fun e W' => e = .returned (.tuple #[.int .i64 k, .bool true]) ∧ ∃ st', FM st' (fun j => o j || decide (k = j)) h ∧ Std w t L d q st' W' ∧ Maps L W W' := by
  have g := sf_open S 1 1 1
  have f := H.free hk h1 h2
  unfold fNum fOpen at g
  rw [f, if_pos hk, if_pos hk, decide_eq_true hk] at g
  exact g.mono fun e W' ⟨a, b, c⟩ => ⟨a, _, H.take hk, b, c⟩
theorem m_full (S : Std w t L d q st W) (H : FM st o h) (h1 : ∀ j, j < 12 → o j = true) : Calls Try.prog 11 #[.pointer (some ⟨L.v, 0, none⟩), .int .i64 1, .int .i64 1, .int .i64 1] W fun e W' => e = .returned (.tuple #[.int .i64 0, .bool false]) ∧ ∃ st', FM st' o h ∧ Std w t L d q st' W' := by
  have g := sf_open S 1 1 1
  have f := H.full h1
  unfold fNum fOpen at g
  rw [f, if_neg (by decide), if_neg (by decide), decide_eq_false (by decide : ¬ 12 < 12)] at g
  exact g.mono fun e W' ⟨a, b, c⟩ => ⟨a, _, H.same (fun k n => get_saw _ _ _ _ _), b⟩
theorem m_close (S : Std w t L d q st W) (H : FM st o h) (h1 : -1000 ≤ h) (h2 : h ≤ 1000) {x : Nat} (hx : x < 12) : Calls Try.prog 14 #[.pointer (some ⟨L.v, 0, none⟩), .int .i64 x] W fun e W' => e = .returned (.bool (o x)) ∧ ∃ st' h', (h - 1 ≤ h' ∧ h' ≤ h) ∧ FM st' (fun j => o j && !decide (x = j)) h' ∧ Std w t L d q st' W' ∧ Maps L W W' := by
  have g := sf_close S x
  rw [H.has x hx] at g
  cases ho : o x with
  | true =>
    rw [ho] at g
    exact g.mono fun e W' ⟨a, b, c⟩ => ⟨a, _, _, ⟨Int.le_refl _, by omega⟩, H.close h1 h2 hx ho, b, c⟩
  | false =>
    rw [ho] at g
    have e : fClose st x = fGot st x := by unfold fClose; rw [H.has x hx, ho, if_neg (by decide)]
    rw [e] at g
    refine g.mono fun e W' ⟨a, b, c⟩ => ⟨a, _, _, ⟨by omega, Int.le_refl _⟩, (H.same (fun k n => get_fGot _ _ _ _)).congr (fun j hj => ?_), b, c⟩
    by_cases e : x = j
    · subst e; rw [ho]; rfl
    · simp [e]
theorem m_is (S : Std w t L d q st W) (H : FM st o h) {x : Nat} (hx : x < 12) (ho : o x = false) : Calls Try.prog 16 #[.pointer (some ⟨L.v, 0, none⟩), .int .i64 x] W fun e W' => e = .returned (.bool false) ∧ ∃ st', FM st' o h ∧ Std w t L d q st' W' ∧ Maps L W W' := by
  have g := sf_is S x
  rw [H.has x hx, ho] at g
  exact g.mono fun e W' ⟨a, b, c⟩ => ⟨a, _, H.same (fun k n => fSaw_get _ _ _ _), b, c⟩
theorem m_dup (S : Std w t L d q st W) (H : FM st o h) {x : Nat} (hx : x < 12) (ho : o x = false) : Calls Try.prog 13 #[.pointer (some ⟨L.v, 0, none⟩), .int .i64 x] W fun e W' => e = .returned (.bool false) ∧ ∃ st', FM st' o h ∧ Std w t L d q st' W' ∧ Maps L W W' := by
  have g := sf_dup S x
  rw [show fDup st x = fGot st x by unfold fDup; rw [H.has x hx, ho, if_neg (by decide)], H.has x hx, ho] at g
  exact g.mono fun e W' ⟨a, b, c⟩ => ⟨a, _, H.same (fun k n => get_fGot _ _ _ _), b, c⟩
theorem has_far {st : VSt} {x : Int} (hx : x < 0 ∨ 12 ≤ x) : fHas st x = false := by unfold fHas; rw [if_pos hx]
theorem m_read (S : Std w t L d q st W) (H : FM st o h) {x : Int} (hx : x < 0 ∨ 12 ≤ x) : Calls Try.prog 12 #[.pointer (some ⟨L.v, 0, none⟩), .int .i64 x, .int .i64 1] W fun e W' => e = .returned (.tuple #[.string ByteArray.empty, .int .i64 1]) ∧ ∃ st', FM st' o h ∧ Std w t L d q st' W' :=
  (fread_bad L st x 1 (has_far hx) W S.v).mono fun e W' ⟨a, b, c⟩ => ⟨a, _, H.same (fun k n => fSaw_get _ _ _ _), S.step b c⟩
theorem m_closeo (S : Std w t L d q st W) (H : FM st o h) {x : Int} (hx : x < 0 ∨ 12 ≤ x) : Calls Try.prog 14 #[.pointer (some ⟨L.v, 0, none⟩), .int .i64 x] W fun e W' => e = .returned (.bool false) ∧ ∃ st', FM st' o h ∧ Std w t L d q st' W' := by
  have g := sf_close S x
  rw [show fClose st x = fGot st x by unfold fClose; rw [has_far hx, if_neg (by decide)], has_far hx] at g
  exact g.mono fun e W' ⟨a, b, c⟩ => ⟨a, _, H.same (fun k n => get_fGot _ _ _ _), b⟩
theorem m_ino (S : Std w t L d q st W) (H : FM st o h) : Calls Try.prog 17 #[.pointer (some ⟨L.v, 0, none⟩), .int .i64 1] W fun e W' => e = .returned (.bool true) ∧ ∃ st', FM st' o h ∧ Std w t L d q st' W' := by
  have g := s_is S 1
  rw [H.iHas] at g
  exact g.mono fun e W' ⟨a, b, c⟩ => ⟨a, _, H.same (fun k n => get_iSaw _ _ _ _), b⟩
end
theorem fm_start : FM (iChange fz1 1 1 0) (fun _ => false) 0 := by
  refine ⟨fun j hj => ?_, fun j hj ho => (by cases ho), ⟨by kernel_rfl, by kernel_rfl, by kernel_rfl, by kernel_rfl⟩⟩
  rw [change_far _ _ _ _ _ _ (by omega) (by omega)]
  rw [show (fz1.get 5 0).n 0 = 0 by kernel_rfl]
  exact used_zero j (by omega)
theorem mfirst {w W : World} {t : Nat} {L : Lay} {d q : Nat} (S : Std w t L d q fz1 W) : Calls Try.prog 10 #[.pointer (some ⟨L.v, 0, none⟩), .int .i64 1, .int .i64 1, .int .i64 0] W fun e W' => e = .returned (.bool true) ∧ ∃ st', FM st' (fun _ => false) 0 ∧ Std w t L d q st' W' := by
  have h := s_change S 1 1 0
  rw [show iHas fz1 1 = true by kernel_rfl] at h
  exact h.mono fun e W' ⟨a, b, _⟩ => ⟨a, _, fm_start, b⟩

attribute [local go_sem] blk_alloc_at blk_alloc_past blk_drew blk_drewN blk_setB_same blk_setB_other blk_setRow_other setRow_alloc_at setRow_alloc_past setRow_drewN setRow_drew setB_size setB_cell setB_frozen setB_alloc_past setB_drewN setB_drew run_loadV loadOr_cells run_storeV storeOr_cells cells_size ones_cells cells_0 cells_1 cells_2 cells_3 cells_4 cells_16 cells_g0 cells_g1 cells_g2 cells_g3 cells_g4 cells_g16 cells_set0 cells_set1 cells_set2 cells_set3 cells_set4 cells_text
attribute [local go_sem ↓] execOp_loadV execOp_storeV
attribute [local go_sem ↓] wp_at0 wp_at1 wp_at2 wp_at3 wp_at4 wp_at5 wp_at6 wp_at7
abbrev statV : Value := .agg #[.int .i64 0, .int .i64 0, .int .i64 0, .int .i64 0]
theorem set1 {B : Nat} {a w : World} (h : Turn (fun j => B ≤ j) a w) (i : Nat) (u : Value) : Turn (fun j => B ≤ j) a (w.setCell ⟨B, i, none⟩ u) := h.setCell (p := ⟨B, i, none⟩) (Or.inl (Nat.le_refl B)) u
theorem stat_size : (Try.prog.info? 51).map (·.size) = some 4 := by kernel_rfl
theorem results_stat2 {fn : Func} {p q : Tmp} (h : fn.results = #[.cell p 51, .tmp q]) (tmps : Array Value) (w : World) (g : Nat) (t : TypeId) (cs : Array Value) (fr : Nat × Nat)
    (hp : tmps.getD p undef = .pointer (some ⟨g, 0, none⟩)) (hg : blk w g = some (.cells cs t fr)) (hc : cs.size = 4) :
    (results fn tmps).run Try.prog w = .ok (.tuple #[.agg cs, tmps.getD q undef]) w := by
  have hu := Try.underlying51
  have hp' : tmps[p]?.getD undef = .pointer (some ⟨g, 0, none⟩) := by simpa using hp
  simp [results, h, hp', asAddr, run_loadVar_row w g t 51 cs fr _ hg hu rfl (by rw [stat_size, hc])]
/-- file.Stat of what isn't open. -/
theorem fstat_bad (L : Lay) (st : VSt) (f : Int) (hh : fHas st f = false) (w : World) (hV : ViewAt w L st) :
    Calls Try.prog 21 #[.pointer (some ⟨L.v, 0, none⟩), .int .i64 f] w fun e w' => e = .returned (.tuple #[statV, .bool false]) ∧ ViewAt w' L (fGot st f) ∧ Turn (fun k => k = L.r ∨ k = L.m) w w' := by
  have lt := hV.lts
  have hz := zero_val
  have b0 : blk (w.alloc (Obj.cells #[.int .i64 0, .int .i64 0, .int .i64 0, .int .i64 0] 51)) w.heap.size = some (.cells #[.int .i64 0, .int .i64 0, .int .i64 0, .int .i64 0] 51 (0, 0)) := blk_alloc_at _ _ _ rfl
  have t0 : Below w.heap.size w (w.alloc (Obj.cells #[.int .i64 0, .int .i64 0, .int .i64 0, .int .i64 0] 51)) := (Below.refl _ _).alloc (Nat.le_refl _) _
  have hv0 := hV.below t0
  have s0 : w.heap.size < (w.alloc (Obj.cells #[.int .i64 0, .int .i64 0, .int .i64 0, .int .i64 0] 51)).heap.size := by simp
  go_enter Try.func21, Try.ntmps21
  go_wp2_with fail
  generalize w.alloc (Obj.cells #[.int .i64 0, .int .i64 0, .int .i64 0, .int .i64 0] 51) = W0 at *
  refine (fget_any L st f W0 hv0).mono ?_; rw [hh]; rintro e w1 ⟨rfl, hv1, t1⟩
  have b1 : blk w1 w.heap.size = some (.cells #[.int .i64 0, .int .i64 0, .int .i64 0, .int .i64 0] 51 (0, 0)) := blk_of_turn t1 b0 (by omega)
  have e1 : fGet st f = Val.zero := by unfold fGet; rw [hh, if_neg (by decide)]
  rw [e1]
  have s1 := t1.size
  have b2 := blk_below ((Below.refl w1.heap.size w1).alloc (Nat.le_refl _) (Obj.cells Val.zero.cells 58)) b1 (by omega)
  have f1 := frozen_blk b2
  have g0 : (w1.alloc (Obj.cells Val.zero.cells 58)).cell? ⟨w.heap.size, 0, none⟩ = some (.int .i64 0) := cell_of_row _ _ 0 _ _ _ b2
  have g1 : (w1.alloc (Obj.cells Val.zero.cells 58)).cell? ⟨w.heap.size, 1, none⟩ = some (.int .i64 0) := cell_of_row _ _ 1 _ _ _ b2
  have g2 : (w1.alloc (Obj.cells Val.zero.cells 58)).cell? ⟨w.heap.size, 2, none⟩ = some (.int .i64 0) := cell_of_row _ _ 2 _ _ _ b2
  have g3 : (w1.alloc (Obj.cells Val.zero.cells 58)).cell? ⟨w.heap.size, 3, none⟩ = some (.int .i64 0) := cell_of_row _ _ 3 _ _ _ b2
  go_wp2_with fail
  have hvA := hv1.alloc (Obj.cells Val.zero.cells 58)
  have tA := ((Turn.of_below t0 _).trans t1).alloc (Obj.cells Val.zero.cells 58)
  generalize w1.alloc (Obj.cells Val.zero.cells 58) = W2 at *
  have b3 := blk_setCell_same (blk_setCell_same (blk_setCell_same (blk_setCell_same b2 0 (.int .i64 0)) 1 (.int .i64 0)) 2 (.int .i64 0)) 3 (.int .i64 0)
  have tl : Turn (fun j => w.heap.size ≤ j) W2 ((((W2.setCell ⟨w.heap.size, 0, none⟩ (.int .i64 0)).setCell ⟨w.heap.size, 1, none⟩ (.int .i64 0)).setCell ⟨w.heap.size, 2, none⟩ (.int .i64 0)).setCell ⟨w.heap.size, 3, none⟩ (.int .i64 0)) :=
    set1 (set1 (set1 (set1 (Turn.refl _ _) 0 _) 1 _) 2 _) 3 _
  refine bodyPost_ret (results_stat2 rfl _ _ w.heap.size _ _ _ rfl b3 rfl) rfl ⟨rfl, hvA.off tl lt, (tA.offS tl (Nat.le_refl _)).mono fun _ _ => Or.inl⟩
theorem m_stat {w W : World} {t : Nat} {L : Lay} {d q : Nat} {st : VSt} {o : Nat → Bool} {h : Int} (S : Std w t L d q st W) (H : FM st o h) {x : Int} (hx : x < 0 ∨ 12 ≤ x) : Calls Try.prog 21 #[.pointer (some ⟨L.v, 0, none⟩), .int .i64 x] W fun e W' => e = .returned (.tuple #[statV, .bool false]) ∧ ∃ st', FM st' o h ∧ Std w t L d q st' W' :=
  (fstat_bad L st x (has_far hx) W S.v).mono fun e W' ⟨a, b, c⟩ => ⟨a, _, H.same (fun k n => get_fGot _ _ _ _), S.step b c⟩
end Go.Proofs.Ytdlcbclfniahoaa.St
