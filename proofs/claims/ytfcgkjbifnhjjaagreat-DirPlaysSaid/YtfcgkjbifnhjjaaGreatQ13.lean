/- The contract of name.Split: a path's names. For a text of at most 2^20 bytes, where bytealg's variable holds a number. The contracts of the document's own RightName and Split: the same names of a path. For a text of at most 2^20 bytes. No condition but those written in each statement. -/
import Derived.Test.YtfcgkjbifnhjjaaGreatNmAQ
import Derived.Laws.AppendOwn
import Derived.OwnWalk
import Derived.LoopTactic
namespace Go.Proofs.YtfcgkjbifnhjjaaGreat.St
open Go.RowKit
set_option linter.unusedVariables false

theorem info_str : (Tryz.prog.info? 9).map (fun i => (i.zero, i.size, i.bytes)) = some (some (.string ByteArray.empty), 1, 16) := by kernel_rfl
/-- The library's variable holds a number. -/
def Mx (w : World) : Prop := ∃ m, w.cell? ⟨0, 0, none⟩ = some (.int .i64 m)
theorem Mx.below {B : Nat} {w w' : World} (h : Mx w) (hB : w.heap.size ≤ B) (hb : Below B w w') : Mx w' := by
  obtain ⟨m, hm⟩ := h
  have := World.block_lt_of_cell? _ _ hm
  exact ⟨m, (hb.cell (by simp at this ⊢; omega)).trans hm⟩

theorem lt_of_heap {W : World} {b : Nat} {o : Obj} (h : W.heap[b]? = some o) : b < W.heap.size := (Array.getElem?_eq_some_iff.1 h).1
/-- A list of texts in blocks from B on. -/
def TL (B : Nat) (W : World) (v : Value) (ps : List ByteArray) : Prop := W.ownsRow B 9 1 v ps.length (ps.map Value.string)
theorem TL.nil (B : Nat) (W : World) : TL B W (.slice none 0 0) [] := World.ownsRow_nil _ _ _ _
theorem TL.keep {B : Nat} {W W' : World} {v : Value} {ps : List ByteArray} (h : TL B W v ps) (hb : ∀ g, B ≤ g → g < W.heap.size → W'.heap[g]? = W.heap[g]?) : TL B W' v ps := by
  refine ⟨h.1, ?_⟩
  rcases h.2 with q | ⟨g, cap, cur, h1, h2, h3, h4⟩
  · exact Or.inl q
  · exact Or.inr ⟨g, cap, cur, h1, h2, (hb g h2 (lt_of_heap h3)).trans h3, h4⟩
theorem TL.below {B : Nat} {W W' : World} {v : Value} {ps : List ByteArray} (h : TL B W v ps) (hb : Below W.heap.size W W') : TL B W' v ps := h.keep fun g _ hg => hb.block g hg
theorem TL.mono {B C : Nat} {W : World} {v : Value} {ps : List ByteArray} (h : TL B W v ps) (hc : C ≤ B) : TL C W v ps := by
  refine ⟨h.1, ?_⟩
  rcases h.2 with q | ⟨g, cap, cur, h1, h2, h3, h4⟩
  · exact Or.inl q
  · exact Or.inr ⟨g, cap, cur, h1, by omega, h3, h4⟩
theorem TL.tr {B : Nat} {W : World} {v : Value} {ps : List ByteArray} (h : TL B W v ps) : ∃ a c, v = .slice a ps.length c ∧ TR W a ps ∧ ∀ x, a = some x → B ≤ x.block := by
  rcases h.2 with ⟨rfl, h0⟩ | ⟨g, cap, cur, e', h2, _⟩
  · exact ⟨none, 0, by rw [h0], fun i hi => by omega, fun x hx => by cases hx⟩
  · refine ⟨_, _, e', fun i hi => ⟨_, rfl, ?_⟩, fun x hx => by cases hx; exact h2⟩
    subst e'
    refine World.ownsRow.cells h rfl i _ ?_
    simp [List.getElem?_eq_getElem hi]
/-- An append to a list that is the call's own. -/
theorem tl_push {B : Nat} {wr w1 : World} {v v' : Value} {o : Obj} {ps : List ByteArray} {p : ByteArray} (hB : B ≤ wr.heap.size) (hown : TL B wr v ps)
    (hown' : w1.ownsRow B 9 1 v' (ps.length + 1) (ps.map Value.string ++ [.string p])) (hgrow : (wr.alloc o).grownBy w1 v.ownBlock) :
    TL B w1 v' (ps ++ [p]) ∧ Below B wr w1 :=
  ⟨by simpa [TL] using hown', ((Below.refl B wr).alloc hB o).grown hgrow (by simp; omega) (fun j hj => by have := (World.ownsRow.lt hown j hj).1; omega)⟩

theorem splOk_no {l : List UInt8} (h : l.length = 0 ∨ 60 < l.length) : splOk l = false := by
  unfold splOk
  rcases h with h | h
  · rw [List.eq_nil_of_length_eq_zero h]; rfl
  · rw [decide_eq_false (by omega : ¬ l.length ≤ 60)]; simp
theorem splOk_is {l : List UInt8} (h1 : 0 < l.length) (h2 : l.length ≤ 60) : splOk l = (namesL l).all rightL := by
  unfold splOk
  rw [decide_eq_true h2]
  cases l with
  | nil => simp at h1
  | cons a t => simp
theorem names_all (l : List UInt8) : (((namesL l).map bs).all fun p => rightL p.data.toList) = (namesL l).all rightL := by
  rw [List.all_map]
  congr 1
theorem nePcs_take (ps : List (List UInt8)) (j : Nat) (h : j < ps.length) : nePcs (ps.take (j + 1)) = nePcs (ps.take j) ++ (if ps[j] = [] then [] else [ps[j]]) := by
  rw [List.take_succ_eq_append_getElem h, nePcs_append, nePcs_cons]
  simp [nePcs]
theorem has_head (l : List UInt8) : Lib.hasPrefix l [47] = (l.head? == some 47) := by
  show ([47] : List UInt8).isPrefixOf l = _
  cases l with
  | nil => rfl
  | cons a t =>
    show ((47 == a) && ([] : List UInt8).isPrefixOf t) = (some a == some 47)
    by_cases h : a = 47
    · subst h; rfl
    · have h1 : (47 == a) = false := beq_eq_false_iff_ne.2 (fun e => h e.symm)
      have h2 : (some a == some (47 : UInt8)) = false := beq_eq_false_iff_ne.2 (fun e => h (Option.some.inj e))
      rw [h1, h2]; rfl
attribute [local irreducible] Int.lt Int.le
end Go.Proofs.YtfcgkjbifnhjjaaGreat.St

namespace Go.Proofs.YtfcgkjbifnhjjaaGreat.St
open Go.RowKit
set_option linter.unusedVariables false

theorem byte47' {b : UInt8} (h : b ≠ 47) : ¬ (b.toNat : Int) = 47 := fun e => h (UInt8.toNat_inj.1 (by show b.toNat = 47; omega))
theorem byte0' {b : UInt8} (h : b ≠ 0) : ¬ (b.toNat : Int) = 0 := fun e => h (UInt8.toNat_inj.1 (by show b.toNat = 0; omega))
theorem byte47 {b : UInt8} (h : b ≠ 47) : ((b.toNat : Int) == 47) = false := beq_eq_false_iff_ne.2 (byte47' h)
theorem byte0 {b : UInt8} (h : b ≠ 0) : ((b.toNat : Int) == 0) = false := beq_eq_false_iff_ne.2 (byte0' h)
theorem at_list (s : ByteArray) (j : Nat) (h : j < s.size) : ∃ h2, s.data.toList[j]'h2 = s[j] := ⟨by rw [size_list]; exact h, by simp; rfl⟩

attribute [local irreducible] Int.lt Int.le
set_option maxRecDepth 100000 in
theorem refRight_any (s : ByteArray) (w : World) (hs : s.size ≤ 1048576) :
    Calls Tryz.prog 35 #[.string s] w fun e w' => e = .returned (.bool (rightL s.data.toList)) ∧ w' = w := by
  have hl := size_list s
  generalize hR : rightL s.data.toList = R
  have HR := Lib.hid hR
  clear hR
  go_enter Tryz.func35, Tryz.ntmps35
  go_wp2_with fail
  go_loopw [3] (fun i wr => ∃ j : Nat, j ≤ s.size ∧ i = .int .i64 (j : Int) ∧ wr = w ∧ (∀ t (ht : t < s.size), t < j → s[t] ≠ 47 ∧ s[t] ≠ 0)) (fun i _ => s.size - (intOf i).toNat)
  case atStart => exact ⟨0, Nat.zero_le _, rfl, rfl, fun t _ ht => absurd ht (by omega)⟩
  case round =>
    obtain ⟨j, hj, rfl, rfl, hne⟩ := hrel
    by_cases hlt : j < s.size
    · have l1 : (j : Int) < (s.size : Int) := by omega
      have l0 : (0 : Int) ≤ (j : Int) := by omega
      obtain ⟨h2, hb⟩ := at_list s j hlt
      by_cases q1 : s[j] = 47
      · have hr : rightL s.data.toList = false := by
          have : s.data.toList.contains 47 = true := by
            rw [List.contains_iff_mem]
            exact List.mem_iff_getElem.2 ⟨j, h2, hb.trans q1⟩
          unfold rightL; rw [this]; simp
        obtain rfl : R = false := HR.out.symm.trans hr
        clear hne hr hb hl HR
        have e1 : ((s[j].toNat : Int) == 47) = true := by rw [q1]; rfl
        go_wp2_with fail
        go_ret
        exact ⟨rfl, rfl⟩
      · have e1 := byte47 q1
        have e1' := byte47' q1
        by_cases q2 : s[j] = 0
        · have hr : rightL s.data.toList = false := by
            have : s.data.toList.contains 0 = true := by
              rw [List.contains_iff_mem]
              exact List.mem_iff_getElem.2 ⟨j, h2, hb.trans q2⟩
            unfold rightL; rw [this]; simp
          obtain rfl : R = false := HR.out.symm.trans hr
          clear hne hr hb hl HR e1 e1' q1
          go_wp2_with fail
          go_ret
          exact ⟨rfl, rfl⟩
        · have e2 := byte0 q2
          have e2' := byte0' q2
          have hne2 : ∀ t (ht : t < s.size), t < j + 1 → s[t] ≠ 47 ∧ s[t] ≠ 0 := fun t ht h3 => by
            by_cases q : t = j
            · subst q; exact ⟨q1, q2⟩
            · exact hne t ht (by omega)
          have Hne := Lib.hid hne2
          clear hne hne2 hb hl
          go_wp2_with fail
          exact ⟨⟨j + 1, by omega, by go_num, trivial, Hne.out⟩, by simp [intOf] <;> omega⟩
    · obtain rfl : j = s.size := by omega
      have h47 : s.data.toList.contains 47 = false := by
        rw [← Bool.not_eq_true, List.contains_iff_mem]
        intro hc
        obtain ⟨k, hk, e⟩ := List.mem_iff_getElem.1 hc
        obtain ⟨_, hb⟩ := at_list s k (by omega)
        exact (hne k (by omega) (by omega)).1 (hb.symm.trans e)
      have h00 : s.data.toList.contains 0 = false := by
        rw [← Bool.not_eq_true, List.contains_iff_mem]
        intro hc
        obtain ⟨k, hk, e⟩ := List.mem_iff_getElem.1 hc
        obtain ⟨_, hb⟩ := at_list s k (by omega)
        exact (hne k (by omega) (by omega)).2 (hb.symm.trans e)
      have hr : rightL s.data.toList = (decide (1 ≤ (s.size : Int)) && decide ((s.size : Int) ≤ 14)) := by
        unfold rightL
        rw [h47, h00, hl]
        by_cases c : s.size = 0
        · have : s.data.toList = [] := List.eq_nil_of_length_eq_zero (by omega)
          rw [this, c]; rfl
        · have h1 : s.data.toList.isEmpty = false := by
            cases e : s.data.toList with
            | nil => rw [e] at hl; simp at hl; omega
            | cons a t => rfl
          rw [h1, decide_eq_true (by omega : 1 ≤ (s.size : Int))]
          have : decide (s.size ≤ 14) = decide ((s.size : Int) ≤ 14) := decide_eq_decide.2 ⟨fun h => by omega, fun h => by omega⟩
          rw [this]; simp
      have Hr := Lib.hid (HR.out.symm.trans hr)
      clear hne hr h47 h00 hl HR
      rcases (show s.size = 0 ∨ (0 < s.size ∧ (s.size : Int) ≤ 14) ∨ (0 < s.size ∧ (14 : Int) < s.size) by omega) with c | ⟨c, c2⟩ | ⟨c, c2⟩
      · have hz : R = false := by rw [Hr.out, c]; rfl
        obtain rfl := hz
        obtain rfl := empty_toList c
        clear hs hj hlt c Hr
        go_wp2_with fail
        go_ret
        exact ⟨rfl, rfl⟩
      · have c1 : (1 : Int) ≤ (s.size : Int) := by omega
        have hz : R = true := by rw [Hr.out, decide_eq_true c1, decide_eq_true c2]; rfl
        obtain rfl := hz
        clear Hr
        go_wp2_with fail
        go_ret
        exact ⟨rfl, rfl⟩
      · have c1 : (1 : Int) ≤ (s.size : Int) := by omega
        have hz : R = false := by rw [Hr.out, decide_eq_true c1, decide_eq_false (by omega : ¬ (s.size : Int) ≤ 14)]; rfl
        obtain rfl := hz
        clear Hr
        go_wp2_with fail
        go_ret
        exact ⟨by simp; omega, rfl⟩

theorem glue_end (cu : List UInt8) : nePcs (glue cu (pcs [])) = if cu = [] then [] else [cu] := by
  show nePcs [cu ++ []] = _
  rw [List.append_nil, nePcs_cons]; simp [nePcs]
theorem glue_slash (cu t : List UInt8) : nePcs (glue cu (pcs (47 :: t))) = (if cu = [] then [] else [cu]) ++ nePcs (glue [] (pcs t)) := by
  rw [pcs_slash, glue_nil (pcs_ne t)]
  show nePcs ((cu ++ []) :: pcs t) = _
  rw [List.append_nil, nePcs_cons]
theorem glue_names (l : List UInt8) : namesL l = nePcs (glue [] (pcs (l.drop 0))) := by rw [List.drop_zero, glue_nil (pcs_ne l)]; rfl
theorem bs_append (a b : List UInt8) : bs a ++ bs b = bs (a ++ b) := by
  apply ByteArray.ext; unfold bs; simp

end Go.Proofs.YtfcgkjbifnhjjaaGreat.St
