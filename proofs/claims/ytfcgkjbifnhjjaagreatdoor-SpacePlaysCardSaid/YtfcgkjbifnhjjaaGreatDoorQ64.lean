/- The contract of name.Split: a path's names. For a text of at most 2^20 bytes, where bytealg's variable holds a number. The contracts of the document's own RightName and Split: the same names of a path. For a text of at most 2^20 bytes. No condition but those written in each statement. -/
import Derived.Test.YtfcgkjbifnhjjaaGreatDoorNmAQ
import Derived.Laws.AppendOwn
import Derived.OwnWalk
import Derived.LoopTactic
namespace Go.Proofs.YtfcgkjbifnhjjaaGreatDoor.St
open Go.RowKit
set_option linter.unusedVariables false

theorem info_str : (Tryz.prog.info? 9).map (fun i => (i.zero, i.size, i.bytes)) = some (some (.string ByteArray.empty), 1, 16) := by kernel_rfl
/-- The library's variable holds a number. -/
def Mx (w : World) : Prop := ∃ m, w.cell? ⟨1, 0, none⟩ = some (.int .i64 m)
theorem Mx.below {B : Nat} {w w' : World} (h : Mx w) (hB : w.heap.size ≤ B) (hb : Below B w w') : Mx w' := by
  obtain ⟨m, hm⟩ := h
  have := World.block_lt_of_cell? _ _ hm
  exact ⟨m, (hb.cell (by simp at this ⊢; omega)).trans hm⟩

theorem lt_of_heap {W : World} {b : Nat} {o : Obj} (h : W.heap[b]? = some o) : b < W.heap.size := (Array.getElem?_eq_some_iff.1 h).1
/-- A list of texts in blocks from B on. -/
def TL (B : Nat) (W : World) (v : Value) (ps : List ByteArray) : Prop := W.ownsRow B 9 1 v ps.length (ps.map Value.string)
theorem TL.nil (B : Nat) (W : World) : TL B W (.slice none 0 0) [] := World.ownsRow_nil _ _ _ _
theorem TL.keep {B : Nat} {W W' : World} {v : Value} {ps : List ByteArray} (h : TL B W v ps) (hb : ∀ g, B ≤ g → g < W.heap.size → W'.heap[g]? = W.heap[g]?) : TL B W' v ps := by
  refine ⟨h.1, ?_⟩
  rcases h.2 with q | ⟨g, cap, cur, h1, h2, h3, h4⟩
  · exact Or.inl q
  · exact Or.inr ⟨g, cap, cur, h1, h2, (hb g h2 (lt_of_heap h3)).trans h3, h4⟩
theorem TL.below {B : Nat} {W W' : World} {v : Value} {ps : List ByteArray} (h : TL B W v ps) (hb : Below W.heap.size W W') : TL B W' v ps := h.keep fun g _ hg => hb.block g hg
theorem TL.mono {B C : Nat} {W : World} {v : Value} {ps : List ByteArray} (h : TL B W v ps) (hc : C ≤ B) : TL C W v ps := by
  refine ⟨h.1, ?_⟩
  rcases h.2 with q | ⟨g, cap, cur, h1, h2, h3, h4⟩
  · exact Or.inl q
  · exact Or.inr ⟨g, cap, cur, h1, by omega, h3, h4⟩
theorem TL.tr {B : Nat} {W : World} {v : Value} {ps : List ByteArray} (h : TL B W v ps) : ∃ a c, v = .slice a ps.length c ∧ TR W a ps ∧ ∀ x, a = some x → B ≤ x.block := by
  rcases h.2 with ⟨rfl, h0⟩ | ⟨g, cap, cur, e', h2, _⟩
  · exact ⟨none, 0, by rw [h0], fun i hi => by omega, fun x hx => by cases hx⟩
  · refine ⟨_, _, e', fun i hi => ⟨_, rfl, ?_⟩, fun x hx => by cases hx; exact h2⟩
    subst e'
    refine World.ownsRow.cells h rfl i _ ?_
    simp [List.getElem?_eq_getElem hi]
/-- An append to a list that is the call's own. -/
theorem tl_push {B : Nat} {wr w1 : World} {v v' : Value} {o : Obj} {ps : List ByteArray} {p : ByteArray} (hB : B ≤ wr.heap.size) (hown : TL B wr v ps)
    (hown' : w1.ownsRow B 9 1 v' (ps.length + 1) (ps.map Value.string ++ [.string p])) (hgrow : (wr.alloc o).grownBy w1 v.ownBlock) :
    TL B w1 v' (ps ++ [p]) ∧ Below B wr w1 :=
  ⟨by simpa [TL] using hown', ((Below.refl B wr).alloc hB o).grown hgrow (by simp; omega) (fun j hj => by have := (World.ownsRow.lt hown j hj).1; omega)⟩

theorem splOk_no {l : List UInt8} (h : l.length = 0 ∨ 60 < l.length) : splOk l = false := by
  unfold splOk
  rcases h with h | h
  · rw [List.eq_nil_of_length_eq_zero h]; rfl
  · rw [decide_eq_false (by omega : ¬ l.length ≤ 60)]; simp
theorem splOk_is {l : List UInt8} (h1 : 0 < l.length) (h2 : l.length ≤ 60) : splOk l = (namesL l).all rightL := by
  unfold splOk
  rw [decide_eq_true h2]
  cases l with
  | nil => simp at h1
  | cons a t => simp
theorem names_all (l : List UInt8) : (((namesL l).map bs).all fun p => rightL p.data.toList) = (namesL l).all rightL := by
  rw [List.all_map]
  congr 1
theorem nePcs_take (ps : List (List UInt8)) (j : Nat) (h : j < ps.length) : nePcs (ps.take (j + 1)) = nePcs (ps.take j) ++ (if ps[j] = [] then [] else [ps[j]]) := by
  rw [List.take_succ_eq_append_getElem h, nePcs_append, nePcs_cons]
  simp [nePcs]
theorem has_head (l : List UInt8) : Lib.hasPrefix l [47] = (l.head? == some 47) := by
  show ([47] : List UInt8).isPrefixOf l = _
  cases l with
  | nil => rfl
  | cons a t =>
    show ((47 == a) && ([] : List UInt8).isPrefixOf t) = (some a == some 47)
    by_cases h : a = 47
    · subst h; rfl
    · have h1 : (47 == a) = false := beq_eq_false_iff_ne.2 (fun e => h e.symm)
      have h2 : (some a == some (47 : UInt8)) = false := beq_eq_false_iff_ne.2 (fun e => h (Option.some.inj e))
      rw [h1, h2]; rfl
theorem pre_any (s : ByteArray) (w : World) : Calls Tryz.prog 74 #[.string s, .string ⟨#[47]⟩] w fun e w' => e = .returned (.bool (s.data.toList.head? == some 47)) ∧ w' = w := by
  have h := Tryz.strings_HasPrefix s ⟨#[47]⟩ w
  rw [show Lib.hasPrefix s.data.toList (ByteArray.mk #[47]).data.toList = _ from has_head _] at h
  exact h

attribute [local irreducible] Int.lt Int.le
set_option maxRecDepth 100000 in
set_option maxHeartbeats 2000000 in
theorem split_any (s : ByteArray) (w : World) (hM : Mx w) (hs : s.size ≤ 1048576) :
    Calls Tryz.prog 54 #[.string s] w fun e w' => ∃ v, e = .returned (.tuple #[v, .bool (splB s.data.toList), .bool (splOk s.data.toList)]) ∧ TL w.heap.size w' v (splN s.data.toList) ∧ Below w.heap.size w w' := by
  have hl := size_list s
  by_cases h0 : s.size = 0
  · have hk : splOk s.data.toList = false := splOk_no (Or.inl (by omega))
    have hb : splB s.data.toList = false := by unfold splB; rw [hk]; rfl
    have hn : splN s.data.toList = [] := by unfold splN; rw [hk]; rfl
    rw [hk, hb, hn]
    obtain rfl := empty_toList h0
    clear hk hb hn hl h0 hs hM
    go_enter Tryz.func54, Tryz.ntmps54
    go_wp2_with fail
    go_ret3
    exact ⟨_, rfl, TL.nil _ _, Below.refl _ _⟩
  · have h1 := str_toList_ne (s := s) (by omega)
    have h2 := str_some s (by omega)
    by_cases h3 : s.size ≤ 60
    · have h4 : (s.size : Int) ≤ 60 := by omega
      obtain ⟨m, hm⟩ := hM
      have c1 := Tryz.strings_Split s ⟨#[47]⟩ m w (by omega) hm (by decide)
      have hlen : (pcs s.data.toList).length = Lib.countB s ⟨#[47]⟩ + 1 := by
        have := Lib.splitB_all ⟨#[47]⟩ (by decide) 0 _ s rfl
        rw [splitB_pcs] at this
        simpa using this
      rw [splitB_pcs, ← hlen] at c1
      obtain ⟨ps, hps⟩ : ∃ ps, ps = pcs s.data.toList := ⟨_, rfl⟩
      have hpl : ps.length ≤ 61 := by rw [hps]; have := pcs_len s.data.toList; omega
      have hk : splOk s.data.toList = (nePcs ps).all rightL := by rw [splOk_is (by omega) (by omega), hps]; rfl
      have hnm : namesL s.data.toList = nePcs ps := by rw [hps]; rfl
      have hsz : ∀ p ∈ (nePcs ps).map bs, p.size ≤ 1048576 := by
        intro p hp
        obtain ⟨x, hx, rfl⟩ := List.mem_map.1 hp
        rw [← hnm] at hx
        have := (namesL_sub _ _ hx).2.1
        rw [bs_size]; omega
      have hall := names_all s.data.toList
      rw [hnm] at hall
      rw [← hps] at c1
      have hpre := pre_any s
      have hB : splB s.data.toList = (splOk s.data.toList && s.data.toList.head? == some 47) := rfl
      have hN : splN s.data.toList = if splOk s.data.toList then (nePcs ps).map bs else [] := by unfold splN; rw [hnm]
      rw [hB, hN]
      rw [hk]
      have hlen2 : ((nePcs ps).map bs).length ≤ 61 := by simp; exact Nat.le_trans (nePcs_len ps) hpl
      generalize (s.data.toList.head? == some 47) = hd at *
      generalize hok : (nePcs ps).all rightL = ok at *
      generalize hR : (if ok = true then (nePcs ps).map bs else []) = R
      have HR := Lib.hid hR
      clear hR hok
      clear hlen hl hps hk hnm hB hN h3
      have Hsz := Lib.hid hsz
      have Hall := Lib.hid hall
      have Hpre := Lib.hid hpre
      clear hsz hall hpre hs hm
      obtain ⟨i0, hi, hz0, hz1, hz2⟩ := info_parts info_str
      go_enter Tryz.func54, Tryz.ntmps54
      go_wp2_with fail
      refine c1.mono ?_; rintro e w1 ⟨rfl, hw1⟩
      have bel1 : Below w.heap.size w w1 := by rw [hw1]; exact (Below.refl _ _).alloc (Nat.le_refl _) _
      have row1 : ∀ j (h : j < ps.length), w1.cell? ⟨w.heap.size, j, none⟩ = some (.string (bs ps[j])) := by
        intro j h
        rw [hw1, World.cell?_alloc_new]
        simp [h]
      have sz1 : w.heap.size < w1.heap.size := by rw [hw1]; simp
      clear hw1 c1
      go_wp2_with fail
      go_loopw [5, 18] (fun out i wr => ∃ j : Nat, j ≤ ps.length ∧ i = .int .i64 (j : Int) ∧ TL w1.heap.size wr out ((nePcs (ps.take j)).map bs) ∧ Below w1.heap.size w1 wr) (fun _ i _ => ps.length - (intOf i).toNat)
      case atStart => exact ⟨0, Nat.zero_le _, rfl, TL.nil _ _, Below.refl _ _⟩
      case round =>
        obtain ⟨j, hj, rfl, own, hb⟩ := hrel
        by_cases hlt : j < ps.length
        · have l1 : (j : Int) < (ps.length : Int) := by omega
          have l0 : (0 : Int) ≤ (j : Int) := by omega
          have x0 := (hb.cell (p := ⟨w.heap.size, j, none⟩) sz1).trans (row1 j hlt)
          have hbw := hb.size
          have hnl : (nePcs (ps.take j)).length ≤ j := Nat.le_trans (nePcs_len _) (by simp; omega)
          by_cases hp : ps[j] = []
          · have own2 := own
            rw [show (nePcs (ps.take j)).map bs = (nePcs (ps.take (j + 1))).map bs by rw [nePcs_take _ _ hlt, if_pos hp, List.append_nil]] at own2
            rw [hp] at x0
            have x1 : wr.cell? ⟨w.heap.size, j, none⟩ = some (.string ⟨#[]⟩) := x0
            have O := Lib.hid own2
            clear own own2 x0 row1 hp hnl
            go_wp2_with fail
            exact ⟨⟨j + 1, by omega, by go_num, O.out, hb⟩, by simp [intOf]; omega⟩
          · have q0 : 0 < (bs ps[j]).size := by rw [bs_size]; exact List.length_pos_iff.2 hp
            have g1 := str_toList_ne q0
            have g2 := str_some _ q0
            have e2 : (nePcs (ps.take j)).map bs ++ [bs ps[j]] = (nePcs (ps.take (j + 1))).map bs := by rw [nePcs_take _ _ hlt, if_neg hp]; simp
            have E2 := Lib.hid e2
            clear e2 row1 hp q0
            generalize bs ps[j] = p at *
            have nl : ((nePcs (ps.take j)).map bs).length ≤ 61 := by simp; omega
            generalize (nePcs (ps.take j)).map bs = done at *
            have O := own
            unfold TL at O
            go_wp2_with (first
              | (at_builtin; refine wpList_append_own _ rfl _ _ 45 rfl w1.heap.size 9 i0 (.string ByteArray.empty) 1 16 Tryz.underlying45 hi hz0 hz1 hz2 rfl (by decide) _ _ _ rfl (World.ownsRow.alloc O _) ⟨_, 0, none⟩ 1 1 [.string p] rfl rfl ?c1 ?c2 ?c3 ?c4 ?c5 ?_)
              | fail)
            case c1 =>
              intro j u hj
              match j, hj with
              | 0, hj => simp at hj; subst hj; simp [Addr.add]
            case c2 => intro u hu; simp at hu; subst hu; rfl
            case c3 => unfold maxLen; omega
            case c4 => omega
            case c5 => simp; omega
            intro v' W6 hown' hgrow _
            have RR := tl_push hbw own hown' hgrow
            rw [E2.out] at RR
            have O6 := Lib.hid RR.1
            have b6 := hb.trans RR.2
            clear hown' hgrow O own RR E2 hb x0
            go_wp2_with fail
            exact ⟨⟨j + 1, by omega, by go_num, O6.out, b6⟩, by simp [intOf]; omega⟩
        · obtain rfl : j = ps.length := by omega
          rw [List.take_length] at own
          obtain ⟨a, c, rfl, tr, hbl⟩ := own.tr
          have c2 := wcontains_any a c ((nePcs ps).map bs) wr (by omega) Hsz.out tr
          rw [Hall.out] at c2
          have own0 := own.mono bel1.size
          have bF := bel1.trans (hb.mono bel1.size)
          have O := Lib.hid own0
          have hp2 := Hpre.out wr
          clear own own0 tr hbl row1 Hsz Hall Hpre hb bel1
          generalize ((nePcs ps).map bs) = nm at *
          cases ok with
          | false =>
            obtain rfl : R = [] := HR.out.symm
            go_wp2_with fail
            refine c2.mono ?_; rintro e w2 ⟨rfl, rfl⟩
            go_wp2_with fail
            go_ret3
            exact ⟨_, rfl, TL.nil _ _, bF⟩
          | true =>
            obtain rfl : nm = R := HR.out
            go_wp2_with fail
            refine c2.mono ?_; rintro e w2 ⟨rfl, rfl⟩
            go_wp2_with fail
            refine hp2.mono ?_; rintro e w2 ⟨rfl, rfl⟩
            go_wp2_with fail
            go_ret3
            exact ⟨_, rfl, O.out, bF⟩
    · have h4 : (60 : Int) < (s.size : Int) := by omega
      have hk : splOk s.data.toList = false := splOk_no (Or.inr (by omega))
      have hb : splB s.data.toList = false := by unfold splB; rw [hk]; rfl
      have hn : splN s.data.toList = [] := by unfold splN; rw [hk]; rfl
      rw [hk, hb, hn]
      clear hk hb hn hl h0 hs hM h3
      go_enter Tryz.func54, Tryz.ntmps54
      go_wp2_with fail
      go_ret3
      exact ⟨_, rfl, TL.nil _ _, Below.refl _ _⟩
end Go.Proofs.YtfcgkjbifnhjjaaGreatDoor.St

namespace Go.Proofs.YtfcgkjbifnhjjaaGreatDoor.St
open Go.RowKit
set_option linter.unusedVariables false

theorem byte47' {b : UInt8} (h : b ≠ 47) : ¬ (b.toNat : Int) = 47 := fun e => h (UInt8.toNat_inj.1 (by show b.toNat = 47; omega))
theorem byte0' {b : UInt8} (h : b ≠ 0) : ¬ (b.toNat : Int) = 0 := fun e => h (UInt8.toNat_inj.1 (by show b.toNat = 0; omega))
theorem byte47 {b : UInt8} (h : b ≠ 47) : ((b.toNat : Int) == 47) = false := beq_eq_false_iff_ne.2 (byte47' h)
theorem byte0 {b : UInt8} (h : b ≠ 0) : ((b.toNat : Int) == 0) = false := beq_eq_false_iff_ne.2 (byte0' h)
theorem at_list (s : ByteArray) (j : Nat) (h : j < s.size) : ∃ h2, s.data.toList[j]'h2 = s[j] := ⟨by rw [size_list]; exact h, by simp; rfl⟩

attribute [local irreducible] Int.lt Int.le
set_option maxRecDepth 100000 in
theorem refRight_any (s : ByteArray) (w : World) (hs : s.size ≤ 1048576) :
    Calls Tryz.prog 90 #[.string s] w fun e w' => e = .returned (.bool (rightL s.data.toList)) ∧ w' = w := by
  have hl := size_list s
  generalize hR : rightL s.data.toList = R
  have HR := Lib.hid hR
  clear hR
  go_enter Tryz.func90, Tryz.ntmps90
  go_wp2_with fail
  go_loopw [3] (fun i wr => ∃ j : Nat, j ≤ s.size ∧ i = .int .i64 (j : Int) ∧ wr = w ∧ (∀ t (ht : t < s.size), t < j → s[t] ≠ 47 ∧ s[t] ≠ 0)) (fun i _ => s.size - (intOf i).toNat)
  case atStart => exact ⟨0, Nat.zero_le _, rfl, rfl, fun t _ ht => absurd ht (by omega)⟩
  case round =>
    obtain ⟨j, hj, rfl, rfl, hne⟩ := hrel
    by_cases hlt : j < s.size
    · have l1 : (j : Int) < (s.size : Int) := by omega
      have l0 : (0 : Int) ≤ (j : Int) := by omega
      obtain ⟨h2, hb⟩ := at_list s j hlt
      by_cases q1 : s[j] = 47
      · have hr : rightL s.data.toList = false := by
          have : s.data.toList.contains 47 = true := by
            rw [List.contains_iff_mem]
            exact List.mem_iff_getElem.2 ⟨j, h2, hb.trans q1⟩
          unfold rightL; rw [this]; simp
        obtain rfl : R = false := HR.out.symm.trans hr
        clear hne hr hb hl HR
        have e1 : ((s[j].toNat : Int) == 47) = true := by rw [q1]; rfl
        go_wp2_with fail
        go_ret
        exact ⟨rfl, rfl⟩
      · have e1 := byte47 q1
        have e1' := byte47' q1
        by_cases q2 : s[j] = 0
        · have hr : rightL s.data.toList = false := by
            have : s.data.toList.contains 0 = true := by
              rw [List.contains_iff_mem]
              exact List.mem_iff_getElem.2 ⟨j, h2, hb.trans q2⟩
            unfold rightL; rw [this]; simp
          obtain rfl : R = false := HR.out.symm.trans hr
          clear hne hr hb hl HR e1 e1' q1
          go_wp2_with fail
          go_ret
          exact ⟨rfl, rfl⟩
        · have e2 := byte0 q2
          have e2' := byte0' q2
          have hne2 : ∀ t (ht : t < s.size), t < j + 1 → s[t] ≠ 47 ∧ s[t] ≠ 0 := fun t ht h3 => by
            by_cases q : t = j
            · subst q; exact ⟨q1, q2⟩
            · exact hne t ht (by omega)
          have Hne := Lib.hid hne2
          clear hne hne2 hb hl
          go_wp2_with fail
          exact ⟨⟨j + 1, by omega, by go_num, trivial, Hne.out⟩, by simp [intOf] <;> omega⟩
    · obtain rfl : j = s.size := by omega
      have h47 : s.data.toList.contains 47 = false := by
        rw [← Bool.not_eq_true, List.contains_iff_mem]
        intro hc
        obtain ⟨k, hk, e⟩ := List.mem_iff_getElem.1 hc
        obtain ⟨_, hb⟩ := at_list s k (by omega)
        exact (hne k (by omega) (by omega)).1 (hb.symm.trans e)
      have h00 : s.data.toList.contains 0 = false := by
        rw [← Bool.not_eq_true, List.contains_iff_mem]
        intro hc
        obtain ⟨k, hk, e⟩ := List.mem_iff_getElem.1 hc
        obtain ⟨_, hb⟩ := at_list s k (by omega)
        exact (hne k (by omega) (by omega)).2 (hb.symm.trans e)
      have hr : rightL s.data.toList = (decide (1 ≤ (s.size : Int)) && decide ((s.size : Int) ≤ 14)) := by
        unfold rightL
        rw [h47, h00, hl]
        by_cases c : s.size = 0
        · have : s.data.toList = [] := List.eq_nil_of_length_eq_zero (by omega)
          rw [this, c]; rfl
        · have h1 : s.data.toList.isEmpty = false := by
            cases e : s.data.toList with
            | nil => rw [e] at hl; simp at hl; omega
            | cons a t => rfl
          rw [h1, decide_eq_true (by omega : 1 ≤ (s.size : Int))]
          have : decide (s.size ≤ 14) = decide ((s.size : Int) ≤ 14) := decide_eq_decide.2 ⟨fun h => by omega, fun h => by omega⟩
          rw [this]; simp
      have Hr := Lib.hid (HR.out.symm.trans hr)
      clear hne hr h47 h00 hl HR
      rcases (show s.size = 0 ∨ (0 < s.size ∧ (s.size : Int) ≤ 14) ∨ (0 < s.size ∧ (14 : Int) < s.size) by omega) with c | ⟨c, c2⟩ | ⟨c, c2⟩
      · have hz : R = false := by rw [Hr.out, c]; rfl
        obtain rfl := hz
        obtain rfl := empty_toList c
        clear hs hj hlt c Hr
        go_wp2_with fail
        go_ret
        exact ⟨rfl, rfl⟩
      · have c1 : (1 : Int) ≤ (s.size : Int) := by omega
        have hz : R = true := by rw [Hr.out, decide_eq_true c1, decide_eq_true c2]; rfl
        obtain rfl := hz
        clear Hr
        go_wp2_with fail
        go_ret
        exact ⟨rfl, rfl⟩
      · have c1 : (1 : Int) ≤ (s.size : Int) := by omega
        have hz : R = false := by rw [Hr.out, decide_eq_true c1, decide_eq_false (by omega : ¬ (s.size : Int) ≤ 14)]; rfl
        obtain rfl := hz
        clear Hr
        go_wp2_with fail
        go_ret
        exact ⟨by simp; omega, rfl⟩

theorem glue_end (cu : List UInt8) : nePcs (glue cu (pcs [])) = if cu = [] then [] else [cu] := by
  show nePcs [cu ++ []] = _
  rw [List.append_nil, nePcs_cons]; simp [nePcs]
theorem glue_slash (cu t : List UInt8) : nePcs (glue cu (pcs (47 :: t))) = (if cu = [] then [] else [cu]) ++ nePcs (glue [] (pcs t)) := by
  rw [pcs_slash, glue_nil (pcs_ne t)]
  show nePcs ((cu ++ []) :: pcs t) = _
  rw [List.append_nil, nePcs_cons]
theorem glue_names (l : List UInt8) : namesL l = nePcs (glue [] (pcs (l.drop 0))) := by rw [List.drop_zero, glue_nil (pcs_ne l)]; rfl
theorem bs_append (a b : List UInt8) : bs a ++ bs b = bs (a ++ b) := by
  apply ByteArray.ext; unfold bs; simp

set_option maxRecDepth 100000 in
set_option maxHeartbeats 2000000 in
theorem refSplit_any (s : ByteArray) (w : World) (hs : s.size ≤ 1048576) :
    Calls Tryz.prog 57 #[.string s] w fun e w' => ∃ v, e = .returned (.tuple #[v, .bool (splB s.data.toList), .bool (splOk s.data.toList)]) ∧ TL w.heap.size w' v (splN s.data.toList) ∧ Below w.heap.size w w' := by
  have hl := size_list s
  by_cases h0 : s.size = 0
  · have hk : splOk s.data.toList = false := splOk_no (Or.inl (by omega))
    have hb : splB s.data.toList = false := by unfold splB; rw [hk]; rfl
    have hn : splN s.data.toList = [] := by unfold splN; rw [hk]; rfl
    rw [hk, hb, hn]
    obtain rfl := empty_toList h0
    clear hk hb hn hl h0 hs
    go_enter Tryz.func57, Tryz.ntmps57
    go_wp2_with fail
    go_ret3
    exact ⟨_, rfl, TL.nil _ _, Below.refl _ _⟩
  by_cases h3 : 60 < s.size
  · have h4 : (60 : Int) < (s.size : Int) := by omega
    have h5 : (1 : Int) ≤ (s.size : Int) := by omega
    have hk : splOk s.data.toList = false := splOk_no (Or.inr (by omega))
    have hb : splB s.data.toList = false := by unfold splB; rw [hk]; rfl
    have hn : splN s.data.toList = [] := by unfold splN; rw [hk]; rfl
    rw [hk, hb, hn]
    clear hk hb hn hl h0 hs h3
    go_enter Tryz.func57, Tryz.ntmps57
    go_wp2_with fail
    go_ret3
    exact ⟨_, rfl, TL.nil _ _, Below.refl _ _⟩
  have h4 : (s.size : Int) ≤ 60 := by omega
  have h5 : (1 : Int) ≤ (s.size : Int) := by omega
  obtain ⟨l, hls⟩ : ∃ l, l = s.data.toList := ⟨_, rfl⟩
  rw [← hls] at hl ⊢
  have hok : splOk l = (namesL l).all rightL := splOk_is (by omega) (by omega)
  have hB : splB l = (splOk l && l.head? == some 47) := rfl
  have hN : splN l = if splOk l then (namesL l).map bs else [] := rfl
  have Hok := Lib.hid hok
  have HN := Lib.hid hN
  have HB := Lib.hid hB
  have Hls := Lib.hid hls
  have Hl := Lib.hid hl
  clear hok hB hN hls hl h0 h3 hs
  generalize splOk l = ok at *
  generalize splB l = B at *
  generalize splN l = N at *
  obtain ⟨i0, hi, hz0, hz1, hz2⟩ := info_parts info_str
  go_enter Tryz.func57, Tryz.ntmps57
  go_wp2_with fail
  go_loopw [5, 6, 7] (fun out cv i wr => ∃ (j : Nat) (cu : List UInt8) (done : List (List UInt8)), j ≤ s.size + 1 ∧ i = .int .i64 (j : Int) ∧ cv = .string (bs cu) ∧ cu.length ≤ j ∧ done.length ≤ j ∧ TL w.heap.size wr out (done.map bs) ∧ Below w.heap.size w wr ∧ done.all rightL = true ∧
    (j ≤ s.size → namesL l = done ++ nePcs (glue cu (pcs (l.drop j)))) ∧ (j = s.size + 1 → namesL l = done)) (fun _ _ i _ => s.size + 1 - (intOf i).toNat)
  case atStart => exact ⟨0, [], [], Nat.zero_le _, rfl, rfl, Nat.le_refl _, Nat.le_refl _, TL.nil _ _, Below.refl _ _, rfl, fun _ => by rw [List.nil_append]; exact glue_names l, fun h => by omega⟩
  case round =>
    obtain ⟨j, cu, done, hj, rfl, rfl, hcu, hdn, own, hb, hda, hn1, hn2⟩ := hrel
    by_cases hlt : j < s.size + 1
    · have l1 : (j : Int) ≤ (s.size : Int) := by omega
      have l0 : (0 : Int) ≤ (j : Int) := by omega
      have hnm := hn1 (by omega)
      clear hn1 hn2
      by_cases hA : ∃ h : j < s.size, s[j] ≠ 47
      · obtain ⟨hjn, q1⟩ := hA
        have l2 : (j : Int) < (s.size : Int) := by omega
        have l3 : (j : Int) + 1 ≤ (s.size : Int) := by omega
        have l4 : (0 : Int) ≤ (j : Int) + 1 := by omega
        have l5 : (j : Int) ≤ (j : Int) + 1 := by omega
        have e1 := byte47 q1
        have e1' := byte47' q1
        obtain ⟨h2, hbj⟩ := at_list s j hjn
        have hdrop : l.drop j = s[j] :: l.drop (j + 1) := by
          rw [Hls.out, List.drop_eq_getElem_cons h2, hbj]
        have hnm2 : namesL l = done ++ nePcs (glue (cu ++ [s[j]]) (pcs (l.drop (j + 1)))) := by rw [hnm, hdrop, glue_step _ _ _ q1]
        have hx : bs cu ++ s.extract j (j + 1) = bs (cu ++ [s[j]]) := by
          rw [← bs_append]
          congr 1
          apply ByteArray.ext
          apply Array.toList_inj.1
          rw [Lib.extract_data]
          unfold bs
          simp
          rw [List.drop_eq_getElem_cons (by simpa using h2)]
          simp
          rfl
        have hsz : (bs cu).size ≤ 60 := by rw [bs_size]; omega
        have Hnm := Lib.hid hnm2
        have Hx := Lib.hid hx
        clear hnm hnm2 hx hdrop hbj
        have Hda := Lib.hid hda
        have hsz2 := hsz
        have O := Lib.hid own
        clear own hda hsz
        generalize hC : bs cu = C at *
        have HC := Lib.hid hC
        clear hC
        go_wp2_with fail
        exact ⟨⟨j + 1, cu ++ [s[j]], done, by omega, by go_num, by rw [Hx.out], by simp; omega, by omega, O.out, hb, Hda.out, fun _ => Hnm.out, fun h => by omega⟩, by simp [intOf] <;> omega⟩
      · -- a slash, or the end
        have hrest : ∃ rest, namesL l = done ++ ((if cu = [] then [] else [cu]) ++ rest) ∧ (j + 1 ≤ s.size → rest = nePcs (glue [] (pcs (l.drop (j + 1))))) ∧ (j + 1 = s.size + 1 → rest = []) := by
          by_cases hjn : j < s.size
          · have q1 : s[j] = 47 := Classical.byContradiction fun q => hA ⟨hjn, q⟩
            obtain ⟨h2, hbj⟩ := at_list s j hjn
            have hdrop : l.drop j = 47 :: l.drop (j + 1) := by
              rw [Hls.out, List.drop_eq_getElem_cons h2, hbj, q1]
            exact ⟨nePcs (glue [] (pcs (l.drop (j + 1)))), by rw [hnm, hdrop, glue_slash], fun _ => rfl, fun h => by omega⟩
          · have hd : l.drop j = [] := List.drop_eq_nil_of_le (by rw [Hl.out]; omega)
            exact ⟨[], by rw [hnm, hd, glue_end, List.append_nil], fun h => by omega, fun _ => rfl⟩
        obtain ⟨rest, hr1, hr2, hr3⟩ := hrest
        have htest : (j : Int) = s.size ∨ ∃ h : j < s.size, (j : Int) < (s.size : Int) ∧ ((s[j].toNat : Int) == 47) = true ∧ (s[j].toNat : Int) = 47 := by
          by_cases hjn : j < s.size
          · have q1 : s[j] = 47 := Classical.byContradiction fun q => hA ⟨hjn, q⟩
            exact Or.inr ⟨hjn, by omega, by rw [q1]; rfl, by rw [q1]; rfl⟩
          · exact Or.inl (by omega)
        have bwr := hb.size
        have Hda := Lib.hid hda
        clear hnm hA hda
        by_cases hc : cu = []
        · subst hc
          rw [if_pos rfl, List.nil_append] at hr1
          have n1 : j + 1 ≤ s.size → namesL l = done ++ nePcs (glue [] (pcs (l.drop (j + 1)))) := fun h => by rw [hr1, hr2 h]
          have n2 : j + 1 = s.size + 1 → namesL l = done := fun h => by rw [hr1, hr3 h, List.append_nil]
          have N1 := Lib.hid n1
          have N2 := Lib.hid n2
          have hbs : bs [] = ⟨#[]⟩ := rfl
          rw [hbs]
          have O := Lib.hid own
          clear own hr1 hr2 hr3 n1 n2 hbs hcu
          rcases htest with c | ⟨hjn, c, e1, e1'⟩
          · obtain rfl : j = s.size := by omega
            clear c
            go_wp2_with fail
            exact ⟨⟨s.size + 1, [], done, by omega, by go_num, rfl, by simp, by omega, O.out, hb, Hda.out, N1.out, N2.out⟩, by simp [intOf] <;> omega⟩
          · go_wp2_with fail
            exact ⟨⟨j + 1, [], done, by omega, by go_num, rfl, by simp, by omega, O.out, hb, Hda.out, N1.out, N2.out⟩, by simp [intOf] <;> omega⟩
        · rw [if_neg hc] at hr1
          have q0 : 0 < (bs cu).size := by rw [bs_size]; exact List.length_pos_iff.2 hc
          have g1 := str_toList_ne q0
          have g2 := str_some _ q0
          have cr := refRight_any (bs cu) wr (by rw [bs_size]; omega)
          rw [list_bs] at cr
          cases hv : rightL cu with
          | false =>
            have hko : ok = false := by
              rw [Hok.out, hr1, List.all_append, List.all_append]
              simp [hv]
            subst hko
            obtain rfl : B = false := HB.out
            obtain rfl : N = [] := by rw [HN.out]; rfl
            rw [hv] at cr
            clear hr1 hr2 hr3 own hv Hda hc q0 hcu HB HN Hok
            generalize bs cu = C at *
            rcases htest with c | ⟨hjn, c, e1, e1'⟩
            · obtain rfl : j = s.size := by omega
              clear c
              go_wp2_with fail
              refine cr.mono ?_; rintro e w2 ⟨rfl, rfl⟩
              go_wp2_with fail
              go_ret3
              exact ⟨_, rfl, TL.nil _ _, hb⟩
            · go_wp2_with fail
              refine cr.mono ?_; rintro e w2 ⟨rfl, rfl⟩
              go_wp2_with fail
              go_ret3
              exact ⟨_, rfl, TL.nil _ _, hb⟩
          | true =>
            rw [hv] at cr
            have n1 : j + 1 ≤ s.size → namesL l = (done ++ [cu]) ++ nePcs (glue [] (pcs (l.drop (j + 1)))) := fun h => by rw [hr1, hr2 h]; simp
            have n2 : j + 1 = s.size + 1 → namesL l = done ++ [cu] := fun h => by rw [hr1, hr3 h]; simp
            have da : (done ++ [cu]).all rightL = true := by rw [List.all_append, Hda.out]; simp [hv]
            have e2 : done.map bs ++ [bs cu] = (done ++ [cu]).map bs := by simp
            have N1 := Lib.hid n1
            have N2 := Lib.hid n2
            have DA := Lib.hid da
            have E2 := Lib.hid e2
            have hnl : (done.map bs).length ≤ 61 := by simp; omega
            clear hr1 hr2 hr3 hv Hda hc q0 hcu n1 n2 da e2
            generalize bs cu = C at *
            generalize done.map bs = dn at *
            have O := own
            unfold TL at O
            rcases htest with c | ⟨hjn, c, e1, e1'⟩
            case' inl => obtain rfl : j = s.size := by omega
            all_goals
              go_wp2_with fail
              refine cr.mono ?_; rintro e w2 ⟨rfl, rfl⟩
              go_wp2_with (first
                | (at_builtin; refine wpList_append_own _ rfl _ _ 45 rfl w.heap.size 9 i0 (.string ByteArray.empty) 1 16 Tryz.underlying45 hi hz0 hz1 hz2 rfl (by decide) _ _ _ rfl (World.ownsRow.alloc O _) ⟨_, 0, none⟩ 1 1 [.string C] rfl rfl ?c1 ?c2 ?c3 ?c4 ?c5 ?_)
                | fail)
              case c1 =>
                intro j u hj
                match j, hj with
                | 0, hj => simp at hj; subst hj; simp [Addr.add]
              case c2 => intro u hu; simp at hu; subst hu; rfl
              case c3 => unfold maxLen; omega
              case c4 => omega
              case c5 => simp; omega
              intro v' W6 hown' hgrow _
              have RR := tl_push bwr own hown' hgrow
              rw [E2.out] at RR
              have O6 := Lib.hid RR.1
              have b6 := hb.trans RR.2
              clear hown' hgrow O own RR E2 hb
              go_wp2_with fail
              exact ⟨⟨_ + 1, [], done ++ [cu], by omega, by go_num, rfl, by simp, by simp; omega, O6.out, b6, DA.out, N1.out, fun h => N2.out (by first | trivial | exact h)⟩, by simp [intOf] <;> omega⟩
    · obtain rfl : j = s.size + 1 := by omega
      have hnm := hn2 rfl
      have hko : ok = true := by rw [Hok.out, hnm]; exact hda
      subst hko
      obtain rfl : N = done.map bs := by rw [HN.out, hnm]; rfl
      have hp : 0 < s.size := by omega
      have hhd : l.head? = some s[0] := by
        obtain ⟨h2, hb0⟩ := at_list s 0 hp
        rw [Hls.out, List.head?_eq_getElem?, List.getElem?_eq_getElem h2, hb0]
      have hB2 : B = ((s[0].toNat : Int) == 47) := by
        rw [HB.out, hhd]
        by_cases q : s[0] = 47
        · rw [q]; rfl
        · rw [byte47 q]
          show (some s[0] == some 47) = false
          exact beq_eq_false_iff_ne.2 (fun e => q (Option.some.inj e))
      obtain rfl := hB2
      obtain ⟨a, c, rfl, tr, hbl⟩ := own.tr
      have O := Lib.hid own
      have l0 : ¬ (s.size : Int) + 1 ≤ (s.size : Int) := by omega
      have l1 : (0 : Int) < (s.size : Int) := by omega
      clear hn1 hn2 hda own tr hbl hnm hhd HB HN Hok Hls Hl
      go_wp2_with fail
      go_quiet (fail)
      have b2 := below_drewN hb nq
      have O2 : TL w.heap.size (wr.drewN nq) (.slice a (done.map bs).length c) (done.map bs) := O.out.below (below_drewN (Below.refl _ _) nq)
      rw [List.length_map] at O2
      generalize wr.drewN nq = W at *
      clear O hb
      go_wp2_with fail
      go_ret3
      exact ⟨_, rfl, O2, b2⟩
end Go.Proofs.YtfcgkjbifnhjjaaGreatDoor.St
