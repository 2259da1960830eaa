/- The contract of name.Split: a path's names. For a text of at most 2^20 bytes, where bytealg's variable holds a number. -/
import Derived.Test.YtcefigpdodlonaaDoorNmA
import Derived.Laws.AppendOwn
import Derived.OwnWalk
import Derived.LoopTactic
namespace Go.Proofs.YtcefigpdodlonaaDoor.St
open Go.RowKit
set_option linter.unusedVariables false

theorem info_str : (Tryd.prog.info? 9).map (fun i => (i.zero, i.size, i.bytes)) = some (some (.string ByteArray.empty), 1, 16) := by kernel_rfl
/-- The library's variable holds a number. -/
def Mx (w : World) : Prop := ∃ m, w.cell? ⟨0, 0, none⟩ = some (.int .i64 m)
theorem Mx.below {B : Nat} {w w' : World} (h : Mx w) (hB : w.heap.size ≤ B) (hb : Below B w w') : Mx w' := by
  obtain ⟨m, hm⟩ := h
  have := World.block_lt_of_cell? _ _ hm
  exact ⟨m, (hb.cell (by simp at this ⊢; omega)).trans hm⟩

theorem lt_of_heap {W : World} {b : Nat} {o : Obj} (h : W.heap[b]? = some o) : b < W.heap.size := (Array.getElem?_eq_some_iff.1 h).1
/-- A list of texts in blocks from B on. -/
def TL (B : Nat) (W : World) (v : Value) (ps : List ByteArray) : Prop := W.ownsRow B 9 1 v ps.length (ps.map Value.string)
theorem TL.nil (B : Nat) (W : World) : TL B W (.slice none 0 0) [] := World.ownsRow_nil _ _ _ _
theorem TL.keep {B : Nat} {W W' : World} {v : Value} {ps : List ByteArray} (h : TL B W v ps) (hb : ∀ g, B ≤ g → g < W.heap.size → W'.heap[g]? = W.heap[g]?) : TL B W' v ps := by
  refine ⟨h.1, ?_⟩
  rcases h.2 with q | ⟨g, cap, cur, h1, h2, h3, h4⟩
  · exact Or.inl q
  · exact Or.inr ⟨g, cap, cur, h1, h2, (hb g h2 (lt_of_heap h3)).trans h3, h4⟩
theorem TL.below {B : Nat} {W W' : World} {v : Value} {ps : List ByteArray} (h : TL B W v ps) (hb : Below W.heap.size W W') : TL B W' v ps := h.keep fun g _ hg => hb.block g hg
theorem TL.mono {B C : Nat} {W : World} {v : Value} {ps : List ByteArray} (h : TL B W v ps) (hc : C ≤ B) : TL C W v ps := by
  refine ⟨h.1, ?_⟩
  rcases h.2 with q | ⟨g, cap, cur, h1, h2, h3, h4⟩
  · exact Or.inl q
  · exact Or.inr ⟨g, cap, cur, h1, by omega, h3, h4⟩
theorem TL.tr {B : Nat} {W : World} {v : Value} {ps : List ByteArray} (h : TL B W v ps) : ∃ a c, v = .slice a ps.length c ∧ TR W a ps ∧ ∀ x, a = some x → B ≤ x.block := by
  rcases h.2 with ⟨rfl, h0⟩ | ⟨g, cap, cur, e', h2, _⟩
  · exact ⟨none, 0, by rw [h0], fun i hi => by omega, fun x hx => by cases hx⟩
  · refine ⟨_, _, e', fun i hi => ⟨_, rfl, ?_⟩, fun x hx => by cases hx; exact h2⟩
    subst e'
    refine World.ownsRow.cells h rfl i _ ?_
    simp [List.getElem?_eq_getElem hi]
/-- An append to a list that is the call's own. -/
theorem tl_push {B : Nat} {wr w1 : World} {v v' : Value} {o : Obj} {ps : List ByteArray} {p : ByteArray} (hB : B ≤ wr.heap.size) (hown : TL B wr v ps)
    (hown' : w1.ownsRow B 9 1 v' (ps.length + 1) (ps.map Value.string ++ [.string p])) (hgrow : (wr.alloc o).grownBy w1 v.ownBlock) :
    TL B w1 v' (ps ++ [p]) ∧ Below B wr w1 :=
  ⟨by simpa [TL] using hown', ((Below.refl B wr).alloc hB o).grown hgrow (by simp; omega) (fun j hj => by have := (World.ownsRow.lt hown j hj).1; omega)⟩

theorem splOk_no {l : List UInt8} (h : l.length = 0 ∨ 60 < l.length) : splOk l = false := by
  unfold splOk
  rcases h with h | h
  · rw [List.eq_nil_of_length_eq_zero h]; rfl
  · rw [decide_eq_false (by omega : ¬ l.length ≤ 60)]; simp
theorem splOk_is {l : List UInt8} (h1 : 0 < l.length) (h2 : l.length ≤ 60) : splOk l = (namesL l).all rightL := by
  unfold splOk
  rw [decide_eq_true h2]
  cases l with
  | nil => simp at h1
  | cons a t => simp
theorem names_all (l : List UInt8) : (((namesL l).map bs).all fun p => rightL p.data.toList) = (namesL l).all rightL := by
  rw [List.all_map]
  congr 1
theorem nePcs_take (ps : List (List UInt8)) (j : Nat) (h : j < ps.length) : nePcs (ps.take (j + 1)) = nePcs (ps.take j) ++ (if ps[j] = [] then [] else [ps[j]]) := by
  rw [List.take_succ_eq_append_getElem h, nePcs_append, nePcs_cons]
  simp [nePcs]
theorem has_head (l : List UInt8) : Lib.hasPrefix l [47] = (l.head? == some 47) := by
  show ([47] : List UInt8).isPrefixOf l = _
  cases l with
  | nil => rfl
  | cons a t =>
    show ((47 == a) && ([] : List UInt8).isPrefixOf t) = (some a == some 47)
    by_cases h : a = 47
    · subst h; rfl
    · have h1 : (47 == a) = false := beq_eq_false_iff_ne.2 (fun e => h e.symm)
      have h2 : (some a == some (47 : UInt8)) = false := beq_eq_false_iff_ne.2 (fun e => h (Option.some.inj e))
      rw [h1, h2]; rfl
theorem pre_any (s : ByteArray) (w : World) : Calls Tryd.prog 44 #[.string s, .string ⟨#[47]⟩] w fun e w' => e = .returned (.bool (s.data.toList.head? == some 47)) ∧ w' = w := by
  have h := Tryd.strings_HasPrefix s ⟨#[47]⟩ w
  rw [show Lib.hasPrefix s.data.toList (ByteArray.mk #[47]).data.toList = _ from has_head _] at h
  exact h

attribute [local irreducible] Int.lt Int.le
set_option maxRecDepth 100000 in
set_option maxHeartbeats 2000000 in
theorem split_any (s : ByteArray) (w : World) (hM : Mx w) (hs : s.size ≤ 1048576) :
    Calls Tryd.prog 17 #[.string s] w fun e w' => ∃ v, e = .returned (.tuple #[v, .bool (splB s.data.toList), .bool (splOk s.data.toList)]) ∧ TL w.heap.size w' v (splN s.data.toList) ∧ Below w.heap.size w w' := by
  have hl := size_list s
  by_cases h0 : s.size = 0
  · have hk : splOk s.data.toList = false := splOk_no (Or.inl (by omega))
    have hb : splB s.data.toList = false := by unfold splB; rw [hk]; rfl
    have hn : splN s.data.toList = [] := by unfold splN; rw [hk]; rfl
    rw [hk, hb, hn]
    obtain rfl := empty_toList h0
    clear hk hb hn hl h0 hs hM
    go_enter Tryd.func17, Tryd.ntmps17
    go_wp2_with fail
    go_ret3
    exact ⟨_, rfl, TL.nil _ _, Below.refl _ _⟩
  · have h1 := str_toList_ne (s := s) (by omega)
    have h2 := str_some s (by omega)
    by_cases h3 : s.size ≤ 60
    · have h4 : (s.size : Int) ≤ 60 := by omega
      obtain ⟨m, hm⟩ := hM
      have c1 := Tryd.strings_Split s ⟨#[47]⟩ m w (by omega) hm (by decide)
      have hlen : (pcs s.data.toList).length = Lib.countB s ⟨#[47]⟩ + 1 := by
        have := Lib.splitB_all ⟨#[47]⟩ (by decide) 0 _ s rfl
        rw [splitB_pcs] at this
        simpa using this
      rw [splitB_pcs, ← hlen] at c1
      obtain ⟨ps, hps⟩ : ∃ ps, ps = pcs s.data.toList := ⟨_, rfl⟩
      have hpl : ps.length ≤ 61 := by rw [hps]; have := pcs_len s.data.toList; omega
      have hk : splOk s.data.toList = (nePcs ps).all rightL := by rw [splOk_is (by omega) (by omega), hps]; rfl
      have hnm : namesL s.data.toList = nePcs ps := by rw [hps]; rfl
      have hsz : ∀ p ∈ (nePcs ps).map bs, p.size ≤ 1048576 := by
        intro p hp
        obtain ⟨x, hx, rfl⟩ := List.mem_map.1 hp
        rw [← hnm] at hx
        have := (namesL_sub _ _ hx).2.1
        rw [bs_size]; omega
      have hall := names_all s.data.toList
      rw [hnm] at hall
      rw [← hps] at c1
      have hpre := pre_any s
      have hB : splB s.data.toList = (splOk s.data.toList && s.data.toList.head? == some 47) := rfl
      have hN : splN s.data.toList = if splOk s.data.toList then (nePcs ps).map bs else [] := by unfold splN; rw [hnm]
      rw [hB, hN]
      rw [hk]
      have hlen2 : ((nePcs ps).map bs).length ≤ 61 := by simp; exact Nat.le_trans (nePcs_len ps) hpl
      generalize (s.data.toList.head? == some 47) = hd at *
      generalize hok : (nePcs ps).all rightL = ok at *
      generalize hR : (if ok = true then (nePcs ps).map bs else []) = R
      have HR := Lib.hid hR
      clear hR hok
      clear hlen hl hps hk hnm hB hN h3
      have Hsz := Lib.hid hsz
      have Hall := Lib.hid hall
      have Hpre := Lib.hid hpre
      clear hsz hall hpre hs hm
      obtain ⟨i0, hi, hz0, hz1, hz2⟩ := info_parts info_str
      go_enter Tryd.func17, Tryd.ntmps17
      go_wp2_with fail
      refine c1.mono ?_; rintro e w1 ⟨rfl, hw1⟩
      have bel1 : Below w.heap.size w w1 := by rw [hw1]; exact (Below.refl _ _).alloc (Nat.le_refl _) _
      have row1 : ∀ j (h : j < ps.length), w1.cell? ⟨w.heap.size, j, none⟩ = some (.string (bs ps[j])) := by
        intro j h
        rw [hw1, World.cell?_alloc_new]
        simp [h]
      have sz1 : w.heap.size < w1.heap.size := by rw [hw1]; simp
      clear hw1 c1
      go_wp2_with fail
      go_loopw [5, 18] (fun out i wr => ∃ j : Nat, j ≤ ps.length ∧ i = .int .i64 (j : Int) ∧ TL w1.heap.size wr out ((nePcs (ps.take j)).map bs) ∧ Below w1.heap.size w1 wr) (fun _ i _ => ps.length - (intOf i).toNat)
      case atStart => exact ⟨0, Nat.zero_le _, rfl, TL.nil _ _, Below.refl _ _⟩
      case round =>
        obtain ⟨j, hj, rfl, own, hb⟩ := hrel
        by_cases hlt : j < ps.length
        · have l1 : (j : Int) < (ps.length : Int) := by omega
          have l0 : (0 : Int) ≤ (j : Int) := by omega
          have x0 := (hb.cell (p := ⟨w.heap.size, j, none⟩) sz1).trans (row1 j hlt)
          have hbw := hb.size
          have hnl : (nePcs (ps.take j)).length ≤ j := Nat.le_trans (nePcs_len _) (by simp; omega)
          by_cases hp : ps[j] = []
          · have own2 := own
            rw [show (nePcs (ps.take j)).map bs = (nePcs (ps.take (j + 1))).map bs by rw [nePcs_take _ _ hlt, if_pos hp, List.append_nil]] at own2
            rw [hp] at x0
            have x1 : wr.cell? ⟨w.heap.size, j, none⟩ = some (.string ⟨#[]⟩) := x0
            have O := Lib.hid own2
            clear own own2 x0 row1 hp hnl
            go_wp2_with fail
            exact ⟨⟨j + 1, by omega, by go_num, O.out, hb⟩, by simp [intOf]; omega⟩
          · have q0 : 0 < (bs ps[j]).size := by rw [bs_size]; exact List.length_pos_iff.2 hp
            have g1 := str_toList_ne q0
            have g2 := str_some _ q0
            have e2 : (nePcs (ps.take j)).map bs ++ [bs ps[j]] = (nePcs (ps.take (j + 1))).map bs := by rw [nePcs_take _ _ hlt, if_neg hp]; simp
            have E2 := Lib.hid e2
            clear e2 row1 hp q0
            generalize bs ps[j] = p at *
            have nl : ((nePcs (ps.take j)).map bs).length ≤ 61 := by simp; omega
            generalize (nePcs (ps.take j)).map bs = done at *
            have O := own
            unfold TL at O
            go_wp2_with (first
              | (at_builtin; refine wpList_append_own _ rfl _ _ 46 rfl w1.heap.size 9 i0 (.string ByteArray.empty) 1 16 Tryd.underlying46 hi hz0 hz1 hz2 rfl (by decide) _ _ _ rfl (World.ownsRow.alloc O _) ⟨_, 0, none⟩ 1 1 [.string p] rfl rfl ?c1 ?c2 ?c3 ?c4 ?c5 ?_)
              | fail)
            case c1 =>
              intro j u hj
              match j, hj with
              | 0, hj => simp at hj; subst hj; simp [Addr.add]
            case c2 => intro u hu; simp at hu; subst hu; rfl
            case c3 => unfold maxLen; omega
            case c4 => omega
            case c5 => simp; omega
            intro v' W6 hown' hgrow _
            have RR := tl_push hbw own hown' hgrow
            rw [E2.out] at RR
            have O6 := Lib.hid RR.1
            have b6 := hb.trans RR.2
            clear hown' hgrow O own RR E2 hb x0
            go_wp2_with fail
            exact ⟨⟨j + 1, by omega, by go_num, O6.out, b6⟩, by simp [intOf]; omega⟩
        · obtain rfl : j = ps.length := by omega
          rw [List.take_length] at own
          obtain ⟨a, c, rfl, tr, hbl⟩ := own.tr
          have c2 := wcontains_any a c ((nePcs ps).map bs) wr (by omega) Hsz.out tr
          rw [Hall.out] at c2
          have own0 := own.mono bel1.size
          have bF := bel1.trans (hb.mono bel1.size)
          have O := Lib.hid own0
          have hp2 := Hpre.out wr
          clear own own0 tr hbl row1 Hsz Hall Hpre hb bel1
          generalize ((nePcs ps).map bs) = nm at *
          cases ok with
          | false =>
            obtain rfl : R = [] := HR.out.symm
            go_wp2_with fail
            refine c2.mono ?_; rintro e w2 ⟨rfl, rfl⟩
            go_wp2_with fail
            go_ret3
            exact ⟨_, rfl, TL.nil _ _, bF⟩
          | true =>
            obtain rfl : nm = R := HR.out
            go_wp2_with fail
            refine c2.mono ?_; rintro e w2 ⟨rfl, rfl⟩
            go_wp2_with fail
            refine hp2.mono ?_; rintro e w2 ⟨rfl, rfl⟩
            go_wp2_with fail
            go_ret3
            exact ⟨_, rfl, O.out, bF⟩
    · have h4 : (60 : Int) < (s.size : Int) := by omega
      have hk : splOk s.data.toList = false := splOk_no (Or.inr (by omega))
      have hb : splB s.data.toList = false := by unfold splB; rw [hk]; rfl
      have hn : splN s.data.toList = [] := by unfold splN; rw [hk]; rfl
      rw [hk, hb, hn]
      clear hk hb hn hl h0 hs hM h3
      go_enter Tryd.func17, Tryd.ntmps17
      go_wp2_with fail
      go_ret3
      exact ⟨_, rfl, TL.nil _ _, Below.refl _ _⟩
end Go.Proofs.YtcefigpdodlonaaDoor.St
