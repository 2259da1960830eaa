/- The contracts of the document's own RightName and Split: the same names of a path. For a text of at most 2^20 bytes. -/
import Derived.Test.YtjgdohcclkomoaaDoorNmB
namespace Go.Proofs.YtjgdohcclkomoaaDoor.St
open Go.RowKit
set_option linter.unusedVariables false

theorem byte47' {b : UInt8} (h : b ≠ 47) : ¬ (b.toNat : Int) = 47 := fun e => h (UInt8.toNat_inj.1 (by show b.toNat = 47; omega))
theorem byte0' {b : UInt8} (h : b ≠ 0) : ¬ (b.toNat : Int) = 0 := fun e => h (UInt8.toNat_inj.1 (by show b.toNat = 0; omega))
theorem byte47 {b : UInt8} (h : b ≠ 47) : ((b.toNat : Int) == 47) = false := beq_eq_false_iff_ne.2 (byte47' h)
theorem byte0 {b : UInt8} (h : b ≠ 0) : ((b.toNat : Int) == 0) = false := beq_eq_false_iff_ne.2 (byte0' h)
theorem at_list (s : ByteArray) (j : Nat) (h : j < s.size) : ∃ h2, s.data.toList[j]'h2 = s[j] := ⟨by rw [size_list]; exact h, by simp; rfl⟩

attribute [local irreducible] Int.lt Int.le
set_option maxRecDepth 100000 in
theorem refRight_any (s : ByteArray) (w : World) (hs : s.size ≤ 1048576) :
    Calls Tryd.prog 15 #[.string s] w fun e w' => e = .returned (.bool (rightL s.data.toList)) ∧ w' = w := by
  have hl := size_list s
  generalize hR : rightL s.data.toList = R
  have HR := Lib.hid hR
  clear hR
  go_enter Tryd.func15, Tryd.ntmps15
  go_wp2_with fail
  go_loopw [3] (fun i wr => ∃ j : Nat, j ≤ s.size ∧ i = .int .i64 (j : Int) ∧ wr = w ∧ (∀ t (ht : t < s.size), t < j → s[t] ≠ 47 ∧ s[t] ≠ 0)) (fun i _ => s.size - (intOf i).toNat)
  case atStart => exact ⟨0, Nat.zero_le _, rfl, rfl, fun t _ ht => absurd ht (by omega)⟩
  case round =>
    obtain ⟨j, hj, rfl, rfl, hne⟩ := hrel
    by_cases hlt : j < s.size
    · have l1 : (j : Int) < (s.size : Int) := by omega
      have l0 : (0 : Int) ≤ (j : Int) := by omega
      obtain ⟨h2, hb⟩ := at_list s j hlt
      by_cases q1 : s[j] = 47
      · have hr : rightL s.data.toList = false := by
          have : s.data.toList.contains 47 = true := by
            rw [List.contains_iff_mem]
            exact List.mem_iff_getElem.2 ⟨j, h2, hb.trans q1⟩
          unfold rightL; rw [this]; simp
        obtain rfl : R = false := HR.out.symm.trans hr
        clear hne hr hb hl HR
        have e1 : ((s[j].toNat : Int) == 47) = true := by rw [q1]; rfl
        go_wp2_with fail
        go_ret
        exact ⟨rfl, rfl⟩
      · have e1 := byte47 q1
        have e1' := byte47' q1
        by_cases q2 : s[j] = 0
        · have hr : rightL s.data.toList = false := by
            have : s.data.toList.contains 0 = true := by
              rw [List.contains_iff_mem]
              exact List.mem_iff_getElem.2 ⟨j, h2, hb.trans q2⟩
            unfold rightL; rw [this]; simp
          obtain rfl : R = false := HR.out.symm.trans hr
          clear hne hr hb hl HR e1 e1' q1
          go_wp2_with fail
          go_ret
          exact ⟨rfl, rfl⟩
        · have e2 := byte0 q2
          have e2' := byte0' q2
          have hne2 : ∀ t (ht : t < s.size), t < j + 1 → s[t] ≠ 47 ∧ s[t] ≠ 0 := fun t ht h3 => by
            by_cases q : t = j
            · subst q; exact ⟨q1, q2⟩
            · exact hne t ht (by omega)
          have Hne := Lib.hid hne2
          clear hne hne2 hb hl
          go_wp2_with fail
          exact ⟨⟨j + 1, by omega, by go_num, trivial, Hne.out⟩, by simp [intOf] <;> omega⟩
    · obtain rfl : j = s.size := by omega
      have h47 : s.data.toList.contains 47 = false := by
        rw [← Bool.not_eq_true, List.contains_iff_mem]
        intro hc
        obtain ⟨k, hk, e⟩ := List.mem_iff_getElem.1 hc
        obtain ⟨_, hb⟩ := at_list s k (by omega)
        exact (hne k (by omega) (by omega)).1 (hb.symm.trans e)
      have h00 : s.data.toList.contains 0 = false := by
        rw [← Bool.not_eq_true, List.contains_iff_mem]
        intro hc
        obtain ⟨k, hk, e⟩ := List.mem_iff_getElem.1 hc
        obtain ⟨_, hb⟩ := at_list s k (by omega)
        exact (hne k (by omega) (by omega)).2 (hb.symm.trans e)
      have hr : rightL s.data.toList = (decide (1 ≤ (s.size : Int)) && decide ((s.size : Int) ≤ 14)) := by
        unfold rightL
        rw [h47, h00, hl]
        by_cases c : s.size = 0
        · have : s.data.toList = [] := List.eq_nil_of_length_eq_zero (by omega)
          rw [this, c]; rfl
        · have h1 : s.data.toList.isEmpty = false := by
            cases e : s.data.toList with
            | nil => rw [e] at hl; simp at hl; omega
            | cons a t => rfl
          rw [h1, decide_eq_true (by omega : 1 ≤ (s.size : Int))]
          have : decide (s.size ≤ 14) = decide ((s.size : Int) ≤ 14) := decide_eq_decide.2 ⟨fun h => by omega, fun h => by omega⟩
          rw [this]; simp
      have Hr := Lib.hid (HR.out.symm.trans hr)
      clear hne hr h47 h00 hl HR
      rcases (show s.size = 0 ∨ (0 < s.size ∧ (s.size : Int) ≤ 14) ∨ (0 < s.size ∧ (14 : Int) < s.size) by omega) with c | ⟨c, c2⟩ | ⟨c, c2⟩
      · have hz : R = false := by rw [Hr.out, c]; rfl
        obtain rfl := hz
        obtain rfl := empty_toList c
        clear hs hj hlt c Hr
        go_wp2_with fail
        go_ret
        exact ⟨rfl, rfl⟩
      · have c1 : (1 : Int) ≤ (s.size : Int) := by omega
        have hz : R = true := by rw [Hr.out, decide_eq_true c1, decide_eq_true c2]; rfl
        obtain rfl := hz
        clear Hr
        go_wp2_with fail
        go_ret
        exact ⟨rfl, rfl⟩
      · have c1 : (1 : Int) ≤ (s.size : Int) := by omega
        have hz : R = false := by rw [Hr.out, decide_eq_true c1, decide_eq_false (by omega : ¬ (s.size : Int) ≤ 14)]; rfl
        obtain rfl := hz
        clear Hr
        go_wp2_with fail
        go_ret
        exact ⟨by simp; omega, rfl⟩

theorem glue_end (cu : List UInt8) : nePcs (glue cu (pcs [])) = if cu = [] then [] else [cu] := by
  show nePcs [cu ++ []] = _
  rw [List.append_nil, nePcs_cons]; simp [nePcs]
theorem glue_slash (cu t : List UInt8) : nePcs (glue cu (pcs (47 :: t))) = (if cu = [] then [] else [cu]) ++ nePcs (glue [] (pcs t)) := by
  rw [pcs_slash, glue_nil (pcs_ne t)]
  show nePcs ((cu ++ []) :: pcs t) = _
  rw [List.append_nil, nePcs_cons]
theorem glue_names (l : List UInt8) : namesL l = nePcs (glue [] (pcs (l.drop 0))) := by rw [List.drop_zero, glue_nil (pcs_ne l)]; rfl
theorem bs_append (a b : List UInt8) : bs a ++ bs b = bs (a ++ b) := by
  apply ByteArray.ext; unfold bs; simp

set_option maxRecDepth 100000 in
set_option maxHeartbeats 2000000 in
theorem refSplit_any (s : ByteArray) (w : World) (hs : s.size ≤ 1048576) :
    Calls Tryd.prog 12 #[.string s] w fun e w' => ∃ v, e = .returned (.tuple #[v, .bool (splB s.data.toList), .bool (splOk s.data.toList)]) ∧ TL w.heap.size w' v (splN s.data.toList) ∧ Below w.heap.size w w' := by
  have hl := size_list s
  by_cases h0 : s.size = 0
  · have hk : splOk s.data.toList = false := splOk_no (Or.inl (by omega))
    have hb : splB s.data.toList = false := by unfold splB; rw [hk]; rfl
    have hn : splN s.data.toList = [] := by unfold splN; rw [hk]; rfl
    rw [hk, hb, hn]
    obtain rfl := empty_toList h0
    clear hk hb hn hl h0 hs
    go_enter Tryd.func12, Tryd.ntmps12
    go_wp2_with fail
    go_ret3
    exact ⟨_, rfl, TL.nil _ _, Below.refl _ _⟩
  by_cases h3 : 60 < s.size
  · have h4 : (60 : Int) < (s.size : Int) := by omega
    have h5 : (1 : Int) ≤ (s.size : Int) := by omega
    have hk : splOk s.data.toList = false := splOk_no (Or.inr (by omega))
    have hb : splB s.data.toList = false := by unfold splB; rw [hk]; rfl
    have hn : splN s.data.toList = [] := by unfold splN; rw [hk]; rfl
    rw [hk, hb, hn]
    clear hk hb hn hl h0 hs h3
    go_enter Tryd.func12, Tryd.ntmps12
    go_wp2_with fail
    go_ret3
    exact ⟨_, rfl, TL.nil _ _, Below.refl _ _⟩
  have h4 : (s.size : Int) ≤ 60 := by omega
  have h5 : (1 : Int) ≤ (s.size : Int) := by omega
  obtain ⟨l, hls⟩ : ∃ l, l = s.data.toList := ⟨_, rfl⟩
  rw [← hls] at hl ⊢
  have hok : splOk l = (namesL l).all rightL := splOk_is (by omega) (by omega)
  have hB : splB l = (splOk l && l.head? == some 47) := rfl
  have hN : splN l = if splOk l then (namesL l).map bs else [] := rfl
  have Hok := Lib.hid hok
  have HN := Lib.hid hN
  have HB := Lib.hid hB
  have Hls := Lib.hid hls
  have Hl := Lib.hid hl
  clear hok hB hN hls hl h0 h3 hs
  generalize splOk l = ok at *
  generalize splB l = B at *
  generalize splN l = N at *
  obtain ⟨i0, hi, hz0, hz1, hz2⟩ := info_parts info_str
  go_enter Tryd.func12, Tryd.ntmps12
  go_wp2_with fail
  go_loopw [5, 6, 7] (fun out cv i wr => ∃ (j : Nat) (cu : List UInt8) (done : List (List UInt8)), j ≤ s.size + 1 ∧ i = .int .i64 (j : Int) ∧ cv = .string (bs cu) ∧ cu.length ≤ j ∧ done.length ≤ j ∧ TL w.heap.size wr out (done.map bs) ∧ Below w.heap.size w wr ∧ done.all rightL = true ∧
    (j ≤ s.size → namesL l = done ++ nePcs (glue cu (pcs (l.drop j)))) ∧ (j = s.size + 1 → namesL l = done)) (fun _ _ i _ => s.size + 1 - (intOf i).toNat)
  case atStart => exact ⟨0, [], [], Nat.zero_le _, rfl, rfl, Nat.le_refl _, Nat.le_refl _, TL.nil _ _, Below.refl _ _, rfl, fun _ => by rw [List.nil_append]; exact glue_names l, fun h => by omega⟩
  case round =>
    obtain ⟨j, cu, done, hj, rfl, rfl, hcu, hdn, own, hb, hda, hn1, hn2⟩ := hrel
    by_cases hlt : j < s.size + 1
    · have l1 : (j : Int) ≤ (s.size : Int) := by omega
      have l0 : (0 : Int) ≤ (j : Int) := by omega
      have hnm := hn1 (by omega)
      clear hn1 hn2
      by_cases hA : ∃ h : j < s.size, s[j] ≠ 47
      · obtain ⟨hjn, q1⟩ := hA
        have l2 : (j : Int) < (s.size : Int) := by omega
        have l3 : (j : Int) + 1 ≤ (s.size : Int) := by omega
        have l4 : (0 : Int) ≤ (j : Int) + 1 := by omega
        have l5 : (j : Int) ≤ (j : Int) + 1 := by omega
        have e1 := byte47 q1
        have e1' := byte47' q1
        obtain ⟨h2, hbj⟩ := at_list s j hjn
        have hdrop : l.drop j = s[j] :: l.drop (j + 1) := by
          rw [Hls.out, List.drop_eq_getElem_cons h2, hbj]
        have hnm2 : namesL l = done ++ nePcs (glue (cu ++ [s[j]]) (pcs (l.drop (j + 1)))) := by rw [hnm, hdrop, glue_step _ _ _ q1]
        have hx : bs cu ++ s.extract j (j + 1) = bs (cu ++ [s[j]]) := by
          rw [← bs_append]
          congr 1
          apply ByteArray.ext
          apply Array.toList_inj.1
          rw [Lib.extract_data]
          unfold bs
          simp
          rw [List.drop_eq_getElem_cons (by simpa using h2)]
          simp
          rfl
        have hsz : (bs cu).size ≤ 60 := by rw [bs_size]; omega
        have Hnm := Lib.hid hnm2
        have Hx := Lib.hid hx
        clear hnm hnm2 hx hdrop hbj
        have Hda := Lib.hid hda
        have hsz2 := hsz
        have O := Lib.hid own
        clear own hda hsz
        generalize hC : bs cu = C at *
        have HC := Lib.hid hC
        clear hC
        go_wp2_with fail
        exact ⟨⟨j + 1, cu ++ [s[j]], done, by omega, by go_num, by rw [Hx.out], by simp; omega, by omega, O.out, hb, Hda.out, fun _ => Hnm.out, fun h => by omega⟩, by simp [intOf] <;> omega⟩
      · -- a slash, or the end
        have hrest : ∃ rest, namesL l = done ++ ((if cu = [] then [] else [cu]) ++ rest) ∧ (j + 1 ≤ s.size → rest = nePcs (glue [] (pcs (l.drop (j + 1))))) ∧ (j + 1 = s.size + 1 → rest = []) := by
          by_cases hjn : j < s.size
          · have q1 : s[j] = 47 := Classical.byContradiction fun q => hA ⟨hjn, q⟩
            obtain ⟨h2, hbj⟩ := at_list s j hjn
            have hdrop : l.drop j = 47 :: l.drop (j + 1) := by
              rw [Hls.out, List.drop_eq_getElem_cons h2, hbj, q1]
            exact ⟨nePcs (glue [] (pcs (l.drop (j + 1)))), by rw [hnm, hdrop, glue_slash], fun _ => rfl, fun h => by omega⟩
          · have hd : l.drop j = [] := List.drop_eq_nil_of_le (by rw [Hl.out]; omega)
            exact ⟨[], by rw [hnm, hd, glue_end, List.append_nil], fun h => by omega, fun _ => rfl⟩
        obtain ⟨rest, hr1, hr2, hr3⟩ := hrest
        have htest : (j : Int) = s.size ∨ ∃ h : j < s.size, (j : Int) < (s.size : Int) ∧ ((s[j].toNat : Int) == 47) = true ∧ (s[j].toNat : Int) = 47 := by
          by_cases hjn : j < s.size
          · have q1 : s[j] = 47 := Classical.byContradiction fun q => hA ⟨hjn, q⟩
            exact Or.inr ⟨hjn, by omega, by rw [q1]; rfl, by rw [q1]; rfl⟩
          · exact Or.inl (by omega)
        have bwr := hb.size
        have Hda := Lib.hid hda
        clear hnm hA hda
        by_cases hc : cu = []
        · subst hc
          rw [if_pos rfl, List.nil_append] at hr1
          have n1 : j + 1 ≤ s.size → namesL l = done ++ nePcs (glue [] (pcs (l.drop (j + 1)))) := fun h => by rw [hr1, hr2 h]
          have n2 : j + 1 = s.size + 1 → namesL l = done := fun h => by rw [hr1, hr3 h, List.append_nil]
          have N1 := Lib.hid n1
          have N2 := Lib.hid n2
          have hbs : bs [] = ⟨#[]⟩ := rfl
          rw [hbs]
          have O := Lib.hid own
          clear own hr1 hr2 hr3 n1 n2 hbs hcu
          rcases htest with c | ⟨hjn, c, e1, e1'⟩
          · obtain rfl : j = s.size := by omega
            clear c
            go_wp2_with fail
            exact ⟨⟨s.size + 1, [], done, by omega, by go_num, rfl, by simp, by omega, O.out, hb, Hda.out, N1.out, N2.out⟩, by simp [intOf] <;> omega⟩
          · go_wp2_with fail
            exact ⟨⟨j + 1, [], done, by omega, by go_num, rfl, by simp, by omega, O.out, hb, Hda.out, N1.out, N2.out⟩, by simp [intOf] <;> omega⟩
        · rw [if_neg hc] at hr1
          have q0 : 0 < (bs cu).size := by rw [bs_size]; exact List.length_pos_iff.2 hc
          have g1 := str_toList_ne q0
          have g2 := str_some _ q0
          have cr := refRight_any (bs cu) wr (by rw [bs_size]; omega)
          rw [list_bs] at cr
          cases hv : rightL cu with
          | false =>
            have hko : ok = false := by
              rw [Hok.out, hr1, List.all_append, List.all_append]
              simp [hv]
            subst hko
            obtain rfl : B = false := HB.out
            obtain rfl : N = [] := by rw [HN.out]; rfl
            rw [hv] at cr
            clear hr1 hr2 hr3 own hv Hda hc q0 hcu HB HN Hok
            generalize bs cu = C at *
            rcases htest with c | ⟨hjn, c, e1, e1'⟩
            · obtain rfl : j = s.size := by omega
              clear c
              go_wp2_with fail
              refine cr.mono ?_; rintro e w2 ⟨rfl, rfl⟩
              go_wp2_with fail
              go_ret3
              exact ⟨_, rfl, TL.nil _ _, hb⟩
            · go_wp2_with fail
              refine cr.mono ?_; rintro e w2 ⟨rfl, rfl⟩
              go_wp2_with fail
              go_ret3
              exact ⟨_, rfl, TL.nil _ _, hb⟩
          | true =>
            rw [hv] at cr
            have n1 : j + 1 ≤ s.size → namesL l = (done ++ [cu]) ++ nePcs (glue [] (pcs (l.drop (j + 1)))) := fun h => by rw [hr1, hr2 h]; simp
            have n2 : j + 1 = s.size + 1 → namesL l = done ++ [cu] := fun h => by rw [hr1, hr3 h]; simp
            have da : (done ++ [cu]).all rightL = true := by rw [List.all_append, Hda.out]; simp [hv]
            have e2 : done.map bs ++ [bs cu] = (done ++ [cu]).map bs := by simp
            have N1 := Lib.hid n1
            have N2 := Lib.hid n2
            have DA := Lib.hid da
            have E2 := Lib.hid e2
            have hnl : (done.map bs).length ≤ 61 := by simp; omega
            clear hr1 hr2 hr3 hv Hda hc q0 hcu n1 n2 da e2
            generalize bs cu = C at *
            generalize done.map bs = dn at *
            have O := own
            unfold TL at O
            rcases htest with c | ⟨hjn, c, e1, e1'⟩
            case' inl => obtain rfl : j = s.size := by omega
            all_goals
              go_wp2_with fail
              refine cr.mono ?_; rintro e w2 ⟨rfl, rfl⟩
              go_wp2_with (first
                | (at_builtin; refine wpList_append_own _ rfl _ _ 22 rfl w.heap.size 9 i0 (.string ByteArray.empty) 1 16 Tryd.underlying22 hi hz0 hz1 hz2 rfl (by decide) _ _ _ rfl (World.ownsRow.alloc O _) ⟨_, 0, none⟩ 1 1 [.string C] rfl rfl ?c1 ?c2 ?c3 ?c4 ?c5 ?_)
                | fail)
              case c1 =>
                intro j u hj
                match j, hj with
                | 0, hj => simp at hj; subst hj; simp [Addr.add]
              case c2 => intro u hu; simp at hu; subst hu; rfl
              case c3 => unfold maxLen; omega
              case c4 => omega
              case c5 => simp; omega
              intro v' W6 hown' hgrow _
              have RR := tl_push bwr own hown' hgrow
              rw [E2.out] at RR
              have O6 := Lib.hid RR.1
              have b6 := hb.trans RR.2
              clear hown' hgrow O own RR E2 hb
              go_wp2_with fail
              exact ⟨⟨_ + 1, [], done ++ [cu], by omega, by go_num, rfl, by simp, by simp; omega, O6.out, b6, DA.out, N1.out, fun h => N2.out (by first | trivial | exact h)⟩, by simp [intOf] <;> omega⟩
    · obtain rfl : j = s.size + 1 := by omega
      have hnm := hn2 rfl
      have hko : ok = true := by rw [Hok.out, hnm]; exact hda
      subst hko
      obtain rfl : N = done.map bs := by rw [HN.out, hnm]; rfl
      have hp : 0 < s.size := by omega
      have hhd : l.head? = some s[0] := by
        obtain ⟨h2, hb0⟩ := at_list s 0 hp
        rw [Hls.out, List.head?_eq_getElem?, List.getElem?_eq_getElem h2, hb0]
      have hB2 : B = ((s[0].toNat : Int) == 47) := by
        rw [HB.out, hhd]
        by_cases q : s[0] = 47
        · rw [q]; rfl
        · rw [byte47 q]
          show (some s[0] == some 47) = false
          exact beq_eq_false_iff_ne.2 (fun e => q (Option.some.inj e))
      obtain rfl := hB2
      obtain ⟨a, c, rfl, tr, hbl⟩ := own.tr
      have O := Lib.hid own
      have l0 : ¬ (s.size : Int) + 1 ≤ (s.size : Int) := by omega
      have l1 : (0 : Int) < (s.size : Int) := by omega
      clear hn1 hn2 hda own tr hbl hnm hhd HB HN Hok Hls Hl
      go_wp2_with fail
      go_quiet (fail)
      have b2 := below_drewN hb nq
      have O2 : TL w.heap.size (wr.drewN nq) (.slice a (done.map bs).length c) (done.map bs) := O.out.below (below_drewN (Below.refl _ _) nq)
      rw [List.length_map] at O2
      generalize wr.drewN nq = W at *
      clear O hb
      go_wp2_with fail
      go_ret3
      exact ⟨_, rfl, O2, b2⟩
end Go.Proofs.YtjgdohcclkomoaaDoor.St
