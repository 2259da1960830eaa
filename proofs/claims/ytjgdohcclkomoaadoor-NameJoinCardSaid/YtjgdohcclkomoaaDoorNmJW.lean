/- NameJoin: right names with slashes between are split into just these. No condition but those written in the statement. -/
import Derived.Test.YtjgdohcclkomoaaDoorDoorKit
import Derived.Test.YtjgdohcclkomoaaDoorMix
namespace Go.Proofs.YtjgdohcclkomoaaDoor.St
open Go.RowKit
set_option linter.unusedVariables false

theorem pcs_append (b : List UInt8) : ∀ a : List UInt8, pcs (a ++ 47 :: b) = pcs a ++ pcs b
  | [] => by rw [List.nil_append, pcs_slash]; rfl
  | c :: t => by
    have ih := pcs_append b t
    by_cases h : c = 47
    · subst h; rw [List.cons_append, pcs_slash, pcs_slash, ih]; rfl
    · rw [List.cons_append, pcs, pcs, if_neg h, if_neg h, ih]
      cases hp : pcs t with
      | nil => exact absurd hp (pcs_ne t)
      | cons p r => rfl
theorem pcs_plain : ∀ l : List UInt8, ¬ 47 ∈ l → pcs l = [l]
  | [], _ => rfl
  | c :: t, h => by
    have h1 : ¬ c = 47 := fun e => h (by simp [e])
    rw [pcs, if_neg h1, pcs_plain t (fun q => h (by simp [q]))]
theorem namesL_append (a b : List UInt8) : namesL (a ++ 47 :: b) = namesL a ++ namesL b := by
  unfold namesL; rw [pcs_append, nePcs_append]
theorem namesL_nil : namesL [] = [] := rfl
theorem right_parts {l : List UInt8} (h : rightL l = true) : l ≠ [] ∧ l.length ≤ 14 ∧ ¬ 47 ∈ l ∧ ¬ 0 ∈ l := by
  unfold rightL at h
  simp at h
  obtain ⟨⟨⟨h1, h2⟩, h3⟩, h4⟩ := h
  exact ⟨h1, h2, h3, h4⟩
theorem namesL_right {l : List UInt8} (h : rightL l = true) : namesL l = [l] := by
  obtain ⟨h1, _, h3, _⟩ := right_parts h
  unfold namesL
  rw [pcs_plain l h3, nePcs_cons, if_neg h1]; rfl

/-- A path, joined of names. -/
structure NJ (b : Bool) (pl : List UInt8) (done : List (List UInt8)) : Prop where
  names : namesL pl = done
  right : done.all rightL = true
  first : done = [] → pl = if b then [47] else []
  head : pl ≠ [] → (pl.head? == some 47) = b
  none : pl = [] → b = false
theorem NJ.start (b : Bool) : NJ b (if b then [47] else []) [] := by cases b <;> exact ⟨by decide, rfl, fun _ => rfl, by decide, by decide⟩
theorem head_append {pl t : List UInt8} (h : pl ≠ []) : (pl ++ t).head? = pl.head? := by
  cases pl with
  | nil => exact absurd rfl h
  | cons a r => rfl
theorem NJ.slash {b : Bool} {pl : List UInt8} {done : List (List UInt8)} (h : NJ b pl done) (hd : done ≠ []) : NJ b (pl ++ [47]) done := by
  have hp : pl ≠ [] := fun e => hd (by rw [← h.names, e]; rfl)
  exact ⟨by rw [namesL_append, namesL_nil, List.append_nil, h.names], h.right, fun e => absurd e hd, fun _ => by rw [head_append hp]; exact h.head hp, fun e => by simp at e⟩
theorem NJ.one {b : Bool} {pl sl : List UInt8} (h : NJ b pl []) (hr : rightL sl = true) : NJ b (pl ++ sl) [sl] := by
  have hs := (right_parts hr).1
  have hf := h.first rfl
  refine ⟨?_, by simp [hr], fun e => by simp at e, fun _ => ?_, fun e => by simp at e; exact absurd e.2 hs⟩
  · cases b with
    | false => rw [hf]; exact namesL_right hr
    | true =>
      rw [hf]
      have := namesL_append [] sl
      rw [namesL_right hr, namesL_nil] at this
      exact this
  · cases b with
    | false =>
      rw [hf]
      cases sl with
      | nil => exact absurd rfl hs
      | cons a t =>
        have := (right_parts hr).2.2.1
        show (some a == some 47) = false
        exact beq_eq_false_iff_ne.2 (fun e => this (by rw [Option.some.inj e]; simp))
    | true => rw [hf]; rfl
theorem NJ.next {b : Bool} {pl sl : List UInt8} {done : List (List UInt8)} (h : NJ b pl done) (hd : done ≠ []) (hr : rightL sl = true) : NJ b (pl ++ [47] ++ sl) (done ++ [sl]) := by
  have hp : pl ≠ [] := fun e => hd (by rw [← h.names, e]; rfl)
  refine ⟨?_, by rw [List.all_append, h.right]; simp [hr], fun e => by simp at e, fun _ => ?_, fun e => by simp at e⟩
  · rw [List.append_assoc]
    show namesL (pl ++ 47 :: sl) = _
    rw [namesL_append, h.names, namesL_right hr]
  · rw [List.append_assoc, head_append hp]; exact h.head hp
theorem NJ.ok {b : Bool} {pl : List UInt8} {done : List (List UInt8)} (h : NJ b pl done) (hp : pl ≠ []) (hl : pl.length ≤ 60) : splOk pl = true ∧ splB pl = b ∧ splN pl = done.map bs := by
  have h1 : splOk pl = true := by rw [splOk_is (List.length_pos_iff.2 hp) hl, h.names]; exact h.right
  refine ⟨h1, ?_, ?_⟩
  · unfold splB; rw [h1, h.head hp]; rfl
  · unfold splN; rw [h1, h.names]; rfl

theorem mix_str {w : World} {a : Option Addr} {len cap : Nat} (h : IsMix [.str] w a len cap) (j : Nat) (hj : j < len) : ∃ (x : Addr) (s : ByteArray), a = some x ∧ w.cell? (x.add j) = some (.string s) ∧ s.size ≤ maxLen := by
  rcases h with ⟨_, h0, _⟩ | ⟨x, e, _, _, h1⟩
  · omega
  · obtain ⟨v, hc, s, hv, hs⟩ := h1 j hj 0 .str rfl
    subst hv
    exact ⟨x, s, e, by simpa using hc, hs⟩
theorem mix_len {ks : List FK} {w : World} {a : Option Addr} {len cap : Nat} (h : IsMix ks w a len cap) : len ≤ maxLen := by
  rcases h with ⟨_, h0, _⟩ | ⟨x, _, h1, h2, _⟩ <;> omega
theorem row_at {k : IntKind} {w : World} {a : Option Addr} {len cap : Nat} {zs : List Int} (h : IsRow k w a len cap zs) (i : Nat) (hi : i < len) : ∃ x, a = some x ∧ w.cell? (x.add i) = some (.int k (zs.getD i 0)) ∧ (Lit.int k (zs.getD i 0)).wf = true := by
  rcases h with ⟨_, h0, _⟩ | ⟨x, e, h1, h2, h3, h4, h5⟩
  · omega
  · refine ⟨x, e, h4 i (by omega), h5 _ ?_⟩
    simp [List.getD, List.getElem?_eq_getElem (show i < zs.length by omega)]
theorem row_len {k : IntKind} {w : World} {a : Option Addr} {len cap : Nat} {zs : List Int} (h : IsRow k w a len cap zs) : len ≤ maxLen := by
  rcases h with ⟨_, h0, _⟩ | ⟨x, e, h1, h2, h3, h4, h5⟩ <;> omega
theorem sl47 : (⟨#[47]⟩ : ByteArray) = bs [47] := rfl

theorem one_new {w : World} {S : ByteArray} {t : TypeId} {j : Nat} {u : Value} (h : [Value.string S][j]? = some u) : (w.alloc (.cells #[.string S] t)).cell? ((⟨w.heap.size, 0, none⟩ : Addr).add j) = some u := by
  match j, h with
  | 0, h => simp at h; subst h; simp [Addr.add]
theorem one_cell {S : ByteArray} {u : Value} (h : u ∈ [Value.string S]) : u.oneCell' = true := by
  simp at h; subst h; rfl

attribute [local irreducible] Int.lt Int.le
set_option maxRecDepth 100000 in
set_option maxHeartbeats 4000000 in
theorem nameJoin_walk (a0 : Option Addr) (len0 cap0 : Nat) (a1 : Option Addr) (len1 cap1 : Nat) (z1 : List Int) (a2 : Bool) (w : World) (w0 : IsMix [.str] w a0 len0 cap0) (w1 : IsRow .i64 w a1 len1 cap1 z1) (hM : Mx w) :
    Calls Tryd.prog 6 #[.slice a0 len0 cap0, .slice a1 len1 cap1, .bool a2] w fun e w' => e = .returned (.bool true) ∧ Below w.heap.size w w' := by
  have k0 := mix_len w0
  have k1 := row_len w1
  unfold maxLen at k0 k1
  obtain ⟨i0, hi, hz0, hz1, hz2⟩ := info_parts info_str
  go_enter Tryd.func6, Tryd.ntmps6
  cases a2
  case' false => obtain ⟨b, hb2⟩ : ∃ b, b = false := ⟨_, rfl⟩
  case' true => obtain ⟨b, hb2⟩ : ∃ b, b = true := ⟨_, rfl⟩
  all_goals
    go_wp2_with fail
    have nst := NJ.start b
    have hp0 : (if b then [47] else [] : List UInt8).length ≤ 1 := by split <;> simp
    go_loopw [7, 8, 9] (fun own pv i wr => ∃ (j : Nat) (pl : List UInt8) (done : List (List UInt8)), j ≤ 5 ∧ j ≤ len0 ∧ i = .int .i64 (j : Int) ∧ pv = .string (bs pl) ∧ NJ b pl done ∧ pl.length ≤ 1 + 12 * j ∧ done.length ≤ j ∧ TL w.heap.size wr own (done.map bs) ∧ Below w.heap.size w wr) (fun _ _ i _ => 5 - (intOf i).toNat)
    case atStart => exact ⟨0, (if b then [47] else []), [], by omega, by omega, rfl, by subst hb2; rfl, nst, hp0, Nat.le_refl _, TL.nil _ _, Below.refl _ _⟩
    case round =>
      obtain ⟨j, pl, done, hj5, hj0, rfl, rfl, nj, hpl, hdn, own, hbw⟩ := hrel
      clear nst hp0
      by_cases hlt : j < len0 ∧ j < 5
      · obtain ⟨q0, q5⟩ := hlt
        have l0 : (0 : Int) ≤ (j : Int) := by omega
        have l1 : (j : Int) < (len0 : Int) := by omega
        have l2 : (j : Int) < 5 := by omega
        obtain ⟨x, t, rfl, x0, ht⟩ := mix_str w0 j q0
        have x1 := (hbw.cell (World.block_lt_of_cell? _ _ x0)).trans x0
        have gap : (len1 : Int) ≤ (j : Int) ∨ ((j : Int) < (len1 : Int) ∧ ∃ y z, a1 = some y ∧ w.cell? (y.add j) = some (.int .i64 z) ∧ ((z.tmod 3 == 0) = true ∧ z.tmod 3 = 0 ∨ (z.tmod 3 == 0) = false ∧ ¬ z.tmod 3 = 0)) := by
          by_cases c : j < len1
          · obtain ⟨y, hy, y0, _⟩ := row_at w1 j c
            refine Or.inr ⟨by omega, y, _, hy, y0, ?_⟩
            by_cases q : (z1.getD j 0).tmod 3 = 0
            · exact Or.inl ⟨beq_iff_eq.2 q, q⟩
            · exact Or.inr ⟨beq_eq_false_iff_ne.2 q, q⟩
          · exact Or.inl (by omega)
        have hbs := hbw.size
        have Hw0 := Lib.hid w0
        have Hw1 := Lib.hid w1
        clear w0 w1 x0
        have O := Lib.hid own
        have NJ0 := Lib.hid nj
        clear own nj
        go_upto_region 9 with fail
        go_quiet (fail)
        have bq := below_drewN hbw nq
        have O1 : TL w.heap.size (wr.drewN nq) _ (done.map bs) := O.out.below (below_drewN (Below.refl _ _) nq)
        have gap2 : (len1 : Int) ≤ (j : Int) ∨ ((j : Int) < (len1 : Int) ∧ ∃ y z, a1 = some y ∧ w.cell? (y.add j) = some (.int .i64 z) ∧ ((z.tmod 3 == 0) = true ∧ z.tmod 3 = 0 ∨ (z.tmod 3 == 0) = false ∧ ¬ z.tmod 3 = 0)) := gap
        have bs2 : w.heap.size ≤ (wr.drewN nq).heap.size := bq.size
        have hS : (t.extract 0 (min (t.size : Int) 10).toNat).size ≤ 10 := by rw [ByteArray.size_extract]; omega
        clear gap O hbw hbs x1
        generalize t.extract 0 (min (t.size : Int) 10).toNat = S at *
        generalize wr.drewN nq = W at *
        have c1 := right_any S W (by omega)
        obtain ⟨sl, hsl⟩ : ∃ sl, sl = S.data.toList := ⟨_, rfl⟩
        have hSl : S = bs sl := by rw [hsl, bs_list]
        rw [← hsl] at c1
        have hsz : sl.length ≤ 10 := by rw [hsl, size_list]; exact hS
        clear hsl
        cases hv : rightL sl with
        | false =>
          rw [hv] at c1
          have O2 := Lib.hid O1
          clear O1 gap2 hSl
          go_wp2_with fail
          refine c1.mono ?_; rintro e W1 ⟨rfl, rfl⟩
          go_wp2_with fail
          exact ⟨⟨j + 1, pl, done, by omega, by omega, by go_num, rfl, NJ0.out, by omega, by omega, O2.out, bq⟩, by simp [intOf]; omega⟩
        | true =>
          rw [hv] at c1
          have hdl : (done.map bs).length = done.length := List.length_map _
          have dmap : done.map bs ++ [S] = (done ++ [sl]).map bs := by simp [hSl]
          have dims : (done = [] ∧ NJ b (pl ++ sl) (done ++ [sl])) ∨ ((0 : Int) < (done.length : Int) ∧ NJ b (pl ++ [47] ++ sl) (done ++ [sl])) := by
            by_cases hd : done = []
            · refine Or.inl ⟨hd, ?_⟩
              subst hd
              exact NJ0.out.one hv
            · have := List.length_pos_iff.2 hd
              exact Or.inr ⟨by omega, NJ0.out.next hd hv⟩
          have E1 := Lib.hid (show bs pl ++ S = bs (pl ++ sl) by rw [hSl, bs_append])
          have E2 := Lib.hid (show bs pl ++ S ++ ⟨#[47]⟩ = bs (pl ++ sl ++ [47]) by rw [hSl, sl47, bs_append, bs_append])
          have E3 := Lib.hid (show bs pl ++ ⟨#[47]⟩ ++ S = bs (pl ++ [47] ++ sl) by rw [hSl, sl47, bs_append, bs_append])
          have E4 := Lib.hid (show bs pl ++ ⟨#[47]⟩ ++ S ++ ⟨#[47]⟩ = bs (pl ++ [47] ++ sl ++ [47]) by rw [hSl, sl47, bs_append, bs_append, bs_append])
          have hpz : (bs pl).size ≤ 61 := by rw [bs_size]; omega
          have E5 := Lib.hid dmap
          have D5 : (done.map bs).length ≤ 5 := by omega
          have DL : ((done.map bs).length : Int) = (done.length : Int) := by omega
          have D0 : done = [] → ((done.map bs).length : Int) = 0 := fun e => by rw [e]; rfl
          obtain ⟨xo, co, ho, _, _⟩ := O1.tr
          rw [ho] at O1 ⊢
          have O2 := O1
          unfold TL at O2
          clear dmap hSl hv NJ0 ho
          have HB := Lib.hid hpl
          have HD := Lib.hid hdn
          clear hpl
          generalize hP : bs pl = P at *
          have HP := Lib.hid hP
          clear hP
          generalize hDm : done.map bs = dm at *
          have HDm := Lib.hid hDm
          clear hDm
          rcases dims with ⟨d0, nj1⟩ | ⟨d1, nj1⟩
          case' inl =>
            have d1 : (dm.length : Int) = 0 := D0 d0
            have d2 : dm.length = 0 := by omega
            obtain rfl : dm = [] := List.eq_nil_of_length_eq_zero d2
            clear d0 d1 d2
          case' inr =>
            have d2 : (0 : Int) < (dm.length : Int) := by omega
            have d3 : 0 < dm.length := by omega
            have d4 : ¬ dm = [] := List.length_pos_iff.1 d3
          all_goals
            have NJ1 := Lib.hid nj1
            clear nj1 D0 DL hdl
            rcases gap2 with g1 | ⟨g1, y, z, hy, g2, ⟨g3, g4⟩ | ⟨g3, g4⟩⟩
            all_goals
              try subst hy
              go_wp2_with fail
              refine c1.mono ?_; rintro e W1 ⟨rfl, rfl⟩
              go_wp2_with (first
                | (at_builtin; refine wpList_append_own _ rfl _ _ 22 rfl w.heap.size 9 i0 (.string ByteArray.empty) 1 16 Tryd.underlying22 hi hz0 hz1 hz2 rfl (by decide) _ _ _ rfl (World.ownsRow.alloc O2 _) ⟨_, 0, none⟩ 1 1 [.string S] rfl rfl (fun j u hj => one_new hj) (fun u hu => one_cell hu) (by unfold maxLen; omega) (by omega) (by simp; omega) ?_)
                | fail)
              intro v' W6 hown' hgrow _
              have RR := tl_push bs2 O1 hown' hgrow
              rw [E5.out] at RR
              have O6 := Lib.hid RR.1
              have b6 := bq.trans RR.2
              try replace g2 := (b6.cell (World.block_lt_of_cell? _ _ g2)).trans g2
              clear hown' hgrow O2 O1 RR E5 bq c1
              have HB2 := HB.out
              have HD2 := HD.out
              have n0 : done ++ [sl] ≠ [] := by simp
              go_wp2_with fail
              first
                | exact ⟨⟨j + 1, pl ++ sl, done ++ [sl], by omega, by omega, by go_num, congrArg Value.string E1.out, NJ1.out, by simp; omega, by simp; omega, O6.out, b6⟩, by simp [intOf]; omega⟩
                | exact ⟨⟨j + 1, pl ++ sl ++ [47], done ++ [sl], by omega, by omega, by go_num, congrArg Value.string E2.out, NJ1.out.slash n0, by simp; omega, by simp; omega, O6.out, b6⟩, by simp [intOf]; omega⟩
                | exact ⟨⟨j + 1, pl ++ [47] ++ sl, done ++ [sl], by omega, by omega, by go_num, congrArg Value.string E3.out, NJ1.out, by simp; omega, by simp; omega, O6.out, b6⟩, by simp [intOf]; omega⟩
                | exact ⟨⟨j + 1, pl ++ [47] ++ sl ++ [47], done ++ [sl], by omega, by omega, by go_num, congrArg Value.string E4.out, NJ1.out.slash n0, by simp; omega, by simp; omega, O6.out, b6⟩, by simp [intOf]; omega⟩
      · have htest : (len0 : Int) ≤ (j : Int) ∨ ((j : Int) < (len0 : Int) ∧ (5 : Int) ≤ (j : Int)) := by omega
        have l0 : (0 : Int) ≤ (j : Int) := by omega
        have hx := split_any (bs pl) wr (hM.below (Nat.le_refl _) hbw) (by rw [bs_size]; omega)
        rw [list_bs] at hx
        have mW := hM.below (Nat.le_refl _) hbw
        have Own := Lib.hid own
        have Nj := Lib.hid nj
        have Hbw := Lib.hid hbw
        obtain ⟨xo, co, ho, _, _⟩ := own.tr
        have hdl : (done.map bs).length ≤ 5 := by rw [List.length_map]; omega
        rw [ho] at Own ⊢
        have Hpl := Lib.hid hpl
        clear w0 w1 own nj hbw ho hM hpl
        by_cases hp : pl = []
        · have hb3 : bs pl = ⟨#[]⟩ := by rw [hp]; rfl
          have hok : splOk pl = false := by rw [hp]; rfl
          rw [hok] at hx
          rw [hb3] at hx ⊢
          have Hx := Lib.hid hx
          clear hx hb3 hok hp
          rcases htest with c | ⟨c, c2⟩
          all_goals
            go_wp2_with fail
            refine Hx.out.mono ?_; rintro e W1 ⟨v1, rfl, L1, t1⟩
            have b1 := Hbw.out.trans (t1.mono Hbw.out.size)
            have m1 := mW.below (Nat.le_refl _) t1
            clear Hx t1 mW L1
            go_wp2_with fail
            refine (nameRuns_any W1 m1).mono ?_; rintro e W2 ⟨rfl, t2⟩
            have b2 := b1.trans (t2.mono b1.size)
            go_wp2_with fail
            go_ret
            exact ⟨rfl, b2⟩
        · have hbl : 0 < (bs pl).size := by rw [bs_size]; exact List.length_pos_iff.2 hp
          have g1 := str_toList_ne hbl
          have g2 := str_some _ hbl
          by_cases h60 : pl.length ≤ 60
          · obtain ⟨e1, e2, e3⟩ := Nj.out.ok hp h60
            rw [e1, e2, e3] at hx
            have hz : ((bs pl).size : Int) ≤ 60 := by rw [bs_size]; omega
            have Hx := Lib.hid hx
            subst hb2
            clear hx e1 e2 e3 hp hbl Nj
            generalize bs pl = P at *
            generalize hdm : done.map bs = dm at *
            have Hdm := Lib.hid hdm
            clear hdm
            rcases htest with c | ⟨c, c2⟩
            all_goals
              go_wp2_with fail
              refine Hx.out.mono ?_; rintro e W1 ⟨v1, rfl, L1, t1⟩
              obtain ⟨x1, c1, rfl, r1, _⟩ := L1.tr
              have b1 := Hbw.out.trans (t1.mono Hbw.out.size)
              have m1 := mW.below (Nat.le_refl _) t1
              have r2 : TR W1 xo dm := by
                obtain ⟨x3, c3, q, r3, _⟩ := (Own.out.below t1).tr
                cases q
                exact r3
              have OS := Lib.hid (sameT_yes x1 xo c1 co dm W1 (by omega) r1 r2)
              clear Hx t1 mW L1 r1 r2
              go_wp2_with fail
              refine OS.out.mono ?_; rintro e W2 ⟨rfl, t2⟩
              have b2 := b1.trans (t2.mono b1.size)
              have m2 := m1.below (Nat.le_refl _) t2
              clear OS t2 b1 m1
              go_wp2_with fail
              refine (nameRuns_any W2 m2).mono ?_; rintro e W3 ⟨rfl, t3⟩
              have b3 := b2.trans (t3.mono b2.size)
              go_wp2_with fail
              go_ret
              exact ⟨rfl, b3⟩
          · have e1 : splOk pl = false := splOk_no (Or.inr (by omega))
            have e3 : splN pl = [] := by unfold splN; rw [e1]; rfl
            rw [e1, e3] at hx
            have hz : (60 : Int) < ((bs pl).size : Int) := by rw [bs_size]; omega
            have Hx := Lib.hid hx
            clear hx e1 e3 hp hbl Nj
            generalize bs pl = P at *
            rcases htest with c | ⟨c, c2⟩
            all_goals
              go_wp2_with fail
              refine Hx.out.mono ?_; rintro e W1 ⟨v1, rfl, L1, t1⟩
              obtain ⟨x1, c1, hv, _, _⟩ := L1.tr
              have hv2 : v1 = .slice x1 0 c1 := hv
              subst hv2
              have b1 := Hbw.out.trans (t1.mono Hbw.out.size)
              have m1 := mW.below (Nat.le_refl _) t1
              clear Hx t1 mW L1 hv
              go_wp2_with fail
              refine (nameRuns_any W1 m1).mono ?_; rintro e W2 ⟨rfl, t2⟩
              have b2 := b1.trans (t2.mono b1.size)
              go_wp2_with fail
              go_ret
              exact ⟨rfl, b2⟩
end Go.Proofs.YtjgdohcclkomoaaDoor.St
