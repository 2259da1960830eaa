/- The contracts of package dir: there, Is, entries. No condition but those written in each statement. -/
import Derived.Test.YtcefigpdodlonaaDoorDirP
import Derived.Test.YtcefigpdodlonaaDoorStd
namespace Go.Proofs.YtcefigpdodlonaaDoor.St
open Go.RowKit
set_option linter.unusedVariables false

theorem info_ent : (Tryd.prog.info? 58).map (fun i => (i.zero, i.size, i.bytes)) = some (some (.agg #[.string ByteArray.empty, .int .i64 0]), 2, 24) := by kernel_rfl

/-- The cells of entries. -/
def flatE : List Ent → List Value
  | [] => []
  | e :: l => .string e.1 :: .int .i64 e.2 :: flatE l
theorem flatE_app (a b : List Ent) : flatE (a ++ b) = flatE a ++ flatE b := by
  induction a with
  | nil => rfl
  | cons x l ih => simp [flatE, ih]
theorem flatE_at (es : List Ent) : ∀ (i : Nat) (h : i < es.length), (flatE es)[i * 2]? = some (.string es[i].1) ∧ (flatE es)[i * 2 + 1]? = some (.int .i64 es[i].2) := by
  induction es with
  | nil => intro i h; simp at h
  | cons e l ih =>
    intro i h
    cases i with
    | zero => exact ⟨rfl, rfl⟩
    | succ i =>
      have := ih i (by simpa using h)
      rw [show (i + 1) * 2 = i * 2 + 1 + 1 by omega]
      simpa [flatE] using this
/-- A list of entries in blocks from B on. -/
def EL (B : Nat) (W : World) (v : Value) (es : List Ent) : Prop := W.ownsRow B 58 2 v es.length (flatE es)
theorem EL.nil (B : Nat) (W : World) : EL B W (.slice none 0 0) [] := World.ownsRow_nil _ _ _ _
theorem EL.below {B : Nat} {W W' : World} {v : Value} {es : List Ent} (h : EL B W v es) (hb : Below W.heap.size W W') : EL B W' v es := by
  refine ⟨h.1, ?_⟩
  rcases h.2 with q | ⟨g, cap, cur, h1, h2, h3, h4⟩
  · exact Or.inl q
  · exact Or.inr ⟨g, cap, cur, h1, h2, (hb.block g (lt_of_heap h3)).trans h3, h4⟩
theorem EL.mono {B B' : Nat} {W : World} {v : Value} {es : List Ent} (h : EL B W v es) (hb : B' ≤ B) : EL B' W v es := by
  refine ⟨h.1, ?_⟩
  rcases h.2 with q | ⟨g, cap, cur, h1, h2, h3⟩
  · exact Or.inl q
  · exact Or.inr ⟨g, cap, cur, h1, by omega, h3⟩
/-- What a walk reads of a list of entries. -/
def ER (W : World) (a : Option Addr) (es : List Ent) : Prop := ∀ i (h : i < es.length), ∃ x, a = some x ∧ W.cell? (x.add (i * 2)) = some (.string es[i].1) ∧ W.cell? ⟨(x.add (i * 2)).block, (x.add (i * 2)).off + 1, none⟩ = some (.int .i64 es[i].2)
theorem EL.er {B : Nat} {W : World} {v : Value} {es : List Ent} (h : EL B W v es) : ∃ a c, v = .slice a es.length c ∧ ER W a es ∧ ∀ x, a = some x → B ≤ x.block := by
  rcases h.2 with ⟨rfl, h0⟩ | ⟨g, cap, cur, e', h2, _⟩
  · exact ⟨none, 0, by rw [h0], fun i hi => by omega, fun x hx => by cases hx⟩
  · refine ⟨_, _, e', fun i hi => ⟨_, rfl, ?_, ?_⟩, fun x hx => by cases hx; exact h2⟩
    · subst e'
      exact World.ownsRow.cells h rfl (i * 2) _ (flatE_at es i hi).1
    · subst e'
      have := World.ownsRow.cells h rfl (i * 2 + 1) _ (flatE_at es i hi).2
      by_cases hz : i = 0
      · subst hz; simpa [Addr.add] using this
      · simp only [Addr.add] at this ⊢
        rw [if_neg (by omega)] at this ⊢
        simpa using this
theorem ER.below {W W' : World} {a : Option Addr} {es : List Ent} (h : ER W a es) (hb : Below W.heap.size W W') : ER W' a es := fun i hi => by
  obtain ⟨x, e, c, d⟩ := h i hi
  exact ⟨x, e, (hb.cell (World.block_lt_of_cell? _ _ c)).trans c, (hb.cell (World.block_lt_of_cell? _ _ d)).trans d⟩

theorem there_any (x : ByteArray) (n : Int) (w : World) :
    Calls Tryd.prog 35 #[.agg #[.string x, .int .i64 n]] w fun e w' => e = .returned (.bool (thereE (x, n))) ∧ Below w.heap.size w w' := by
  have hb : Below w.heap.size w (w.alloc (Obj.cells #[Value.string x, .int .i64 n] 58)) := (Below.refl _ _).alloc (Nat.le_refl _) _
  unfold thereE
  by_cases h : 1 ≤ n
  · have hd : decide (1 ≤ n) = true := decide_eq_true h
    go_enter Tryd.func35, Tryd.ntmps35
    go_wp2_with fail
    go_ret
    exact ⟨ret_bool (by simp [h]), hb⟩
  · have hd : decide (1 ≤ n) = false := decide_eq_false h
    go_enter Tryd.func35, Tryd.ntmps35
    go_wp2_with fail
    go_ret
    exact ⟨ret_bool (by simp), hb⟩

/-! ### looks change nothing that is looked at -/
theorem saw_saw (st : VSt) (k n : Int) : (st.saw k n).saw k n = st.saw k n := by
  unfold VSt.saw
  by_cases h : placeI k n < 0
  · rw [if_pos h, if_pos h]
  · rw [if_neg h, if_neg h]
    unfold VSt.reads
    congr 1
    funext a b
    show updK (updK st.rd k n (.bool true)) k n (.bool true) a b = updK st.rd k n (.bool true) a b
    unfold updK
    split <;> rfl
theorem iSaw_iSaw (st : VSt) (i : Int) : iSaw (iSaw st i) i = iSaw st i := by
  unfold iSaw
  by_cases h : i < 1 ∨ 16 ≤ i
  · rw [if_pos h, if_pos h]
  · rw [if_neg h, if_neg h, saw_saw]
theorem iVal_iSaw (st : VSt) (i j : Int) : iVal (iSaw st i) j = iVal st j := by unfold iVal; rw [get_iSaw]
theorem iHas_iSaw (st : VSt) (i j : Int) : iHas (iSaw st i) j = iHas st j := by unfold iHas; rw [get_iSaw]
theorem iRead_iSaw (st : VSt) (i j a b : Int) : iRead (iSaw st i) j a b = iRead st j a b := by unfold iRead; rw [iVal_iSaw]
theorem iMay_iSaw (st : VSt) (i j off : Int) : iMay (iSaw st i) j off ↔ iMay st j off := by unfold iMay; rw [iVal_iSaw, iHas_iSaw]
theorem iWrite_iSaw (st : VSt) (i off : Int) (d : ByteArray) : iWrite (iSaw st i) i off d = iWrite st i off d := by
  unfold iWrite
  by_cases h : iMay st i off
  · rw [if_pos h, if_pos ((iMay_iSaw _ _ _ _).2 h), iSaw_iSaw, iVal_iSaw]
  · rw [if_neg h, if_neg (fun q => h ((iMay_iSaw _ _ _ _).1 q)), iSaw_iSaw]
theorem iWrote_iSaw (st : VSt) (i j off : Int) (d : ByteArray) : iWrote (iSaw st i) j off d = iWrote st j off d := by
  unfold iWrote
  by_cases h : iMay st j off
  · rw [if_pos h, if_pos ((iMay_iSaw _ _ _ _).2 h)]
  · rw [if_neg h, if_neg (fun q => h ((iMay_iSaw _ _ _ _).1 q))]

section
variable {w W : World} {t : Nat} {L : Lay} {d q : Nat} {st : VSt}

theorem s_typ (S : Std w t L d q st W) (i : Int) : Calls Tryd.prog 23 #[.pointer (some ⟨L.v, 0, none⟩), .int .i64 i] W fun e W' => e = .returned (.int .i64 ((iVal st i).n 0)) ∧ Std w t L d q (iSaw st i) W' ∧ Maps L W W' :=
  (itype_any L st i W S.v).mono fun e W' ⟨a, b, c⟩ => ⟨a, S.step b (c.mono fun _ _ => Or.inl), c.mono fun _ _ => Or.inl⟩
theorem s_isdir (S : Std w t L d q st W) (i : Int) : Calls Tryd.prog 12 #[.pointer (some ⟨L.v, 0, none⟩), .int .i64 i] W fun e W' => e = .returned (.bool ((iVal st i).n 0 == 1)) ∧ Std w t L d q (iSaw st i) W' ∧ Maps L W W' := by
  have h := s_typ S i
  generalize (iVal st i).n 0 = x at *
  go_enter Tryd.func12, Tryd.ntmps12
  go_wp2_with fail
  refine h.mono ?_; rintro e W1 ⟨rfl, S1, t1⟩
  go_wp2_with fail
  go_ret
  exact ⟨rfl, S1, t1⟩

/-- The entries of a directory. -/
def dEnts (st : VSt) (i : Int) : List Ent := if (iVal st i).n 0 = 1 then entsL (iRead st i 0 128).data.toList else []
theorem dEnts_iSaw (st : VSt) (i j : Int) : dEnts (iSaw st i) j = dEnts st j := by unfold dEnts; rw [iVal_iSaw, iRead_iSaw]

theorem bs_drop (l : List UInt8) (k : Nat) : (bs l).extract k (bs l).size = bs (l.drop k) := by
  apply ByteArray.ext
  unfold bs
  simp [ByteArray.size]
  rw [List.take_of_length_le (by simp)]
theorem bs_take (l : List UInt8) (k : Nat) : (bs l).extract 0 k = bs (l.take k) := by
  apply ByteArray.ext
  unfold bs
  simp
theorem iRead_size (st : VSt) (i off n : Int) (h : 0 ≤ n) : ((iRead st i off n).size : Int) ≤ n := by
  unfold iRead
  split
  · simpa using h
  · rename_i hc
    rw [ByteArray.size_extract]; omega
theorem entsL_take (l : List UInt8) (j : Nat) (h : j < l.length / 16) : (entsL l).take (j + 1) = (entsL l).take j ++ [entE ((l.drop (16 * j)).take 16)] := by
  rw [List.take_add_one, entsL_at l j h]; rfl

theorem el_push {B : Nat} {w0 wr w1 : World} {v v' : Value} {o : Obj} {n : Nat} {xs ys : List Value} {e : TypeId} (hB : B ≤ wr.heap.size) (hown : wr.ownsRow B e 2 v n xs) (hnx : Below B w0 wr)
    (hown' : w1.ownsRow B e 2 v' (n + 1) (xs ++ ys)) (hgrow : (wr.alloc o).grownBy w1 v.ownBlock) : Below B w0 w1 :=
  (hnx.alloc (by omega) o).grown hgrow (by simp; omega) (fun j hj => by have := (hown.lt j hj).1; omega)

attribute [local irreducible] Int.lt Int.le
set_option maxRecDepth 100000 in
set_option maxHeartbeats 2000000 in
theorem s_entries (hM : Mx w) (S : Std w t L d q st W) (i : Int) (hs : ((iVal st i).s.size : Int) ≤ 140737488351232) :
    Calls Tryd.prog 21 #[.pointer (some ⟨L.v, 0, none⟩), .int .i64 i] W fun e W' => ∃ v, e = .returned v ∧ EL W.heap.size W' v (dEnts st i) ∧ Std w t L d q (iSaw st i) W' ∧ Maps L W W' := by
  have h1 := s_isdir S i
  by_cases hd : (iVal st i).n 0 = 1
  · have he : dEnts st i = entsL (iRead st i 0 128).data.toList := by unfold dEnts; rw [if_pos hd]
    rw [he]
    have h2 := fun {W1 : World} (S1 : Std w t L d q (iSaw st i) W1) => s_read S1 i 0 128 (by rw [iVal_iSaw]; exact hs)
    rw [iRead_iSaw, iSaw_iSaw] at h2
    have hz := iRead_size st i 0 128 (by decide)
    have hb : ((iVal st i).n 0 == 1) = true := beq_iff_eq.2 hd
    rw [hb] at h1
    generalize iRead st i 0 128 = R at *
    have hl := size_list R
    have eR := bs_list R
    generalize R.data.toList = l at *
    clear hb hd he hs
    obtain ⟨i0, hi, hz0, hz1, hz2⟩ := info_parts info_ent
    go_enter Tryd.func21, Tryd.ntmps21
    go_wp2_with fail
    refine h1.mono ?_; rintro e W1 ⟨rfl, S1, t1⟩
    go_wp2_with fail
    refine (h2 S1).mono ?_; rintro e W2 ⟨rfl, S2, t2⟩
    have T := Turn.trans t1 t2
    have hT := Lib.hid T
    rw [← eR] at hl hz ⊢
    have Hl := Lib.hid hl
    clear h1 h2 S1 t1 t2 T S eR hl
    rw [bs_size] at hz
    go_wp2_with fail
    go_loopw [5, 6] (fun out s wr => ∃ j : Nat, 16 * j ≤ l.length ∧ s = .string (bs (l.drop (16 * j))) ∧ EL W2.heap.size wr out ((entsL l).take j) ∧ Below W2.heap.size W2 wr) (fun _ s _ => match s with | .string s => s.size | _ => 0)
    case atStart => exact ⟨0, by omega, rfl, EL.nil _ _, Below.refl _ _⟩
    case round =>
      obtain ⟨j, hj, rfl, own, hb⟩ := hrel
      have hlen : (entsL l).length = l.length / 16 := entsL_len l
      by_cases hlt : 16 * j + 16 ≤ l.length
      · obtain ⟨R, hR⟩ : ∃ R, R = bs (l.drop (16 * j)) := ⟨_, rfl⟩
        have hsz : R.size = l.length - 16 * j := by rw [hR, bs_size]; simp
        have e1 : R.extract 16 R.size = bs (l.drop (16 * (j + 1))) := by rw [hR, bs_drop, List.drop_drop]; rfl
        have e2 : (R.extract 0 16).data.toList = (l.drop (16 * j)).take 16 := by rw [hR, bs_take, list_bs]
        have e3 := entsL_take l j (by omega)
        have hMr : Mx wr := hM.below (Nat.le_refl _) (S2.b.trans (hb.mono S2.b.size))
        have hu := unpack_any (R.extract 0 16) wr hMr (by rw [ByteArray.size_extract]; omega)
        rw [e2] at hu
        have e3' : (entsL l).take (j + 1) = (entsL l).take j ++ [(bs (unpL ((l.drop (16 * j)).take 16)), unpN ((l.drop (16 * j)).take 16))] := e3
        generalize bs (unpL ((l.drop (16 * j)).take 16)) = X at *
        generalize unpN ((l.drop (16 * j)).take 16) = N at *
        have l1 : (16 : Int) ≤ (R.size : Int) := by omega
        have l2 : 16 ≤ R.size := by omega
        have hnl : ((entsL l).take j).length = j := by rw [List.length_take, hlen]; omega
        have bw := hb.size
        rw [← hR]
        have E1 := Lib.hid e1
        have E3 := Lib.hid e3'
        have Hr := Lib.hid hsz
        have O := own
        unfold EL at O
        rw [hnl] at O
        clear e1 e2 e3 e3' hsz hR hMr hlen hM S2
        go_wp2_with fail
        refine hu.mono ?_; rintro e w3 ⟨rfl, t3⟩
        have own3 := own.below t3
        have O3 := own3
        unfold EL at O3
        rw [hnl] at O3
        have hb3 := hb.trans (t3.mono bw)
        have b3 := hb3.size
        clear own O hb hu t3
        go_wp2_with (first
          | (at_builtin; refine wpList_append_own _ rfl _ _ 54 rfl W2.heap.size 58 i0 (.agg #[.string ByteArray.empty, .int .i64 0]) 2 24 Tryd.underlying54 hi hz0 hz1 hz2 rfl (by decide) _ _ _ rfl (O3.alloc _) ⟨w3.heap.size, 0, none⟩ 1 1 [.string X, .int .i64 N] rfl rfl ?c1 ?c2 ?c3 ?c4 ?c5 ?_)
          | fail)
        case c1 =>
          intro j u hj
          match j, hj with
          | 0, hj => simp at hj; subst hj; simp [Addr.add]
          | 1, hj => simp at hj; subst hj; simp [Addr.add]
        case c2 => intro u hu; simp at hu; rcases hu with rfl | rfl <;> rfl
        case c3 => unfold maxLen; omega
        case c4 => omega
        case c5 => simp; omega
        intro v' w4 hown' hgrow _
        have Rb := el_push (by omega) O3 hb3 hown' hgrow
        have Ro : EL W2.heap.size w4 v' ((entsL l).take (j + 1)) := by
          unfold EL
          rw [E3.out, flatE_app, List.length_append, hnl]
          exact hown'
        have Ho := Lib.hid Ro
        clear O3 own3 hb3 hown' hgrow Ro E3 hnl
        go_wp2_with fail
        refine ⟨⟨j + 1, by omega, ?_, Ho.out, Rb⟩, ?_⟩
        · rw [← E1.out]
        · show (R.extract 16 R.size).size < R.size
          rw [ByteArray.size_extract]; omega
      · have hj2 : j = l.length / 16 := by omega
        have own2 := own
        rw [List.take_of_length_le (by omega)] at own2
        obtain ⟨R, hR⟩ : ∃ R, R = bs (l.drop (16 * j)) := ⟨_, rfl⟩
        have l1 : decide ((16 : Int) ≤ (R.size : Int)) = false := by
          rw [hR, bs_size]; simp; omega
        rw [← hR]
        have S3 := S2.below hb
        have T3 : Maps L W wr := hT.out.trans (Turn.of_below hb _)
        have bW := hT.out.size
        clear own hb S2 hT hM hR hlen
        go_wp2_with fail
        go_ret
        exact ⟨_, rfl, own2.mono bW, S3, T3⟩
  · have he : dEnts st i = [] := by unfold dEnts; rw [if_neg hd]
    rw [he]
    have hb : ((iVal st i).n 0 == 1) = false := beq_eq_false_iff_ne.2 hd
    rw [hb] at h1
    clear hb he hs hd hM S
    go_enter Tryd.func21, Tryd.ntmps21
    go_wp2_with fail
    refine h1.mono ?_; rintro e W1 ⟨rfl, S1, t1⟩
    go_wp2_with fail
    go_ret
    exact ⟨_, rfl, EL.nil _ _, S1, t1⟩
end
end Go.Proofs.YtcefigpdodlonaaDoor.St
