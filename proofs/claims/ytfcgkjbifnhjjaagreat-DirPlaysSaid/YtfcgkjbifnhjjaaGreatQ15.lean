/- The contracts of package dir: there, Is, entries. The contracts of package dir: place, Find. The contracts of package dir: Find, Add, Remove. The contracts of package dir: Names, Bare. A directory that is a table: what Add, Remove and Find make of it. Chapter 11's runs. No condition but those written in each statement. -/
import Derived.Test.YtfcgkjbifnhjjaaGreatQ14
import Derived.Test.YtfcgkjbifnhjjaaGreatStdQ
import Derived.Deep.RegionHeld3
import Derived.Deep.DrawnRows
namespace Go.Proofs.YtfcgkjbifnhjjaaGreat.St
open Go.RowKit
set_option linter.unusedVariables false

theorem info_ent : (Tryz.prog.info? 63).map (fun i => (i.zero, i.size, i.bytes)) = some (some (.agg #[.string ByteArray.empty, .int .i64 0]), 2, 24) := by kernel_rfl

/-- The cells of entries. -/
def flatE : List Ent → List Value
  | [] => []
  | e :: l => .string e.1 :: .int .i64 e.2 :: flatE l
theorem flatE_app (a b : List Ent) : flatE (a ++ b) = flatE a ++ flatE b := by
  induction a with
  | nil => rfl
  | cons x l ih => simp [flatE, ih]
theorem flatE_at (es : List Ent) : ∀ (i : Nat) (h : i < es.length), (flatE es)[i * 2]? = some (.string es[i].1) ∧ (flatE es)[i * 2 + 1]? = some (.int .i64 es[i].2) := by
  induction es with
  | nil => intro i h; simp at h
  | cons e l ih =>
    intro i h
    cases i with
    | zero => exact ⟨rfl, rfl⟩
    | succ i =>
      have := ih i (by simpa using h)
      rw [show (i + 1) * 2 = i * 2 + 1 + 1 by omega]
      simpa [flatE] using this
/-- A list of entries in blocks from B on. -/
def EL (B : Nat) (W : World) (v : Value) (es : List Ent) : Prop := W.ownsRow B 63 2 v es.length (flatE es)
theorem EL.nil (B : Nat) (W : World) : EL B W (.slice none 0 0) [] := World.ownsRow_nil _ _ _ _
theorem EL.below {B : Nat} {W W' : World} {v : Value} {es : List Ent} (h : EL B W v es) (hb : Below W.heap.size W W') : EL B W' v es := by
  refine ⟨h.1, ?_⟩
  rcases h.2 with q | ⟨g, cap, cur, h1, h2, h3, h4⟩
  · exact Or.inl q
  · exact Or.inr ⟨g, cap, cur, h1, h2, (hb.block g (lt_of_heap h3)).trans h3, h4⟩
theorem EL.mono {B B' : Nat} {W : World} {v : Value} {es : List Ent} (h : EL B W v es) (hb : B' ≤ B) : EL B' W v es := by
  refine ⟨h.1, ?_⟩
  rcases h.2 with q | ⟨g, cap, cur, h1, h2, h3⟩
  · exact Or.inl q
  · exact Or.inr ⟨g, cap, cur, h1, by omega, h3⟩
/-- What a walk reads of a list of entries. -/
def ER (W : World) (a : Option Addr) (es : List Ent) : Prop := ∀ i (h : i < es.length), ∃ x, a = some x ∧ W.cell? (x.add (i * 2)) = some (.string es[i].1) ∧ W.cell? ⟨(x.add (i * 2)).block, (x.add (i * 2)).off + 1, none⟩ = some (.int .i64 es[i].2)
theorem EL.er {B : Nat} {W : World} {v : Value} {es : List Ent} (h : EL B W v es) : ∃ a c, v = .slice a es.length c ∧ ER W a es ∧ ∀ x, a = some x → B ≤ x.block := by
  rcases h.2 with ⟨rfl, h0⟩ | ⟨g, cap, cur, e', h2, _⟩
  · exact ⟨none, 0, by rw [h0], fun i hi => by omega, fun x hx => by cases hx⟩
  · refine ⟨_, _, e', fun i hi => ⟨_, rfl, ?_, ?_⟩, fun x hx => by cases hx; exact h2⟩
    · subst e'
      exact World.ownsRow.cells h rfl (i * 2) _ (flatE_at es i hi).1
    · subst e'
      have := World.ownsRow.cells h rfl (i * 2 + 1) _ (flatE_at es i hi).2
      by_cases hz : i = 0
      · subst hz; simpa [Addr.add] using this
      · simp only [Addr.add] at this ⊢
        rw [if_neg (by omega)] at this ⊢
        simpa using this
theorem ER.below {W W' : World} {a : Option Addr} {es : List Ent} (h : ER W a es) (hb : Below W.heap.size W W') : ER W' a es := fun i hi => by
  obtain ⟨x, e, c, d⟩ := h i hi
  exact ⟨x, e, (hb.cell (World.block_lt_of_cell? _ _ c)).trans c, (hb.cell (World.block_lt_of_cell? _ _ d)).trans d⟩

theorem there_any (x : ByteArray) (n : Int) (w : World) :
    Calls Tryz.prog 28 #[.agg #[.string x, .int .i64 n]] w fun e w' => e = .returned (.bool (thereE (x, n))) ∧ Below w.heap.size w w' := by
  have hb : Below w.heap.size w (w.alloc (Obj.cells #[Value.string x, .int .i64 n] 63)) := (Below.refl _ _).alloc (Nat.le_refl _) _
  unfold thereE
  by_cases h : 1 ≤ n
  · have hd : decide (1 ≤ n) = true := decide_eq_true h
    go_enter Tryz.func28, Tryz.ntmps28
    go_wp2_with fail
    go_ret
    exact ⟨ret_bool (by simp [h]), hb⟩
  · have hd : decide (1 ≤ n) = false := decide_eq_false h
    go_enter Tryz.func28, Tryz.ntmps28
    go_wp2_with fail
    go_ret
    exact ⟨ret_bool (by simp), hb⟩

/-! ### looks change nothing that is looked at -/
theorem saw_saw (st : VSt) (k n : Int) : (st.saw k n).saw k n = st.saw k n := by
  unfold VSt.saw
  by_cases h : placeI k n < 0
  · rw [if_pos h, if_pos h]
  · rw [if_neg h, if_neg h]
    unfold VSt.reads
    congr 1
    funext a b
    show updK (updK st.rd k n (.bool true)) k n (.bool true) a b = updK st.rd k n (.bool true) a b
    unfold updK
    split <;> rfl
theorem iSaw_iSaw (st : VSt) (i : Int) : iSaw (iSaw st i) i = iSaw st i := by
  unfold iSaw
  by_cases h : i < 1 ∨ 16 ≤ i
  · rw [if_pos h, if_pos h]
  · rw [if_neg h, if_neg h, saw_saw]
theorem iVal_iSaw (st : VSt) (i j : Int) : iVal (iSaw st i) j = iVal st j := by unfold iVal; rw [get_iSaw]
theorem iHas_iSaw (st : VSt) (i j : Int) : iHas (iSaw st i) j = iHas st j := by unfold iHas; rw [get_iSaw]
theorem iRead_iSaw (st : VSt) (i j a b : Int) : iRead (iSaw st i) j a b = iRead st j a b := by unfold iRead; rw [iVal_iSaw]
theorem iMay_iSaw (st : VSt) (i j off : Int) : iMay (iSaw st i) j off ↔ iMay st j off := by unfold iMay; rw [iVal_iSaw, iHas_iSaw]
theorem iWrite_iSaw (st : VSt) (i off : Int) (d : ByteArray) : iWrite (iSaw st i) i off d = iWrite st i off d := by
  unfold iWrite
  by_cases h : iMay st i off
  · rw [if_pos h, if_pos ((iMay_iSaw _ _ _ _).2 h), iSaw_iSaw, iVal_iSaw]
  · rw [if_neg h, if_neg (fun q => h ((iMay_iSaw _ _ _ _).1 q)), iSaw_iSaw]
theorem iWrote_iSaw (st : VSt) (i j off : Int) (d : ByteArray) : iWrote (iSaw st i) j off d = iWrote st j off d := by
  unfold iWrote
  by_cases h : iMay st j off
  · rw [if_pos h, if_pos ((iMay_iSaw _ _ _ _).2 h)]
  · rw [if_neg h, if_neg (fun q => h ((iMay_iSaw _ _ _ _).1 q))]

section
variable {w W : World} {t : Nat} {L : Lay} {d q : Nat} {st : VSt}

theorem s_typ (S : Std w t L d q st W) (i : Int) : Calls Tryz.prog 43 #[.pointer (some ⟨L.v, 0, none⟩), .int .i64 i] W fun e W' => e = .returned (.int .i64 ((iVal st i).n 0)) ∧ Std w t L d q (iSaw st i) W' ∧ Maps L W W' :=
  (itype_any L st i W S.v).mono fun e W' ⟨a, b, c⟩ => ⟨a, S.step b (c.mono fun _ _ => Or.inl), c.mono fun _ _ => Or.inl⟩
theorem s_isdir (S : Std w t L d q st W) (i : Int) : Calls Tryz.prog 12 #[.pointer (some ⟨L.v, 0, none⟩), .int .i64 i] W fun e W' => e = .returned (.bool ((iVal st i).n 0 == 1)) ∧ Std w t L d q (iSaw st i) W' ∧ Maps L W W' := by
  have h := s_typ S i
  generalize (iVal st i).n 0 = x at *
  go_enter Tryz.func12, Tryz.ntmps12
  go_wp2_with fail
  refine h.mono ?_; rintro e W1 ⟨rfl, S1, t1⟩
  go_wp2_with fail
  go_ret
  exact ⟨rfl, S1, t1⟩

/-- The entries of a directory. -/
def dEnts (st : VSt) (i : Int) : List Ent := if (iVal st i).n 0 = 1 then entsL (iRead st i 0 128).data.toList else []
theorem dEnts_iSaw (st : VSt) (i j : Int) : dEnts (iSaw st i) j = dEnts st j := by unfold dEnts; rw [iVal_iSaw, iRead_iSaw]

theorem bs_drop (l : List UInt8) (k : Nat) : (bs l).extract k (bs l).size = bs (l.drop k) := by
  apply ByteArray.ext
  unfold bs
  simp [ByteArray.size]
  rw [List.take_of_length_le (by simp)]
theorem bs_take (l : List UInt8) (k : Nat) : (bs l).extract 0 k = bs (l.take k) := by
  apply ByteArray.ext
  unfold bs
  simp
theorem iRead_size (st : VSt) (i off n : Int) (h : 0 ≤ n) : ((iRead st i off n).size : Int) ≤ n := by
  unfold iRead
  split
  · simpa using h
  · rename_i hc
    rw [ByteArray.size_extract]; omega
theorem entsL_take (l : List UInt8) (j : Nat) (h : j < l.length / 16) : (entsL l).take (j + 1) = (entsL l).take j ++ [entE ((l.drop (16 * j)).take 16)] := by
  rw [List.take_add_one, entsL_at l j h]; rfl

theorem el_push {B : Nat} {w0 wr w1 : World} {v v' : Value} {o : Obj} {n : Nat} {xs ys : List Value} {e : TypeId} (hB : B ≤ wr.heap.size) (hown : wr.ownsRow B e 2 v n xs) (hnx : Below B w0 wr)
    (hown' : w1.ownsRow B e 2 v' (n + 1) (xs ++ ys)) (hgrow : (wr.alloc o).grownBy w1 v.ownBlock) : Below B w0 w1 :=
  (hnx.alloc (by omega) o).grown hgrow (by simp; omega) (fun j hj => by have := (hown.lt j hj).1; omega)

attribute [local irreducible] Int.lt Int.le
set_option maxRecDepth 100000 in
set_option maxHeartbeats 2000000 in
theorem s_entries (hM : Mx w) (S : Std w t L d q st W) (i : Int) (hs : ((iVal st i).s.size : Int) ≤ 140737488351232) :
    Calls Tryz.prog 26 #[.pointer (some ⟨L.v, 0, none⟩), .int .i64 i] W fun e W' => ∃ v, e = .returned v ∧ EL W.heap.size W' v (dEnts st i) ∧ Std w t L d q (iSaw st i) W' ∧ Maps L W W' := by
  have h1 := s_isdir S i
  by_cases hd : (iVal st i).n 0 = 1
  · have he : dEnts st i = entsL (iRead st i 0 128).data.toList := by unfold dEnts; rw [if_pos hd]
    rw [he]
    have h2 := fun {W1 : World} (S1 : Std w t L d q (iSaw st i) W1) => s_read S1 i 0 128 (by rw [iVal_iSaw]; exact hs)
    rw [iRead_iSaw, iSaw_iSaw] at h2
    have hz := iRead_size st i 0 128 (by decide)
    have hb : ((iVal st i).n 0 == 1) = true := beq_iff_eq.2 hd
    rw [hb] at h1
    generalize iRead st i 0 128 = R at *
    have hl := size_list R
    have eR := bs_list R
    generalize R.data.toList = l at *
    clear hb hd he hs
    obtain ⟨i0, hi, hz0, hz1, hz2⟩ := info_parts info_ent
    go_enter Tryz.func26, Tryz.ntmps26
    go_wp2_with fail
    refine h1.mono ?_; rintro e W1 ⟨rfl, S1, t1⟩
    go_wp2_with fail
    refine (h2 S1).mono ?_; rintro e W2 ⟨rfl, S2, t2⟩
    have T := Turn.trans t1 t2
    have hT := Lib.hid T
    rw [← eR] at hl hz ⊢
    have Hl := Lib.hid hl
    clear h1 h2 S1 t1 t2 T S eR hl
    rw [bs_size] at hz
    go_wp2_with fail
    go_loopw [5, 6] (fun out s wr => ∃ j : Nat, 16 * j ≤ l.length ∧ s = .string (bs (l.drop (16 * j))) ∧ EL W2.heap.size wr out ((entsL l).take j) ∧ Below W2.heap.size W2 wr) (fun _ s _ => match s with | .string s => s.size | _ => 0)
    case atStart => exact ⟨0, by omega, rfl, EL.nil _ _, Below.refl _ _⟩
    case round =>
      obtain ⟨j, hj, rfl, own, hb⟩ := hrel
      have hlen : (entsL l).length = l.length / 16 := entsL_len l
      by_cases hlt : 16 * j + 16 ≤ l.length
      · obtain ⟨R, hR⟩ : ∃ R, R = bs (l.drop (16 * j)) := ⟨_, rfl⟩
        have hsz : R.size = l.length - 16 * j := by rw [hR, bs_size]; simp
        have e1 : R.extract 16 R.size = bs (l.drop (16 * (j + 1))) := by rw [hR, bs_drop, List.drop_drop]; rfl
        have e2 : (R.extract 0 16).data.toList = (l.drop (16 * j)).take 16 := by rw [hR, bs_take, list_bs]
        have e3 := entsL_take l j (by omega)
        have hMr : Mx wr := hM.below (Nat.le_refl _) (S2.b.trans (hb.mono S2.b.size))
        have hu := unpack_any (R.extract 0 16) wr hMr (by rw [ByteArray.size_extract]; omega)
        rw [e2] at hu
        have e3' : (entsL l).take (j + 1) = (entsL l).take j ++ [(bs (unpL ((l.drop (16 * j)).take 16)), unpN ((l.drop (16 * j)).take 16))] := e3
        generalize bs (unpL ((l.drop (16 * j)).take 16)) = X at *
        generalize unpN ((l.drop (16 * j)).take 16) = N at *
        have l1 : (16 : Int) ≤ (R.size : Int) := by omega
        have l2 : 16 ≤ R.size := by omega
        have hnl : ((entsL l).take j).length = j := by rw [List.length_take, hlen]; omega
        have bw := hb.size
        rw [← hR]
        have E1 := Lib.hid e1
        have E3 := Lib.hid e3'
        have Hr := Lib.hid hsz
        have O := own
        unfold EL at O
        rw [hnl] at O
        clear e1 e2 e3 e3' hsz hR hMr hlen hM S2
        go_wp2_with fail
        refine hu.mono ?_; rintro e w3 ⟨rfl, t3⟩
        have own3 := own.below t3
        have O3 := own3
        unfold EL at O3
        rw [hnl] at O3
        have hb3 := hb.trans (t3.mono bw)
        have b3 := hb3.size
        clear own O hb hu t3
        go_wp2_with (first
          | (at_builtin; refine wpList_append_own _ rfl _ _ 59 rfl W2.heap.size 63 i0 (.agg #[.string ByteArray.empty, .int .i64 0]) 2 24 Tryz.underlying59 hi hz0 hz1 hz2 rfl (by decide) _ _ _ rfl (O3.alloc _) ⟨w3.heap.size, 0, none⟩ 1 1 [.string X, .int .i64 N] rfl rfl ?c1 ?c2 ?c3 ?c4 ?c5 ?_)
          | fail)
        case c1 =>
          intro j u hj
          match j, hj with
          | 0, hj => simp at hj; subst hj; simp [Addr.add]
          | 1, hj => simp at hj; subst hj; simp [Addr.add]
        case c2 => intro u hu; simp at hu; rcases hu with rfl | rfl <;> rfl
        case c3 => unfold maxLen; omega
        case c4 => omega
        case c5 => simp; omega
        intro v' w4 hown' hgrow _
        have Rb := el_push (by omega) O3 hb3 hown' hgrow
        have Ro : EL W2.heap.size w4 v' ((entsL l).take (j + 1)) := by
          unfold EL
          rw [E3.out, flatE_app, List.length_append, hnl]
          exact hown'
        have Ho := Lib.hid Ro
        clear O3 own3 hb3 hown' hgrow Ro E3 hnl
        go_wp2_with fail
        refine ⟨⟨j + 1, by omega, ?_, Ho.out, Rb⟩, ?_⟩
        · rw [← E1.out]
        · show (R.extract 16 R.size).size < R.size
          rw [ByteArray.size_extract]; omega
      · have hj2 : j = l.length / 16 := by omega
        have own2 := own
        rw [List.take_of_length_le (by omega)] at own2
        obtain ⟨R, hR⟩ : ∃ R, R = bs (l.drop (16 * j)) := ⟨_, rfl⟩
        have l1 : decide ((16 : Int) ≤ (R.size : Int)) = false := by
          rw [hR, bs_size]; simp; omega
        rw [← hR]
        have S3 := S2.below hb
        have T3 : Maps L W wr := hT.out.trans (Turn.of_below hb _)
        have bW := hT.out.size
        clear own hb S2 hT hM hR hlen
        go_wp2_with fail
        go_ret
        exact ⟨_, rfl, own2.mono bW, S3, T3⟩
  · have he : dEnts st i = [] := by unfold dEnts; rw [if_neg hd]
    rw [he]
    have hb : ((iVal st i).n 0 == 1) = false := beq_eq_false_iff_ne.2 hd
    rw [hb] at h1
    clear hb he hs hd hM S
    go_enter Tryz.func26, Tryz.ntmps26
    go_wp2_with fail
    refine h1.mono ?_; rintro e W1 ⟨rfl, S1, t1⟩
    go_wp2_with fail
    go_ret
    exact ⟨_, rfl, EL.nil _ _, S1, t1⟩
end
end Go.Proofs.YtfcgkjbifnhjjaaGreat.St

namespace Go.Proofs.YtfcgkjbifnhjjaaGreat.St
open Go.RowKit
set_option linter.unusedVariables false

theorem bears_eq (s x : ByteArray) (n : Int) : bearsE s (x, n) = (thereE (x, n) && decide (x = s)) := rfl
theorem str_dec (x s : ByteArray) : (x.toList == s.toList) = decide (x = s) := by
  rw [ByteArray.toList_eq, ByteArray.toList_eq]
  by_cases h : x = s
  · subst h; simp
  · rw [decide_eq_false h]
    apply beq_eq_false_iff_ne.2
    intro e
    exact h (Go.WideShapes.bytes_inj e)

set_option maxRecDepth 100000 in
theorem bears_any (x : ByteArray) (n : Int) (b : Nat) (s : ByteArray) (w : World) (hc : w.cell? ⟨b, 0, none⟩ = some (.string s)) :
    Calls Tryz.prog 61 #[.agg #[.string x, .int .i64 n], .pointer (some ⟨b, 0, none⟩)] w fun e w' => e = .returned (.bool (bearsE s (x, n))) ∧ Below w.heap.size w w' := by
  have hlt := World.block_lt_of_cell? _ _ hc
  simp at hlt
  have h := fun W => there_any x n W
  rw [bears_eq]
  generalize thereE (x, n) = y at *
  cases y with
  | false =>
    go_enter Tryz.func61, Tryz.ntmps61
    go_wp2_with fail
    refine (h _).mono ?_; rintro e w1 ⟨rfl, t1⟩
    go_wp2_with fail
    go_ret
    exact ⟨ret_bool (by simp), (after1 t1).2.2⟩
  | true =>
    go_enter Tryz.func61, Tryz.ntmps61
    go_wp2_with fail
    refine (h _).mono ?_; rintro e w1 ⟨rfl, t1⟩
    obtain ⟨b0, s0, tb⟩ := after1 t1
    have c0 := cell_of_row w1 w.heap.size 0 _ _ _ b0
    have c1 := (tb.cell (p := ⟨b, 0, none⟩) hlt).trans hc
    simp at c0
    clear b0 t1 h hc
    go_wp2_with fail
    go_ret
    exact ⟨ret_bool (by rw [str_dec, Bool.true_and]), tb⟩

set_option maxRecDepth 100000 in
theorem free_any (x : ByteArray) (n : Int) (w : World) :
    Calls Tryz.prog 31 #[.agg #[.string x, .int .i64 n]] w fun e w' => e = .returned (.bool (!thereE (x, n))) ∧ Below w.heap.size w w' := by
  have h := fun W => there_any x n W
  generalize thereE (x, n) = y at *
  go_enter Tryz.func31, Tryz.ntmps31
  go_wp2_with fail
  refine (h _).mono ?_; rintro e w1 ⟨rfl, t1⟩
  go_wp2_with fail
  go_ret
  exact ⟨rfl, (after1 t1).2.2⟩

set_option maxRecDepth 100000 in
set_option maxHeartbeats 2000000 in
theorem index_bears (a : Option Addr) (c : Nat) (es : List Ent) (b : Nat) (s : ByteArray) (w : World) (hn : es.length ≤ 1000000) (h : ER w a es) (hc : w.cell? ⟨b, 0, none⟩ = some (.string s)) :
    Calls Tryz.prog 30 #[.slice a es.length c, .func (.func 61) #[] #[.pointer (some ⟨b, 0, none⟩)]] w fun e w' => e = .returned (.int .i64 (findI (bearsE s) es)) ∧ Below w.heap.size w w' := by
  go_enter Tryz.func30, Tryz.ntmps30
  go_wp2_with fail
  go_loopw [8] (fun i wr => ∃ j : Nat, j ≤ es.length ∧ i = .int .i64 (j : Int) ∧ Below w.heap.size w wr ∧ (∀ t (ht : t < es.length), t < j → bearsE s es[t] = false)) (fun i _ => es.length - (intOf i).toNat)
  case atStart => exact ⟨0, Nat.zero_le _, rfl, Below.refl _ _, fun t _ ht => absurd ht (by omega)⟩
  case round =>
    obtain ⟨j, hj, rfl, hb, hne⟩ := hrel
    by_cases hlt : j < es.length
    · have l1 : (j : Int) < (es.length : Int) := by omega
      have l0 : (0 : Int) ≤ (j : Int) := by omega
      obtain ⟨x, rfl, x0, x1⟩ := (h.below hb) j hlt
      have hcr := (hb.cell (World.block_lt_of_cell? _ _ hc)).trans hc
      have hk := bears_any es[j].1 es[j].2 b s wr hcr
      rw [show (es[j].1, es[j].2) = es[j] from rfl] at hk
      cases hv : bearsE s es[j] with
      | true =>
        have hr := findI_hit hlt hv hne
        rw [hv] at hk
        have Hr := Lib.hid hr
        clear h hc hcr hne hr hv
        generalize es[j] = E at *
        go_wp2_with fail
        refine hk.mono ?_; rintro e W1 ⟨rfl, t1⟩
        go_wp2_with fail
        go_ret
        exact ⟨ret_int Hr.out.symm, hb.trans (t1.mono hb.size)⟩
      | false =>
        have hne2 : ∀ t (ht : t < es.length), t < j + 1 → bearsE s es[t] = false := fun t ht h2 => by
          by_cases q : t = j
          · subst q; exact hv
          · exact hne t ht (by omega)
        rw [hv] at hk
        have Hne := Lib.hid hne2
        clear h hc hcr hne hne2 hv
        generalize es[j] = E at *
        go_wp2_with fail
        refine hk.mono ?_; rintro e W1 ⟨rfl, t1⟩
        go_wp2_with fail
        exact ⟨⟨j + 1, by omega, by go_num, hb.trans (t1.mono hb.size), Hne.out⟩, by simp [intOf]; omega⟩
    · obtain rfl : j = es.length := by omega
      have hr := findI_miss (p := bearsE s) (es := es) (fun t ht => hne t ht ht)
      have Hr := Lib.hid hr
      clear h hc hne hr
      go_wp2_with fail
      go_ret
      exact ⟨ret_int Hr.out.symm, hb⟩

set_option maxRecDepth 100000 in
set_option maxHeartbeats 2000000 in
theorem index_free (a : Option Addr) (c : Nat) (es : List Ent) (w : World) (hn : es.length ≤ 1000000) (h : ER w a es) :
    Calls Tryz.prog 30 #[.slice a es.length c, .func (.func 31) #[] #[]] w fun e w' => e = .returned (.int .i64 (findI (fun e => !thereE e) es)) ∧ Below w.heap.size w w' := by
  go_enter Tryz.func30, Tryz.ntmps30
  go_wp2_with fail
  go_loopw [8] (fun i wr => ∃ j : Nat, j ≤ es.length ∧ i = .int .i64 (j : Int) ∧ Below w.heap.size w wr ∧ (∀ t (ht : t < es.length), t < j → (!thereE es[t]) = false)) (fun i _ => es.length - (intOf i).toNat)
  case atStart => exact ⟨0, Nat.zero_le _, rfl, Below.refl _ _, fun t _ ht => absurd ht (by omega)⟩
  case round =>
    obtain ⟨j, hj, rfl, hb, hne⟩ := hrel
    by_cases hlt : j < es.length
    · have l1 : (j : Int) < (es.length : Int) := by omega
      have l0 : (0 : Int) ≤ (j : Int) := by omega
      obtain ⟨x, rfl, x0, x1⟩ := (h.below hb) j hlt
      have hk := free_any es[j].1 es[j].2 wr
      rw [show (es[j].1, es[j].2) = es[j] from rfl] at hk
      cases hv : !thereE es[j] with
      | true =>
        have hr := findI_hit (p := fun e => !thereE e) hlt hv hne
        rw [hv] at hk
        have Hr := Lib.hid hr
        clear h hne hr hv
        generalize es[j] = E at *
        go_wp2_with fail
        refine hk.mono ?_; rintro e W1 ⟨rfl, t1⟩
        go_wp2_with fail
        go_ret
        exact ⟨ret_int Hr.out.symm, hb.trans (t1.mono hb.size)⟩
      | false =>
        have hne2 : ∀ t (ht : t < es.length), t < j + 1 → (!thereE es[t]) = false := fun t ht h2 => by
          by_cases q : t = j
          · subst q; exact hv
          · exact hne t ht (by omega)
        rw [hv] at hk
        have Hne := Lib.hid hne2
        clear h hne hne2 hv
        generalize es[j] = E at *
        go_wp2_with fail
        refine hk.mono ?_; rintro e W1 ⟨rfl, t1⟩
        go_wp2_with fail
        exact ⟨⟨j + 1, by omega, by go_num, hb.trans (t1.mono hb.size), Hne.out⟩, by simp [intOf]; omega⟩
    · obtain rfl : j = es.length := by omega
      have hr := findI_miss (p := fun e => !thereE e) (es := es) (fun t ht => hne t ht ht)
      have Hr := Lib.hid hr
      clear h hne hr
      go_wp2_with fail
      go_ret
      exact ⟨ret_int Hr.out.symm, hb⟩

set_option maxRecDepth 100000 in
theorem place_any' (a : Option Addr) (c : Nat) (es : List Ent) (s : ByteArray) (w : World) (hn : es.length ≤ 1000000) (hs : s.size ≤ 1048576) (h : ER w a es) :
    Calls Tryz.prog 29 #[.slice a es.length c, .string s] w fun e w' => e = .returned (.int .i64 (placeE es s)) ∧ Below w.heap.size w w' := by
  have hr := fun W => right_any s W hs
  have hb : Below w.heap.size w (w.alloc (Obj.cells #[Value.string s] 9)) := (Below.refl _ _).alloc (Nat.le_refl _) _
  have hc : (w.alloc (Obj.cells #[Value.string s] 9)).cell? ⟨w.heap.size, 0, none⟩ = some (.string s) := cell_of_row _ _ 0 _ _ _ (blk_alloc_at _ _ _ rfl)
  have hi := index_bears a c es w.heap.size s _ hn (h.below hb) hc
  unfold placeE
  cases hv : rightL s.data.toList with
  | false =>
    rw [if_neg (by simp)]
    rw [hv] at hr
    go_enter Tryz.func29, Tryz.ntmps29
    go_wp2_with fail
    refine (hr _).mono ?_; rintro e w1 ⟨rfl, rfl⟩
    go_wp2_with fail
    go_ret
    exact ⟨rfl, hb⟩
  | true =>
    rw [if_pos rfl]
    rw [hv] at hr
    generalize findI (bearsE s) es = r at *
    clear h hv
    go_enter Tryz.func29, Tryz.ntmps29
    go_wp2_with fail
    refine (hr _).mono ?_; rintro e w1 ⟨rfl, rfl⟩
    go_wp2_with fail
    refine hi.mono ?_; rintro e w2 ⟨rfl, t2⟩
    go_wp2_with fail
    go_ret
    exact ⟨rfl, hb.trans (t2.mono (by simp))⟩
end Go.Proofs.YtfcgkjbifnhjjaaGreat.St

namespace Go.Proofs.YtfcgkjbifnhjjaaGreat.St
open Go.RowKit
set_option linter.unusedVariables false

theorem dEnts_len (st : VSt) (i : Int) : (dEnts st i).length ≤ 8 := by
  unfold dEnts
  split
  · rw [entsL_len, size_list]
    have := iRead_size st i 0 128 (by decide)
    omega
  · simp
/-- Behind which byte Add writes. -/
def addO (z : Nat) (f : Int) : Int := if f < 0 then (z : Int) / 16 * 16 else f * 16
theorem addO_neg (z : Nat) : addO z (-1) = (z : Int) / 16 * 16 := by unfold addO; rw [if_pos (by decide)]
theorem addO_pos (z : Nat) (f : Int) (h : ¬ f < 0) : addO z f = f * 16 := by unfold addO; rw [if_neg h]
/-- What Find answers. -/
def fndN (es : List Ent) (s : ByteArray) : Int := if placeE es s < 0 then 0 else (es.getD (placeE es s).toNat (⟨#[]⟩, 0)).2
def fndB (es : List Ent) (s : ByteArray) : Bool := !decide (placeE es s < 0)
theorem placeE_at {es : List Ent} {s : ByteArray} (h : ¬ placeE es s < 0) : ∃ j : Nat, ∃ hj : j < es.length, placeE es s = j ∧ bearsE s es[j] = true := by
  unfold placeE at h ⊢
  split at h
  · rename_i hr
    rw [if_pos hr]
    rcases findI_cases (bearsE s) es with ⟨e, _⟩ | ⟨j, hj, e, hb, _⟩
    · rw [e] at h; exact absurd (by decide) h
    · exact ⟨j, hj, e, hb⟩
  · exact absurd (by decide) h
theorem placeE_ge (es : List Ent) (s : ByteArray) : -1 ≤ placeE es s ∧ placeE es s < es.length + 1 := by
  by_cases h : placeE es s < 0
  · unfold placeE at h ⊢
    split
    · rcases findI_cases (bearsE s) es with ⟨e, _⟩ | ⟨j, hj, e, hb, _⟩
      · omega
      · omega
    · omega
  · obtain ⟨j, hj, e, _⟩ := placeE_at h
    omega

theorem ER.maps {W W' : World} {L : Lay} {st : VSt} {a : Option Addr} {es : List Ent} (h : ER W a es) (hV : ViewAt W L st) (hm : Maps L W W') : ER W' a es := fun i hi => by
  obtain ⟨x, e, c, d⟩ := h i hi
  have key : ∀ (p : Addr) (v : Value), W.cell? p = some v → W'.cell? p = some v := by
    intro p v hp
    have hlt := World.block_lt_of_cell? _ _ hp
    obtain ⟨_, _, hr, _⟩ := hV.cr
    obtain ⟨_, _, hm', _⟩ := hV.cm
    have hne : ¬(p.block = L.r ∨ p.block = L.m) := by
      rintro (q | q)
      · unfold World.cell? at hp; rw [q, hr] at hp; simp at hp
      · unfold World.cell? at hp; rw [q, hm'] at hp; simp at hp
    rw [World.cell?_of_block (hm.block p.block (by simpa using hlt) hne)]
    exact hp
  exact ⟨x, e, key _ _ c, key _ _ d⟩

section
variable {w W : World} {t : Nat} {L : Lay} {d q : Nat} {st : VSt}

attribute [local irreducible] Int.lt Int.le
set_option maxRecDepth 100000 in
set_option maxHeartbeats 2000000 in
theorem s_find (hM : Mx w) (S : Std w t L d q st W) (i : Int) (s : ByteArray) (hs : s.size ≤ 1048576) (hz : ((iVal st i).s.size : Int) ≤ 140737488351232) :
    Calls Tryz.prog 10 #[.pointer (some ⟨L.v, 0, none⟩), .int .i64 i, .string s] W fun e W' => e = .returned (.tuple #[.int .i64 (fndN (dEnts st i) s), .bool (fndB (dEnts st i) s)]) ∧ Std w t L d q (iSaw st i) W' ∧ Maps L W W' := by
  have h1 := s_entries hM S i hz
  have hl := dEnts_len st i
  have hp := fun a c W h => place_any' a c (dEnts st i) s W (by omega) hs h
  by_cases hc : placeE (dEnts st i) s < 0
  · have e1 : fndN (dEnts st i) s = 0 := by unfold fndN; rw [if_pos hc]
    have e2 : fndB (dEnts st i) s = false := by unfold fndB; rw [decide_eq_true hc]; rfl
    rw [e1, e2]
    generalize dEnts st i = es at *
    generalize placeE es s = p at *
    clear e1 e2 hz hs
    go_enter Tryz.func10, Tryz.ntmps10
    go_wp2_with fail
    refine h1.mono ?_; rintro e W1 ⟨v, rfl, own, S1, t1⟩
    obtain ⟨a, c, rfl, er, _⟩ := own.er
    have hp1 := hp a c W1 er
    clear h1 hp own er
    go_wp2_with fail
    refine hp1.mono ?_; rintro e W2 ⟨rfl, t2⟩
    go_wp2_with fail
    go_ret2
    exact ⟨rfl, S1.below t2, Turn.trans t1 (Turn.of_below t2 _)⟩
  · obtain ⟨j, hj, e0, _⟩ := placeE_at hc
    have e1 : fndN (dEnts st i) s = (dEnts st i)[j].2 := by
      unfold fndN; rw [if_neg hc, e0]; simp [List.getD, List.getElem?_eq_getElem hj]
    have e2 : fndB (dEnts st i) s = true := by unfold fndB; rw [decide_eq_false hc]; rfl
    rw [e1, e2]
    rw [e0] at hp
    generalize dEnts st i = es at *
    have l1 : (j : Int) < (es.length : Int) := by omega
    have l0 : (0 : Int) ≤ (j : Int) := by omega
    clear e1 e2 hz hs hc e0
    go_enter Tryz.func10, Tryz.ntmps10
    go_wp2_with fail
    refine h1.mono ?_; rintro e W1 ⟨v, rfl, own, S1, t1⟩
    obtain ⟨a, c, rfl, er, _⟩ := own.er
    have hp1 := hp a c W1 er
    clear h1 hp own
    go_wp2_with fail
    refine hp1.mono ?_; rintro e W2 ⟨rfl, t2⟩
    obtain ⟨x, rfl, x0, x1⟩ := er.below t2 j hj
    clear hp1 er
    go_wp2_with fail
    go_ret2
    exact ⟨rfl, S1.below t2, Turn.trans t1 (Turn.of_below t2 _)⟩

/-- Where Add writes; none: nowhere. -/
def addAt (st : VSt) (i : Int) (s : ByteArray) (n : Int) : Option Int :=
  if (iVal st i).n 0 = 1 ∧ rightL s.data.toList = true ∧ thereE (s, n) = true ∧ placeE (dEnts st i) s < 0 then
    if addO (iVal st i).s.size (findI (fun e => !thereE e) (dEnts st i)) + 16 ≤ 128 then
      some (addO (iVal st i).s.size (findI (fun e => !thereE e) (dEnts st i)))
    else none
  else none
def dAdd (st : VSt) (i : Int) (s : ByteArray) (n : Int) : VSt := match addAt st i s n with
  | none => iSaw st i
  | some o => iWrite st i o (bs (packL s.data.toList n))
def dAddB (st : VSt) (i : Int) (s : ByteArray) (n : Int) : Bool := match addAt st i s n with
  | none => false
  | some o => iWrote st i o (bs (packL s.data.toList n)) == 16

set_option maxRecDepth 100000 in
set_option maxHeartbeats 2000000 in
theorem s_add_no (hM : Mx w) (S : Std w t L d q st W) (i : Int) (s : ByteArray) (n : Int) (hs : s.size ≤ 1048576) (hz : ((iVal st i).s.size : Int) ≤ 140737488351232)
    (hc : ¬((iVal st i).n 0 = 1 ∧ rightL s.data.toList = true ∧ thereE (s, n) = true ∧ placeE (dEnts st i) s < 0)) :
    Calls Tryz.prog 5 #[.pointer (some ⟨L.v, 0, none⟩), .int .i64 i, .string s, .int .i64 n] W fun e W' => e = .returned (.bool false) ∧ Std w t L d q (iSaw st i) W' ∧ Maps L W W' := by
  have h1 := s_entries hM S i hz
  have hl := dEnts_len st i
  have hp := fun a c W h => place_any' a c (dEnts st i) s W (by omega) hs h
  have h2 := fun {W1 : World} (S1 : Std w t L d q (iSaw st i) W1) => s_isdir S1 i
  simp only [iVal_iSaw, iSaw_iSaw] at h2
  have hr := fun W => right_any s W hs
  have ht := fun W => there_any s n W
  by_cases c1 : (iVal st i).n 0 = 1
  case' neg =>
    have b1 : ((iVal st i).n 0 == 1) = false := beq_eq_false_iff_ne.2 c1
    rw [b1] at h2
    clear hz hs hc c1 b1 hr ht hp
    go_enter Tryz.func5, Tryz.ntmps5
    go_wp2_with fail
    refine h1.mono ?_; rintro e W1 ⟨v, rfl, own, S1, t1⟩
    clear h1 own
    go_wp2_with fail
    refine (h2 S1).mono ?_; rintro e W2 ⟨rfl, S2, t2⟩
    clear h2 S1
    go_wp2_with fail
    go_ret
    exact ⟨rfl, S2, Turn.trans t1 t2⟩
  case pos =>
    have b1 : ((iVal st i).n 0 == 1) = true := beq_iff_eq.2 c1
    rw [b1] at h2
    cases c2 : rightL s.data.toList with
    | false =>
      rw [c2] at hr
      clear hz hs hc c1 b1 ht hp c2
      go_enter Tryz.func5, Tryz.ntmps5
      go_wp2_with fail
      refine h1.mono ?_; rintro e W1 ⟨v, rfl, own, S1, t1⟩
      clear h1 own
      go_wp2_with fail
      refine (h2 S1).mono ?_; rintro e W2 ⟨rfl, S2, t2⟩
      clear h2 S1
      go_wp2_with fail
      refine (hr _).mono ?_; rintro e W3 ⟨rfl, rfl⟩
      go_wp2_with fail
      go_ret
      exact ⟨rfl, S2, Turn.trans t1 t2⟩
    | true =>
      rw [c2] at hr
      cases c3 : thereE (s, n) with
      | false =>
        rw [c3] at ht
        clear hz hs hc c1 b1 hp c2 c3
        go_enter Tryz.func5, Tryz.ntmps5
        go_wp2_with fail
        refine h1.mono ?_; rintro e W1 ⟨v, rfl, own, S1, t1⟩
        clear h1 own
        go_wp2_with fail
        refine (h2 S1).mono ?_; rintro e W2 ⟨rfl, S2, t2⟩
        clear h2 S1
        go_wp2_with fail
        refine (hr _).mono ?_; rintro e W3 ⟨rfl, rfl⟩
        go_wp2_with fail
        refine (ht _).mono ?_; rintro e W3 ⟨rfl, t3⟩
        go_wp2_with fail
        go_ret
        exact ⟨rfl, S2.below t3, (Turn.trans t1 t2).trans (Turn.of_below t3 _)⟩
      | true =>
        rw [c3] at ht
        have c4 : 0 ≤ placeE (dEnts st i) s := by
          have : ¬ placeE (dEnts st i) s < 0 := fun q => hc ⟨c1, c2, c3, q⟩
          omega
        generalize dEnts st i = es at *
        generalize placeE es s = p at *
        clear hz hs hc c1 b1 c2 c3
        go_enter Tryz.func5, Tryz.ntmps5
        go_wp2_with fail
        refine h1.mono ?_; rintro e W1 ⟨v, rfl, own, S1, t1⟩
        obtain ⟨a, c, rfl, er, _⟩ := own.er
        clear h1 own
        go_wp2_with fail
        refine (h2 S1).mono ?_; rintro e W2 ⟨rfl, S2, t2⟩
        clear h2
        have er2 := er.maps S1.v t2
        clear er S1
        go_wp2_with fail
        refine (hr _).mono ?_; rintro e W3 ⟨rfl, rfl⟩
        go_wp2_with fail
        refine (ht _).mono ?_; rintro e W3 ⟨rfl, t3⟩
        go_wp2_with fail
        refine (hp _ _ _ (er2.below t3)).mono ?_; rintro e W4 ⟨rfl, t4⟩
        have S4 := (S2.below t3).below t4
        have T4 := ((Turn.trans t1 t2).trans (Turn.of_below t3 _)).trans (Turn.of_below t4 _)
        clear t1 t2 t3 t4 er2 S2 hp ht hr
        go_wp2_with fail
        go_ret
        exact ⟨rfl, S4, T4⟩

set_option maxRecDepth 100000 in
set_option maxHeartbeats 4000000 in
theorem s_add_yes (hM : Mx w) (S : Std w t L d q st W) (i : Int) (s : ByteArray) (n : Int) (hs : s.size ≤ 1048576) (hz : ((iVal st i).s.size : Int) ≤ 140737488351232)
    (hc : (iVal st i).n 0 = 1 ∧ rightL s.data.toList = true ∧ thereE (s, n) = true ∧ placeE (dEnts st i) s < 0) :
    Calls Tryz.prog 5 #[.pointer (some ⟨L.v, 0, none⟩), .int .i64 i, .string s, .int .i64 n] W fun e W' => e = .returned (.bool (dAddB st i s n)) ∧ Std w t L d q (dAdd st i s n) W' ∧ Maps L W W' := by
  have h1 := s_entries hM S i hz
  have hl := dEnts_len st i
  have hp := fun a c W h => place_any' a c (dEnts st i) s W (by omega) hs h
  have hf := fun a c W h => index_free a c (dEnts st i) W (by omega) h
  have h2 := fun {W1 : World} (S1 : Std w t L d q (iSaw st i) W1) => s_isdir S1 i
  have h3 := fun {W1 : World} (S1 : Std w t L d q (iSaw st i) W1) => s_size S1 i
  have hk := fun W => pack_any s n W hs
  simp only [iVal_iSaw, iSaw_iSaw] at h2 h3
  have hr := fun W => right_any s W hs
  have ht := fun W => there_any s n W
  have ea : addAt st i s n = if addO (iVal st i).s.size (findI (fun e => !thereE e) (dEnts st i)) + 16 ≤ 128 then
      some (addO (iVal st i).s.size (findI (fun e => !thereE e) (dEnts st i))) else none := by
    unfold addAt; rw [if_pos hc]
  have hg : -1 ≤ findI (fun e => !thereE e) (dEnts st i) ∧ findI (fun e => !thereE e) (dEnts st i) ≤ 8 := by
    rcases findI_cases (fun e => !thereE e) (dEnts st i) with ⟨e, _⟩ | ⟨j, hj, e, hb, _⟩ <;> omega
  obtain ⟨c1, c2, c3, c4⟩ := hc
  have b1 : ((iVal st i).n 0 == 1) = true := beq_iff_eq.2 c1
  rw [b1] at h2
  rw [c2] at hr
  rw [c3] at ht
  have hD : bs (packL s.data.toList n) = bs (packL s.data.toList n) := rfl
  have hw := fun {W1 : World} (o : Int) (S1 : Std w t L d q (iSaw st i) W1) => s_write S1 i o (bs (packL s.data.toList n)) (by rw [iVal_iSaw]; exact hz) (by rw [bs_size, packL_len]; decide)
  simp only [iWrote_iSaw, iWrite_iSaw] at hw
  obtain ⟨D, hD⟩ : ∃ D, D = bs (packL s.data.toList n) := ⟨_, rfl⟩
  have hR : ∀ o, addAt st i s n = some o → dAdd st i s n = iWrite st i o D ∧ dAddB st i s n = (iWrote st i o D == 16) := by
    intro o e; unfold dAdd dAddB; rw [e, hD]; exact ⟨rfl, rfl⟩
  have hN : addAt st i s n = none → dAdd st i s n = iSaw st i ∧ dAddB st i s n = false := by
    intro e; unfold dAdd dAddB; rw [e]; exact ⟨rfl, rfl⟩
  rw [← hD] at hw hk
  generalize addAt st i s n = A at *
  generalize dAdd st i s n = V at *
  generalize dAddB st i s n = X at *
  generalize dEnts st i = es at *
  generalize placeE es s = p at *
  generalize findI (fun e => !thereE e) es = f at *
  generalize ((iVal st i).s.size) = z at *
  clear hs c1 b1 c2 c3 hD
  have Ea := Lib.hid ea
  have HR := Lib.hid hR
  have HN := Lib.hid hN
  clear ea hR hN
  go_enter Tryz.func5, Tryz.ntmps5
  go_wp2_with fail
  refine h1.mono ?_; rintro e W1 ⟨v, rfl, own, S1, t1⟩
  obtain ⟨a, c, rfl, er, _⟩ := own.er
  clear h1 own
  go_wp2_with fail
  refine (h2 S1).mono ?_; rintro e W2 ⟨rfl, S2, t2⟩
  clear h2
  have er2 := er.maps S1.v t2
  clear er S1
  go_wp2_with fail
  refine (hr _).mono ?_; rintro e W3 ⟨rfl, rfl⟩
  go_wp2_with fail
  refine (ht _).mono ?_; rintro e W3 ⟨rfl, t3⟩
  have er3 := er2.below t3
  go_wp2_with fail
  refine (hp _ _ _ er3).mono ?_; rintro e W4 ⟨rfl, t4⟩
  have er4 := er3.below t4
  have S4 := (S2.below t3).below t4
  have T4 := ((Turn.trans t1 t2).trans (Turn.of_below t3 _)).trans (Turn.of_below t4 _)
  clear t1 t2 t3 t4 er2 er3 S2 hp ht hr S hM
  go_wp2_with fail
  refine (hf _ _ _ er4).mono ?_; rintro e W5 ⟨rfl, t5⟩
  have S5 := S4.below t5
  have T5 := T4.trans (Turn.of_below t5 _)
  clear hf er4 t5 S4 T4
  by_cases hf0 : f < 0
  · obtain rfl : f = -1 := by omega
    have e0 := Ea.out
    rw [addO_neg] at e0
    have HE := Lib.hid e0
    clear e0 Ea
    go_wp2_with fail
    refine (h3 S5).mono ?_; rintro e W6 ⟨rfl, S6, t6⟩
    have T6 := T5.trans t6
    clear h3 S5 T5 t6
    by_cases hk2 : (z : Int) / 16 * 16 + 16 ≤ 128
    · have eA := HE.out
      rw [if_pos hk2] at eA
      obtain ⟨v1, v2⟩ := HR.out _ eA
      have Hv1 := Lib.hid v1
      have Hv2 := Lib.hid v2
      clear v1 v2 eA HE HR HN
      go_wp2_with fail
      refine (hk _).mono ?_; rintro e W7 ⟨rfl, t7⟩
      have S7 := S6.below t7
      have T7 := T6.trans (Turn.of_below t7 _)
      clear hk S6 T6 t7
      go_wp2_with fail
      refine (hw _ S7).mono ?_; rintro e W8 ⟨rfl, S8, t8⟩
      go_wp2_with fail
      go_ret
      exact ⟨ret_bool Hv2.out.symm, by rw [Hv1.out]; exact S8, T7.trans t8⟩
    · have eA := HE.out
      rw [if_neg hk2] at eA
      obtain ⟨v1, v2⟩ := HN.out eA
      have Hv1 := Lib.hid v1
      have Hv2 := Lib.hid v2
      clear v1 v2 eA HE HR HN
      go_wp2_with fail
      go_ret
      exact ⟨ret_bool Hv2.out.symm, by rw [Hv1.out]; exact S6, T6⟩
  · have e0 := Ea.out
    rw [addO_pos z f hf0] at e0
    have HE := Lib.hid e0
    clear e0 Ea
    have hf1 : 0 ≤ f := by omega
    have hf2 : f ≤ 8 := hg.2
    by_cases hk2 : f * 16 + 16 ≤ 128
    · have eA := HE.out
      rw [if_pos hk2] at eA
      obtain ⟨v1, v2⟩ := HR.out _ eA
      have Hv1 := Lib.hid v1
      have Hv2 := Lib.hid v2
      clear v1 v2 eA HE HR HN hg
      go_wp2_with fail
      refine (hk _).mono ?_; rintro e W7 ⟨rfl, t7⟩
      have S7 := S5.below t7
      have T7 := T5.trans (Turn.of_below t7 _)
      clear hk S5 T5 t7
      go_wp2_with fail
      refine (hw _ S7).mono ?_; rintro e W8 ⟨rfl, S8, t8⟩
      go_wp2_with fail
      go_ret
      exact ⟨ret_bool Hv2.out.symm, by rw [Hv1.out]; exact S8, T7.trans t8⟩
    · have eA := HE.out
      rw [if_neg hk2] at eA
      obtain ⟨v1, v2⟩ := HN.out eA
      have Hv1 := Lib.hid v1
      have Hv2 := Lib.hid v2
      clear v1 v2 eA HE HR HN hg
      go_wp2_with fail
      go_ret
      exact ⟨ret_bool Hv2.out.symm, by rw [Hv1.out]; exact S5, T5⟩

theorem s_add (hM : Mx w) (S : Std w t L d q st W) (i : Int) (s : ByteArray) (n : Int) (hs : s.size ≤ 1048576) (hz : ((iVal st i).s.size : Int) ≤ 140737488351232) :
    Calls Tryz.prog 5 #[.pointer (some ⟨L.v, 0, none⟩), .int .i64 i, .string s, .int .i64 n] W fun e W' => e = .returned (.bool (dAddB st i s n)) ∧ Std w t L d q (dAdd st i s n) W' ∧ Maps L W W' := by
  by_cases hc : (iVal st i).n 0 = 1 ∧ rightL s.data.toList = true ∧ thereE (s, n) = true ∧ placeE (dEnts st i) s < 0
  · exact s_add_yes hM S i s n hs hz hc
  · have h := s_add_no hM S i s n hs hz hc
    have e : addAt st i s n = none := by unfold addAt; rw [if_neg hc]
    have e1 : dAdd st i s n = iSaw st i := by unfold dAdd; rw [e]
    have e2 : dAddB st i s n = false := by unfold dAddB; rw [e]
    rw [e1, e2]; exact h

/-- What Remove answers and leaves. -/
def dRem (st : VSt) (i : Int) (s : ByteArray) : VSt := if placeE (dEnts st i) s < 0 then iSaw st i else iWrite st i (placeE (dEnts st i) s * 16) (bs (packL [] 0))
def dRemB (st : VSt) (i : Int) (s : ByteArray) : Bool := if placeE (dEnts st i) s < 0 then false else iWrote st i (placeE (dEnts st i) s * 16) (bs (packL [] 0)) == 16
set_option maxRecDepth 100000 in
set_option maxHeartbeats 4000000 in
theorem s_remove (hM : Mx w) (S : Std w t L d q st W) (i : Int) (s : ByteArray) (hs : s.size ≤ 1048576) (hz : ((iVal st i).s.size : Int) ≤ 140737488351232) :
    Calls Tryz.prog 7 #[.pointer (some ⟨L.v, 0, none⟩), .int .i64 i, .string s] W fun e W' => e = .returned (.bool (dRemB st i s)) ∧ Std w t L d q (dRem st i s) W' ∧ Maps L W W' := by
  have h1 := s_entries hM S i hz
  have hl := dEnts_len st i
  have hp := fun a c W h => place_any' a c (dEnts st i) s W (by omega) hs h
  have hk := fun W => pack_any ⟨#[]⟩ 0 W (by decide)
  have hw := fun {W1 : World} (o : Int) (S1 : Std w t L d q (iSaw st i) W1) => s_write S1 i o (bs (packL [] 0)) (by rw [iVal_iSaw]; exact hz) (by rw [bs_size, packL_len]; decide)
  simp only [iWrote_iSaw, iWrite_iSaw] at hw
  have hg := placeE_ge (dEnts st i) s
  by_cases hc : placeE (dEnts st i) s < 0
  · have e1 : dRem st i s = iSaw st i := by unfold dRem; rw [if_pos hc]
    have e2 : dRemB st i s = false := by unfold dRemB; rw [if_pos hc]
    rw [e1, e2]
    generalize dEnts st i = es at *
    generalize placeE es s = p at *
    clear e1 e2 hz hs hM S hk hw
    go_enter Tryz.func7, Tryz.ntmps7
    go_wp2_with fail
    refine h1.mono ?_; rintro e W1 ⟨v, rfl, own, S1, t1⟩
    obtain ⟨a, c, rfl, er, _⟩ := own.er
    have hp1 := hp a c W1 er
    clear h1 hp own er
    go_wp2_with fail
    refine hp1.mono ?_; rintro e W2 ⟨rfl, t2⟩
    go_wp2_with fail
    go_ret
    exact ⟨rfl, S1.below t2, Turn.trans t1 (Turn.of_below t2 _)⟩
  · have e1 : dRem st i s = iWrite st i (placeE (dEnts st i) s * 16) (bs (packL [] 0)) := by unfold dRem; rw [if_neg hc]
    have e2 : dRemB st i s = (iWrote st i (placeE (dEnts st i) s * 16) (bs (packL [] 0)) == 16) := by unfold dRemB; rw [if_neg hc]
    rw [e1, e2]
    rw [show (ByteArray.mk #[]).data.toList = ([] : List UInt8) from rfl] at hk
    generalize dEnts st i = es at *
    generalize placeE es s = p at *
    generalize bs (packL [] 0) = D at *
    have g1 : 0 ≤ p := by omega
    have g2 : p ≤ 8 := by omega
    clear e1 e2 hz hs hM S hc hg
    go_enter Tryz.func7, Tryz.ntmps7
    go_wp2_with fail
    refine h1.mono ?_; rintro e W1 ⟨v, rfl, own, S1, t1⟩
    obtain ⟨a, c, rfl, er, _⟩ := own.er
    have hp1 := hp a c W1 er
    clear h1 hp own er
    go_wp2_with fail
    refine hp1.mono ?_; rintro e W2 ⟨rfl, t2⟩
    go_wp2_with fail
    refine (hk _).mono ?_; rintro e W3 ⟨rfl, t3⟩
    have S3 := (S1.below t2).below t3
    have T3 := (Turn.trans t1 (Turn.of_below t2 _)).trans (Turn.of_below t3 _)
    clear hk hp1 S1 t1 t2 t3
    go_wp2_with fail
    refine (hw _ S3).mono ?_; rintro e W8 ⟨rfl, S8, t8⟩
    go_wp2_with fail
    go_ret
    exact ⟨rfl, S8, T3.trans t8⟩
end
end Go.Proofs.YtfcgkjbifnhjjaaGreat.St

namespace Go.Proofs.YtfcgkjbifnhjjaaGreat.St
open Go.RowKit
set_option linter.unusedVariables false

theorem namesE_len (es : List Ent) : (namesE es).length ≤ es.length := by unfold namesE; rw [List.length_map]; exact List.length_filter_le _ _

section
variable {w W : World} {t : Nat} {L : Lay} {d q : Nat} {st : VSt}

attribute [local irreducible] Int.lt Int.le
set_option maxRecDepth 100000 in
set_option maxHeartbeats 4000000 in
theorem s_names (hM : Mx w) (S : Std w t L d q st W) (i : Int) (hz : ((iVal st i).s.size : Int) ≤ 140737488351232) :
    Calls Tryz.prog 15 #[.pointer (some ⟨L.v, 0, none⟩), .int .i64 i] W fun e W' => ∃ v, e = .returned v ∧ TL W.heap.size W' v (namesE (dEnts st i)) ∧ Std w t L d q (iSaw st i) W' ∧ Maps L W W' := by
  have h1 := s_entries hM S i hz
  have hl := dEnts_len st i
  obtain ⟨i0, hi, hz0, hz1, hz2⟩ := info_parts info_str
  generalize dEnts st i = es at *
  go_enter Tryz.func15, Tryz.ntmps15
  go_wp2_with fail
  refine h1.mono ?_; rintro e W1 ⟨v, rfl, own, S1, t1⟩
  obtain ⟨a, c, rfl, er, _⟩ := own.er
  have bW := t1.size
  have T1 := Lib.hid t1
  clear h1 own hz S hM t1
  go_wp2_with fail
  go_loopw [5, 12] (fun out i wr => ∃ j : Nat, j ≤ es.length ∧ i = .int .i64 (j : Int) ∧ TL W1.heap.size wr out (namesE (es.take j)) ∧ Below W1.heap.size W1 wr) (fun _ i _ => es.length - (intOf i).toNat)
  case atStart => exact ⟨0, Nat.zero_le _, rfl, TL.nil _ _, Below.refl _ _⟩
  case round =>
    obtain ⟨j, hj, rfl, own, hb⟩ := hrel
    have bw := hb.size
    by_cases hlt : j < es.length
    · have l1 : (j : Int) < (es.length : Int) := by omega
      have l0 : (0 : Int) ≤ (j : Int) := by omega
      obtain ⟨x, rfl, x0, x1⟩ := (er.below hb) j hlt
      have ht := fun W => there_any es[j].1 es[j].2 W
      rw [show (es[j].1, es[j].2) = es[j] from rfl] at ht
      have e2 := namesE_take es j hlt
      have nl : (namesE (es.take j)).length ≤ 8 := Nat.le_trans (namesE_len _) (by simp; omega)
      cases hv : thereE es[j] with
      | false =>
        rw [hv] at ht e2
        rw [if_neg (by simp), List.append_nil] at e2
        have own2 := own
        rw [← e2] at own2
        have O := Lib.hid own2
        clear own own2 e2 er hv
        generalize es[j] = E at *
        go_wp2_with fail
        refine (ht _).mono ?_; rintro e W2 ⟨rfl, t2⟩
        have tb := (after1 t2).2.2
        go_wp2_with fail
        exact ⟨⟨j + 1, by omega, by go_num, O.out.below tb, hb.trans (tb.mono bw)⟩, by simp [intOf]; omega⟩
      | true =>
        rw [hv] at ht e2
        rw [if_pos rfl] at e2
        have E2 := Lib.hid e2
        clear e2 er hv
        generalize es[j] = E at *
        generalize namesE (es.take j) = done at *
        go_wp2_with fail
        refine (ht _).mono ?_; rintro e W2 ⟨rfl, t2⟩
        obtain ⟨b0, s0, tb⟩ := after1 t2
        have c0 := cell_of_row W2 wr.heap.size 0 _ _ _ b0
        simp at c0
        have own2 := own.below tb
        have hb2 := hb.trans (tb.mono bw)
        have b2 := hb2.size
        have O := own2
        unfold TL at O
        clear own hb tb t2 b0 ht x0 x1
        go_wp2_with (first
          | (at_builtin; refine wpList_append_own _ rfl _ _ 44 rfl W1.heap.size 9 i0 (.string ByteArray.empty) 1 16 Tryz.underlying44 hi hz0 hz1 hz2 rfl (by decide) _ _ _ rfl (World.ownsRow.alloc O _) ⟨_, 0, none⟩ 1 1 [.string E.1] rfl rfl ?c1 ?c2 ?c3 ?c4 ?c5 ?_)
          | fail)
        case c1 =>
          intro j u hj
          match j, hj with
          | 0, hj => simp at hj; subst hj; simp [Addr.add]
        case c2 => intro u hu; simp at hu; subst hu; rfl
        case c3 => unfold maxLen; omega
        case c4 => omega
        case c5 => simp; omega
        intro v' W6 hown' hgrow _
        have RR := tl_push b2 own2 hown' hgrow
        rw [← E2.out] at RR
        have O6 := Lib.hid RR.1
        have b6 := hb2.trans RR.2
        clear hown' hgrow O own2 RR E2 hb2 c0
        go_wp2_with fail
        exact ⟨⟨j + 1, by omega, by go_num, O6.out, b6⟩, by simp [intOf]; omega⟩
    · obtain rfl : j = es.length := by omega
      rw [List.take_length] at own
      have S3 := S1.below hb
      have T3 : Maps L W wr := T1.out.trans (Turn.of_below hb _)
      clear er hb S1 T1
      go_wp2_with fail
      go_ret
      exact ⟨_, rfl, own.mono bW, S3, T3⟩

theorem own_any (s : ByteArray) (w : World) :
    Calls Tryz.prog 47 #[.string s] w fun e w' => e = .returned (.bool (ownName s)) ∧ w = w' := by
  unfold ownName
  by_cases h : s = ⟨#[46]⟩
  · subst h
    go_enter Tryz.func47, Tryz.ntmps47
    go_wp2_with fail
    go_ret
    exact ⟨rfl, rfl⟩
  · have h1 := str_dec s ⟨#[46]⟩
    have h2 := str_dec s ⟨#[46, 46]⟩
    rw [decide_eq_false h] at h1
    rw [decide_eq_false h, ← h2]
    have e1 : (ByteArray.mk #[46]).toList = [46] := by rw [ByteArray.toList_eq]
    have e2 : (ByteArray.mk #[46, 46]).toList = [46, 46] := by rw [ByteArray.toList_eq]
    rw [e1] at h1
    rw [e2]
    have h3 : ¬ s.toList = [46] := beq_eq_false_iff_ne.1 h1
    clear h h2 e1 e2
    go_enter Tryz.func47, Tryz.ntmps47
    go_wp2_with fail
    go_ret
    exact ⟨ret_bool (by simp), rfl⟩

set_option maxRecDepth 100000 in
theorem oindex_any (a : Option Addr) (c : Nat) (ps : List ByteArray) (w : World) (hn : ps.length ≤ 1000000) (h : TR w a ps) :
    Calls Tryz.prog 71 #[.slice a ps.length c, .func (.func 47) #[] #[]] w fun e w' => ∃ r : Int, e = .returned (.int .i64 r) ∧ (0 ≤ r ↔ ps.any ownName = true) ∧ w' = w := by
  go_enter Tryz.func71, Tryz.ntmps71
  go_wp2_with fail
  go_loopw [8] (fun i wr => ∃ j : Nat, j ≤ ps.length ∧ i = .int .i64 (j : Int) ∧ wr = w ∧ (∀ t (ht : t < ps.length), t < j → ownName ps[t] = false)) (fun i _ => ps.length - (intOf i).toNat)
  case atStart => exact ⟨0, Nat.zero_le _, rfl, rfl, fun t _ ht => absurd ht (by omega)⟩
  case round =>
    obtain ⟨j, hj, rfl, rfl, hne⟩ := hrel
    by_cases hlt : j < ps.length
    · have l1 : (j : Int) < (ps.length : Int) := by omega
      have l0 : (0 : Int) ≤ (j : Int) := by omega
      obtain ⟨x, rfl, x0⟩ := h j hlt
      have hk := own_any ps[j] wr
      cases hv : ownName ps[j] with
      | true =>
        have hr : 0 ≤ (j : Int) ↔ ps.any ownName = true := ⟨fun _ => List.any_eq_true.2 ⟨_, List.getElem_mem hlt, hv⟩, fun _ => l0⟩
        rw [hv] at hk
        have Hr := Lib.hid hr
        clear h hne hr hv
        generalize ps[j] = p at *
        go_wp2_with fail
        refine hk.mono ?_; rintro e W1 ⟨rfl, rfl⟩
        go_wp2_with fail
        go_ret
        exact ⟨_, rfl, Hr.out, rfl⟩
      | false =>
        have hne2 : ∀ t (ht : t < ps.length), t < j + 1 → ownName ps[t] = false := fun t ht h2 => by
          by_cases q : t = j
          · subst q; exact hv
          · exact hne t ht (by omega)
        rw [hv] at hk
        have Hne := Lib.hid hne2
        clear h hne hne2 hv
        generalize ps[j] = p at *
        go_wp2_with fail
        refine hk.mono ?_; rintro e W1 ⟨rfl, rfl⟩
        go_wp2_with fail
        exact ⟨⟨j + 1, by omega, by go_num, trivial, Hne.out⟩, by simp [intOf]; omega⟩
    · obtain rfl : j = ps.length := by omega
      have hr : 0 ≤ (-1 : Int) ↔ ps.any ownName = true := by
        refine ⟨fun q => absurd q (by decide), fun q => ?_⟩
        obtain ⟨p, hp, e⟩ := List.any_eq_true.1 q
        obtain ⟨t, ht, rfl⟩ := List.mem_iff_getElem.1 hp
        rw [hne t ht ht] at e; cases e
      have Hr := Lib.hid hr
      clear h hne hr
      go_wp2_with fail
      go_ret
      exact ⟨_, rfl, Hr.out, rfl⟩

set_option maxRecDepth 100000 in
theorem ocontains_any (a : Option Addr) (c : Nat) (ps : List ByteArray) (w : World) (hn : ps.length ≤ 1000000) (h : TR w a ps) :
    Calls Tryz.prog 46 #[.slice a ps.length c, .func (.func 47) #[] #[]] w fun e w' => e = .returned (.bool (ps.any ownName)) ∧ w' = w := by
  go_enter Tryz.func46, Tryz.ntmps46
  go_wp2_with fail
  refine (oindex_any a c ps w hn h).mono ?_; rintro e W1 ⟨r, rfl, hr, rfl⟩
  have hd : decide (0 ≤ r) = ps.any ownName := by
    cases hv : ps.any ownName with
    | true => exact decide_eq_true (hr.2 hv)
    | false => exact decide_eq_false (fun q => by rw [hr.1 q] at hv; cases hv)
  have Hd := Lib.hid hd
  clear h hr hd
  go_wp2_with fail
  go_ret
  exact ⟨ret_bool Hd.out, by first | rfl | trivial⟩

set_option maxRecDepth 100000 in
theorem s_bare (hM : Mx w) (S : Std w t L d q st W) (i : Int) (hz : ((iVal st i).s.size : Int) ≤ 140737488351232) :
    Calls Tryz.prog 17 #[.pointer (some ⟨L.v, 0, none⟩), .int .i64 i] W fun e W' => e = .returned (.bool (bareE (dEnts st i))) ∧ Std w t L d q (iSaw st i) W' ∧ Maps L W W' := by
  have h1 := s_names hM S i hz
  have hl := Nat.le_trans (namesE_len (dEnts st i)) (dEnts_len st i)
  unfold bareE
  generalize namesE (dEnts st i) = ps at *
  have h2 := fun a c W h => ocontains_any a c ps W (by omega) h
  generalize ps.any ownName = y at *
  go_enter Tryz.func17, Tryz.ntmps17
  go_wp2_with fail
  refine h1.mono ?_; rintro e W1 ⟨v, rfl, own, S1, t1⟩
  obtain ⟨a, c, rfl, tr, _⟩ := own.tr
  have h3 := h2 a c W1 tr
  clear h1 h2 own tr
  go_wp2_with fail
  refine h3.mono ?_; rintro e W2 ⟨rfl, rfl⟩
  go_wp2_with fail
  go_ret
  exact ⟨rfl, S1, t1⟩
end
end Go.Proofs.YtfcgkjbifnhjjaaGreat.St

namespace Go.Proofs.YtfcgkjbifnhjjaaGreat.St
open Go.RowKit
set_option linter.unusedVariables false

/-- A directory of these entries. -/
def DirAt (st : VSt) (i : Int) (es : List Ent) : Prop := ∃ l h txt, Holds st i 1 l h txt ∧ txt.size = 16 * es.length ∧ es.length ≤ 8 ∧ entsL txt.data.toList = es

theorem dirAt_same {st st' : VSt} {i : Int} {es : List Ent} (H : DirAt st i es) (e : st'.get 10 i = st.get 10 i) : DirAt st' i es := by
  obtain ⟨l, h, txt, a, b⟩ := H
  exact ⟨l, h, txt, by unfold Holds at a ⊢; rw [e]; exact a, b⟩
theorem dirAt_val {st : VSt} {i : Int} {es : List Ent} (H : DirAt st i es) (h1 : 1 ≤ i) (h2 : i < 16) :
    (iVal st i).n 0 = 1 ∧ (iVal st i).s.size = 16 * es.length ∧ es.length ≤ 8 ∧ dEnts st i = es ∧ iHas st i = true := by
  obtain ⟨l, h, txt, a, b, c, e⟩ := H
  obtain ⟨v1, v2, _, _, v5⟩ := holds_val a (by decide) h1 h2
  refine ⟨v2, by rw [v1, b], c, ?_, v5⟩
  unfold dEnts
  rw [if_pos v2]
  have : iRead st i 0 128 = txt := by
    have h3 := holds_read a (by decide) h1 h2 0 128
    rw [h3]
    exact readB_all txt 128 (by omega)
  rw [this, e]

/-- A write of an entry. -/
theorem over_list (txt : ByteArray) (e : List UInt8) (j : Nat) (he : e.length = 16) (hj : 16 * j ≤ txt.size) (h8 : j < 8) :
    (iOver txt ((16 * j : Nat) : Int) (iPart (bs e) ((16 * j : Nat) : Int))).data.toList = overL txt.data.toList e j := by
  have hp : iPart (bs e) ((16 * j : Nat) : Int) = bs e := part_all _ _ (by rw [bs_size, he]; omega)
  rw [hp]
  have ht : txt = bs txt.data.toList := (bs_list txt).symm
  generalize txt.data.toList = l at *
  subst ht
  rw [bs_size] at hj
  unfold iOver overL
  have e1 : (((16 * j : Nat) : Int)).toNat = 16 * j := by omega
  rw [e1, bs_take, bs_append]
  by_cases c : 16 * j + 16 ≤ l.length
  · rw [show (min ((bs l).size : Int) (((16 * j : Nat) : Int) + ((bs e).size : Int))).toNat = 16 * j + 16 by rw [bs_size, bs_size, he]; omega, bs_drop, bs_append, list_bs]
  · rw [show (min ((bs l).size : Int) (((16 * j : Nat) : Int) + ((bs e).size : Int))).toNat = l.length by rw [bs_size, bs_size, he]; omega, bs_drop, bs_append, list_bs]
    rw [List.drop_eq_nil_of_le (Nat.le_refl _), List.drop_eq_nil_of_le (by omega)]

theorem dirAt_write {st : VSt} {i : Int} {es : List Ent} (H : DirAt st i es) (h1 : 1 ≤ i) (h2 : i < 16) (e : List UInt8) (he : e.length = 16) (j : Nat) (hj : j ≤ es.length) (h8 : j < 8) :
    DirAt (iWrite st i ((16 * j : Nat) : Int) (bs e)) i (if j < es.length then es.set j (entE e) else es ++ [entE e]) ∧ iWrote st i ((16 * j : Nat) : Int) (bs e) = 16 := by
  obtain ⟨l, h, txt, a, b, c, hes⟩ := H
  have hp : iPart (bs e) ((16 * j : Nat) : Int) = bs e := part_all _ _ (by rw [bs_size, he]; omega)
  obtain ⟨w1, w2⟩ := holds_write a (by decide) h1 h2 ((16 * j : Nat) : Int) (bs e) (by omega) (by omega) (by omega)
  refine ⟨⟨l, h, _, w1, ?_, ?_, ?_⟩, ?_⟩
  · have hl := size_list (iOver txt ((16 * j : Nat) : Int) (iPart (bs e) ((16 * j : Nat) : Int)))
    rw [over_list txt e j he (by omega) h8, overL_len _ _ _ he (by rw [size_list]; omega), size_list, b] at hl
    rw [← hl]
    split
    · simp; omega
    · simp; omega
  · split
    · simp; exact c
    · simp; omega
  · rw [over_list txt e j he (by omega) h8]
    have hlen : txt.data.toList.length / 16 = es.length := by rw [size_list, b]; omega
    split
    · rename_i q
      rw [ents_over _ _ _ he (by omega), hes]
    · rename_i q
      have : j = txt.data.toList.length / 16 := by omega
      rw [this, ents_more _ _ he, hes]
  · rw [w2, hp, bs_size, he]; rfl

/-- May a name be added? -/
def addB (es : List Ent) (s : ByteArray) (n : Int) : Bool :=
  rightL s.data.toList && thereE (s, n) && decide (placeE es s < 0) && (!decide (findI (fun e => !thereE e) es < 0) || decide (es.length < 8))
def addE (es : List Ent) (s : ByteArray) (n : Int) : List Ent :=
  if addB es s n = true then (if findI (fun e => !thereE e) es < 0 then es ++ [(s, n)] else es.set (findI (fun e => !thereE e) es).toNat (s, n)) else es
def remB (es : List Ent) (s : ByteArray) : Bool := !decide (placeE es s < 0)
def remE (es : List Ent) (s : ByteArray) : List Ent := if placeE es s < 0 then es else es.set (placeE es s).toNat (bs [], 0)

theorem there_range {s : ByteArray} {n : Int} (h : thereE (s, n) = true) : 1 ≤ n ∧ n < 16 := by
  unfold thereE at h; simpa using h
theorem dirAt_add {st : VSt} {i : Int} {es : List Ent} (H : DirAt st i es) (h1 : 1 ≤ i) (h2 : i < 16) (s : ByteArray) (n : Int) :
    DirAt (dAdd st i s n) i (addE es s n) ∧ dAddB st i s n = addB es s n ∧ ∀ k m, ¬(k = 10 ∧ m = i) → (dAdd st i s n).get k m = st.get k m := by
  obtain ⟨v1, v2, v3, v4, v5⟩ := dirAt_val H h1 h2
  have no : addAt st i s n = none → addB es s n = false → DirAt (dAdd st i s n) i (addE es s n) ∧ dAddB st i s n = addB es s n ∧ ∀ k m, ¬(k = 10 ∧ m = i) → (dAdd st i s n).get k m = st.get k m := by
    intro e f
    have e1 : dAdd st i s n = iSaw st i := by unfold dAdd; rw [e]
    have e2 : dAddB st i s n = false := by unfold dAddB; rw [e]
    have e3 : addE es s n = es := by unfold addE; rw [f]; rfl
    rw [e1, e2, e3, f]
    exact ⟨dirAt_same H (get_iSaw _ _ _ _), rfl, fun k m _ => get_iSaw _ _ _ _⟩
  by_cases hc : rightL s.data.toList = true ∧ thereE (s, n) = true ∧ placeE es s < 0
  · obtain ⟨c2, c3, c4⟩ := hc
    obtain ⟨n1, n2⟩ := there_range c3
    have ea : addAt st i s n = if addO (16 * es.length) (findI (fun e => !thereE e) es) + 16 ≤ 128 then some (addO (16 * es.length) (findI (fun e => !thereE e) es)) else none := by
      unfold addAt; rw [v4, v2, if_pos ⟨v1, c2, c3, c4⟩]
    have eb : addB es s n = (!decide (findI (fun e => !thereE e) es < 0) || decide (es.length < 8)) := by
      unfold addB; rw [c2, c3, decide_eq_true c4]; rfl
    have hE : entE (packL s.data.toList n) = (s, n) := by
      rw [entE_pack _ _ c2 (by omega) (by omega), bs_list]
    have yes : ∀ j : Nat, j ≤ es.length → j < 8 → addAt st i s n = some ((16 * j : Nat) : Int) → addB es s n = true → addE es s n = (if j < es.length then es.set j (s, n) else es ++ [(s, n)]) → DirAt (dAdd st i s n) i (addE es s n) ∧ dAddB st i s n = addB es s n ∧ ∀ k m, ¬(k = 10 ∧ m = i) → (dAdd st i s n).get k m = st.get k m := by
      intro j g1 g2 e f g
      have e1 : dAdd st i s n = iWrite st i ((16 * j : Nat) : Int) (bs (packL s.data.toList n)) := by unfold dAdd; rw [e]
      have e2 : dAddB st i s n = (iWrote st i ((16 * j : Nat) : Int) (bs (packL s.data.toList n)) == 16) := by unfold dAddB; rw [e]
      obtain ⟨w1, w2⟩ := dirAt_write H h1 h2 (packL s.data.toList n) (packL_len _ _) j g1 g2
      rw [hE] at w1
      rw [e1, e2, w2, f, g]
      exact ⟨w1, rfl, fun k m hk => get_iWrite_other _ _ _ _ _ _ hk⟩
    rcases findI_cases (fun e => !thereE e) es with ⟨e, hn⟩ | ⟨j, hj, e, hb, _⟩
    · rw [e, addO_neg] at ea
      rw [e] at eb
      have e0 : ((16 * es.length : Nat) : Int) / 16 * 16 = ((16 * es.length : Nat) : Int) := by omega
      rw [e0] at ea
      by_cases h8 : es.length < 8
      · rw [if_pos (by omega)] at ea
        have f : addB es s n = true := by rw [eb, decide_eq_true h8]; rfl
        refine yes es.length (Nat.le_refl _) h8 ea f ?_
        unfold addE
        rw [f, if_pos rfl, e, if_pos (by decide), if_neg (Nat.lt_irrefl _)]
      · rw [if_neg (by omega)] at ea
        refine no ea ?_
        rw [eb, decide_eq_false h8]; rfl
    · rw [e, addO_pos _ _ (by omega)] at ea
      rw [e] at eb
      rw [if_pos (by omega), show (j : Int) * 16 = ((16 * j : Nat) : Int) by omega] at ea
      have f : addB es s n = true := by rw [eb, decide_eq_false (by omega : ¬ (j : Int) < 0)]; rfl
      refine yes j (by omega) (by omega) ea f ?_
      unfold addE
      rw [f, if_pos rfl, e, if_neg (by omega), if_pos hj]; rfl
  · refine no ?_ ?_
    · unfold addAt; rw [v4, if_neg (fun q => hc q.2)]
    · unfold addB
      cases c2 : rightL s.data.toList
      · rfl
      · cases c3 : thereE (s, n)
        · rfl
        · rw [decide_eq_false (fun q => hc ⟨c2, c3, q⟩)]; rfl

theorem dirAt_rem {st : VSt} {i : Int} {es : List Ent} (H : DirAt st i es) (h1 : 1 ≤ i) (h2 : i < 16) (s : ByteArray) :
    DirAt (dRem st i s) i (remE es s) ∧ dRemB st i s = remB es s ∧ ∀ k m, ¬(k = 10 ∧ m = i) → (dRem st i s).get k m = st.get k m := by
  obtain ⟨v1, v2, v3, v4, v5⟩ := dirAt_val H h1 h2
  unfold dRem dRemB remE remB
  rw [v4]
  by_cases hc : placeE es s < 0
  · rw [if_pos hc, if_pos hc, if_pos hc, decide_eq_true hc]
    exact ⟨dirAt_same H (get_iSaw _ _ _ _), rfl, fun k m _ => get_iSaw _ _ _ _⟩
  · rw [if_neg hc, if_neg hc, if_neg hc, decide_eq_false hc]
    obtain ⟨j, hj, e, _⟩ := placeE_at hc
    rw [e, show (j : Int) * 16 = ((16 * j : Nat) : Int) by omega]
    obtain ⟨w1, w2⟩ := dirAt_write H h1 h2 (packL [] 0) (packL_len _ _) j (by omega) (by omega)
    rw [entE_none, if_pos hj] at w1
    rw [w2]
    exact ⟨w1, rfl, fun k m hk => get_iWrite_other _ _ _ _ _ _ hk⟩

/-- A new directory is empty. -/
theorem dirAt_new (st : VSt) (h1 : 1 ≤ iFree st) (h2 : iFree st < 16) : DirAt (iAlloc st 1) (iFree st) [] := by
  refine ⟨0, 0, ByteArray.empty, alloc_same st 1 h1 h2, rfl, by simp, ?_⟩
  rfl
theorem alloc_get (st : VSt) (u k m : Int) (h9 : ¬(k = 9 ∧ m = 0)) (h : ¬(k = 10 ∧ m = iFree st)) : (iAlloc st u).get k m = st.get k m := by
  unfold iAlloc
  split
  · unfold iTake
    rw [get_put_other _ _ _ _ _ _ h, get_put_other _ _ _ _ _ _ h9, get_saw]
  · rw [get_saw]

section
variable {w W : World} {t : Nat} {L : Lay} {d q : Nat} {st : VSt}

theorem d_add (hM : Mx w) (S : Std w t L d q st W) {i : Int} {es : List Ent} (H : DirAt st i es) (h1 : 1 ≤ i) (h2 : i < 16) (s : ByteArray) (n : Int) (hs : s.size ≤ 1048576) :
    Calls Tryz.prog 5 #[.pointer (some ⟨L.v, 0, none⟩), .int .i64 i, .string s, .int .i64 n] W fun e W' => e = .returned (.bool (addB es s n)) ∧ ∃ st', (DirAt st' i (addE es s n) ∧ ∀ k m, ¬(k = 10 ∧ m = i) → st'.get k m = st.get k m) ∧ Std w t L d q st' W' ∧ Maps L W W' := by
  have v := dirAt_val H h1 h2
  obtain ⟨a, b, c⟩ := dirAt_add H h1 h2 s n
  rw [← b]
  exact (s_add hM S i s n hs (by omega)).mono fun e W' ⟨x, y, z⟩ => ⟨x, _, ⟨a, c⟩, y, z⟩
theorem d_rem (hM : Mx w) (S : Std w t L d q st W) {i : Int} {es : List Ent} (H : DirAt st i es) (h1 : 1 ≤ i) (h2 : i < 16) (s : ByteArray) (hs : s.size ≤ 1048576) :
    Calls Tryz.prog 7 #[.pointer (some ⟨L.v, 0, none⟩), .int .i64 i, .string s] W fun e W' => e = .returned (.bool (remB es s)) ∧ ∃ st', (DirAt st' i (remE es s) ∧ ∀ k m, ¬(k = 10 ∧ m = i) → st'.get k m = st.get k m) ∧ Std w t L d q st' W' ∧ Maps L W W' := by
  have v := dirAt_val H h1 h2
  obtain ⟨a, b, c⟩ := dirAt_rem H h1 h2 s
  rw [← b]
  exact (s_remove hM S i s hs (by omega)).mono fun e W' ⟨x, y, z⟩ => ⟨x, _, ⟨a, c⟩, y, z⟩
theorem d_find (hM : Mx w) (S : Std w t L d q st W) {i : Int} {es : List Ent} (H : DirAt st i es) (h1 : 1 ≤ i) (h2 : i < 16) (s : ByteArray) (hs : s.size ≤ 1048576) :
    Calls Tryz.prog 10 #[.pointer (some ⟨L.v, 0, none⟩), .int .i64 i, .string s] W fun e W' => e = .returned (.tuple #[.int .i64 (fndN es s), .bool (fndB es s)]) ∧ ∃ st', (∀ k m, st'.get k m = st.get k m) ∧ Std w t L d q st' W' ∧ Maps L W W' := by
  have v := dirAt_val H h1 h2
  have h := s_find hM S i s hs (by omega)
  rw [v.2.2.2.1] at h
  exact h.mono fun e W' ⟨x, y, z⟩ => ⟨x, _, fun k m => get_iSaw _ _ _ _, y, z⟩
theorem d_names (hM : Mx w) (S : Std w t L d q st W) {i : Int} {es : List Ent} (H : DirAt st i es) (h1 : 1 ≤ i) (h2 : i < 16) :
    Calls Tryz.prog 15 #[.pointer (some ⟨L.v, 0, none⟩), .int .i64 i] W fun e W' => ∃ v, e = .returned v ∧ TL W.heap.size W' v (namesE es) ∧ ∃ st', (∀ k m, st'.get k m = st.get k m) ∧ Std w t L d q st' W' ∧ Maps L W W' := by
  have v := dirAt_val H h1 h2
  have h := s_names hM S i (by omega)
  rw [v.2.2.2.1] at h
  exact h.mono fun e W' ⟨x, y, z, u⟩ => ⟨x, y, z, _, fun k m => get_iSaw _ _ _ _, u⟩
theorem d_bare (hM : Mx w) (S : Std w t L d q st W) {i : Int} {es : List Ent} (H : DirAt st i es) (h1 : 1 ≤ i) (h2 : i < 16) :
    Calls Tryz.prog 17 #[.pointer (some ⟨L.v, 0, none⟩), .int .i64 i] W fun e W' => e = .returned (.bool (bareE es)) ∧ ∃ st', (∀ k m, st'.get k m = st.get k m) ∧ Std w t L d q st' W' ∧ Maps L W W' := by
  have v := dirAt_val H h1 h2
  have h := s_bare hM S i (by omega)
  rw [v.2.2.2.1] at h
  exact h.mono fun e W' ⟨x, u⟩ => ⟨x, _, fun k m => get_iSaw _ _ _ _, u⟩
end
end Go.Proofs.YtfcgkjbifnhjjaaGreat.St

namespace Go.Proofs.YtfcgkjbifnhjjaaGreat.St
open Go.RowKit
set_option linter.unusedVariables false

/-- A new store, its view: nothing is in them. -/
theorem s_newV (w : World) : Calls Tryz.prog 4 #[.slice none 0 0] w fun e W => ∃ t d q, ∃ L : Lay, e = .returned (.pointer (some ⟨t, 0, none⟩)) ∧ Std w t L d q (csN 0) W :=
  (tnew_nil w).mono fun e W ⟨t, d, q, L, he, a, b, c, e', _, _, _, _, _, gr, gm⟩ => ⟨t, d, q, L, he, ⟨b, a, e', gr, gm⟩⟩
section
variable {w W : World} {t : Nat} {L : Lay} {d q : Nat} {st : VSt}

theorem s_mkdir (S : Std w t L d q (csN 0) W) : Calls Tryz.prog 52 #[.pointer (some ⟨L.v, 0, none⟩), .int .i64 1] W fun e W' => e = .returned (.tuple #[.int .i64 1, .bool true]) ∧ ∃ st', DirAt st' 1 [] ∧ Std w t L d q st' W' := by
  have hf : iFree (csN 0) = 1 := cs_free 0 (by decide)
  have h := s_alloc S 1
  have hd := dirAt_new (csN 0) (by omega) (by omega)
  rw [hf] at hd
  rw [show iGot (csN 0) = 1 by unfold iGot; rw [hf]; decide, hf] at h
  exact h.mono fun e W' ⟨a, b, _⟩ => ⟨a, _, hd, b⟩
theorem q_add {es : List Ent} (hM : Mx w) (S : Std w t L d q st W) (H : DirAt st 1 es) (s : ByteArray) (n : Int) (hs : s.size ≤ 1048576) :
    Calls Tryz.prog 5 #[.pointer (some ⟨L.v, 0, none⟩), .int .i64 1, .string s, .int .i64 n] W fun e W' => e = .returned (.bool (addB es s n)) ∧ ∃ st', DirAt st' 1 (addE es s n) ∧ Std w t L d q st' W' :=
  (d_add hM S H (by decide) (by decide) s n hs).mono fun e W' ⟨a, st', ⟨b, _⟩, c, _⟩ => ⟨a, st', b, c⟩
theorem q_rem {es : List Ent} (hM : Mx w) (S : Std w t L d q st W) (H : DirAt st 1 es) (s : ByteArray) (hs : s.size ≤ 1048576) :
    Calls Tryz.prog 7 #[.pointer (some ⟨L.v, 0, none⟩), .int .i64 1, .string s] W fun e W' => e = .returned (.bool (remB es s)) ∧ ∃ st', DirAt st' 1 (remE es s) ∧ Std w t L d q st' W' :=
  (d_rem hM S H (by decide) (by decide) s hs).mono fun e W' ⟨a, st', ⟨b, _⟩, c, _⟩ => ⟨a, st', b, c⟩
theorem q_find {es : List Ent} (hM : Mx w) (S : Std w t L d q st W) (H : DirAt st 1 es) (s : ByteArray) (hs : s.size ≤ 1048576) :
    Calls Tryz.prog 10 #[.pointer (some ⟨L.v, 0, none⟩), .int .i64 1, .string s] W fun e W' => e = .returned (.tuple #[.int .i64 (fndN es s), .bool (fndB es s)]) ∧ ∃ st', DirAt st' 1 es ∧ Std w t L d q st' W' :=
  (d_find hM S H (by decide) (by decide) s hs).mono fun e W' ⟨a, st', b, c, _⟩ => ⟨a, st', dirAt_same H (b _ _), c⟩
theorem q_names {es : List Ent} (hM : Mx w) (S : Std w t L d q st W) (H : DirAt st 1 es) :
    Calls Tryz.prog 15 #[.pointer (some ⟨L.v, 0, none⟩), .int .i64 1] W fun e W' => ∃ v, e = .returned v ∧ TL W.heap.size W' v (namesE es) ∧ ∃ st', DirAt st' 1 es ∧ Std w t L d q st' W' :=
  (d_names hM S H (by decide) (by decide)).mono fun e W' ⟨v, a, o, st', b, c, _⟩ => ⟨v, a, o, st', dirAt_same H (b _ _), c⟩

def aB : ByteArray := ⟨#[97]⟩
def bB : ByteArray := ⟨#[98]⟩
def cB : ByteArray := ⟨#[99]⟩
def dz1 : List Ent := [(⟨#[97]⟩, 3)]
def dz2 : List Ent := [(⟨#[97]⟩, 3), (⟨#[98]⟩, 4)]
def dz3 : List Ent := [(⟨#[]⟩, 0), (⟨#[98]⟩, 4)]
def dz4 : List Ent := [(⟨#[99]⟩, 5), (⟨#[98]⟩, 4)]
theorem drun1 : addB [] ⟨#[97]⟩ 3 = true ∧ addE [] ⟨#[97]⟩ 3 = dz1 := by decide +kernel
theorem drun2 : addB dz1 ⟨#[98]⟩ 4 = true ∧ addE dz1 ⟨#[98]⟩ 4 = dz2 := by decide +kernel
theorem drun3 : remB dz2 ⟨#[97]⟩ = true ∧ remE dz2 ⟨#[97]⟩ = dz3 := by decide +kernel
theorem drun4 : addB dz3 ⟨#[99]⟩ 5 = true ∧ addE dz3 ⟨#[99]⟩ 5 = dz4 := by decide +kernel
theorem drun5 : fndB dz4 ⟨#[97]⟩ = false ∧ fndB dz4 ⟨#[98]⟩ = true ∧ fndN dz4 ⟨#[98]⟩ = 4 ∧ namesE dz4 = [⟨#[99]⟩, ⟨#[98]⟩] ∧ addB dz4 ⟨#[98]⟩ 6 = false := by decide +kernel
end

attribute [local irreducible] Int.lt Int.le csN
attribute [local go_sem ↓] Go.wp_at_zero Go.wp_at_succ
set_option maxRecDepth 100000 in
set_option maxHeartbeats 4000000 in
theorem druns_any (w : World) (hM : Mx w) : Calls Tryz.prog 20 #[] w fun e w' => e = .returned (.bool true) ∧ Below w.heap.size w w' := by
  go_enter Tryz.func20, Tryz.ntmps20
  go_wp2_with fail
  refine (s_newV _).mono ?_; rintro e W1 ⟨t, d, q, L, rfl, S1⟩
  have c1 := S1.cell
  go_wp2_with fail
  refine (s_mkdir S1).mono ?_; rintro e W2 ⟨rfl, st2, H2, S2⟩
  clear S1 c1
  have c2 := S2.cell
  go_wp2_with fail
  have cd : W2.drew.cell? ⟨t, 1, none⟩ = some (.pointer (some ⟨L.v, 0, none⟩)) := S2.drew.cell
  have Sd := S2.drew
  clear S2 c2
  go_region_held3 (fun W => W.cell? ⟨t, 1, none⟩ = some (.pointer (some ⟨L.v, 0, none⟩)))
    (assumption)
    (first
    | (go_at_call 5; refine (q_add hM (by assumption) (by assumption) _ _ (by decide)).mono ?_; rintro e W3 ⟨rfl, st3, H3, S3⟩; have c3 := S3.cell)
    | (go_at_call 7; refine (q_rem hM (by assumption) (by assumption) _ (by decide)).mono ?_; rintro e W3 ⟨rfl, st3, H3, S3⟩; have c3 := S3.cell))
  clear Sd cd H2
  simp only [drun1.1, drun1.2, drun2.1, drun2.2, drun3.1, drun3.2, drun4.1, drun4.2] at H3 ⊢
  have b3 := fun {W} {st} (S : Std w t L d q st W) (H : DirAt st 1 dz4) => q_find hM S H ⟨#[97]⟩ (by decide)
  have b4 := fun {W} {st} (S : Std w t L d q st W) (H : DirAt st 1 dz4) => q_find hM S H ⟨#[98]⟩ (by decide)
  have b5 := fun {W} {st} (S : Std w t L d q st W) (H : DirAt st 1 dz4) => q_names hM S H
  have b6 := fun {W} {st} (S : Std w t L d q st W) (H : DirAt st 1 dz4) => q_add hM S H ⟨#[98]⟩ 6 (by decide)
  simp only [drun5.1, drun5.2.1, drun5.2.2.1, drun5.2.2.2.1, drun5.2.2.2.2] at b3 b4 b5 b6
  go_wp2_with fail
  refine (b3 S3 H3).mono ?_; rintro e W4 ⟨rfl, st4, H4, S4⟩
  have c4 := S4.cell
  clear b3 S3 H3 c3
  go_wp2_with fail
  refine (b4 S4 H4).mono ?_; rintro e W5 ⟨rfl, st5, H5, S5⟩
  have c5 := S5.cell
  clear b4 S4 H4 c4
  go_wp2_with fail
  refine (b5 S5 H5).mono ?_; rintro e W6 ⟨v, rfl, own, st6, H6, S6⟩
  obtain ⟨a, c, rfl, tr, _⟩ := own.tr
  clear b5 S5 H5 c5 own
  go_wp2_with fail
  have bA : Below W6.heap.size W6 (W6.alloc (Obj.cells #[Value.string ⟨#[99]⟩, Value.string ⟨#[98]⟩] 9)) := (Below.refl _ _).alloc (Nat.le_refl _) _
  have tr2 : TR (W6.alloc (Obj.cells #[Value.string ⟨#[99]⟩, Value.string ⟨#[98]⟩] 9)) (some ⟨W6.heap.size, 0, none⟩) [⟨#[99]⟩, ⟨#[98]⟩] := by
    intro i hi
    refine ⟨_, rfl, ?_⟩
    have hb := blk_alloc_at W6 (Obj.cells #[Value.string ⟨#[99]⟩, Value.string ⟨#[98]⟩] 9) _ rfl
    match i, hi with
    | 0, _ => exact cell_of_row _ _ 0 _ _ _ hb
    | 1, _ => exact cell_of_row _ _ 1 _ _ _ hb
  refine (sameT_yes a _ c 2 [⟨#[99]⟩, ⟨#[98]⟩] _ (by decide) (tr.below bA) tr2).mono ?_; rintro e W7 ⟨rfl, t7⟩
  have S7 := (S6.below bA).below t7
  have c7 := S7.cell
  clear S6 bA tr tr2 t7
  go_wp2_with fail
  refine (b6 S7 H6).mono ?_; rintro e W8 ⟨rfl, st8, H8, S8⟩
  go_wp2_with fail
  go_ret
  exact ⟨rfl, S8.b⟩
theorem dirRuns_walk (w : World) (hM : Mx w) : Calls Tryz.prog 20 #[] w fun e w' => e = .returned (.bool true) ∧ Below w.heap.size w w' := druns_any w hM
end Go.Proofs.YtfcgkjbifnhjjaaGreat.St
