/- The contracts of package dir: there, Is, entries. The contracts of package dir: place, Find. The contracts of package dir: Find, Add, Remove. The contracts of package dir: Names, Bare. A directory that is a table: what Add, Remove and Find make of it. The contracts of package path: from, walk, Walk, Parent. The contracts of package path: Walk, Parent. For texts of at most 2^20 bytes. Trees of directories: what a path finds in them. The little tree of cloisterlaw12, and chapter 12's runs. Chapter 12's runs. No condition but those written in each statement. -/
import Derived.Test.YtfcgkjbifnhjjaaGreatDoorQ14
import Derived.Test.YtfcgkjbifnhjjaaGreatDoorStdQ
import Derived.Test.YtfcgkjbifnhjjaaGreatDoorQ13
import Derived.StillTailTactics
import Derived.Test.YtfcgkjbifnhjjaaGreatDoorQ4
namespace Go.Proofs.YtfcgkjbifnhjjaaGreatDoor.St
open Go.RowKit
set_option linter.unusedVariables false

theorem info_ent : (Tryz.prog.info? 160).map (fun i => (i.zero, i.size, i.bytes)) = some (some (.agg #[.string ByteArray.empty, .int .i64 0]), 2, 24) := by kernel_rfl

/-- The cells of entries. -/
def flatE : List Ent → List Value
  | [] => []
  | e :: l => .string e.1 :: .int .i64 e.2 :: flatE l
theorem flatE_app (a b : List Ent) : flatE (a ++ b) = flatE a ++ flatE b := by
  induction a with
  | nil => rfl
  | cons x l ih => simp [flatE, ih]
theorem flatE_at (es : List Ent) : ∀ (i : Nat) (h : i < es.length), (flatE es)[i * 2]? = some (.string es[i].1) ∧ (flatE es)[i * 2 + 1]? = some (.int .i64 es[i].2) := by
  induction es with
  | nil => intro i h; simp at h
  | cons e l ih =>
    intro i h
    cases i with
    | zero => exact ⟨rfl, rfl⟩
    | succ i =>
      have := ih i (by simpa using h)
      rw [show (i + 1) * 2 = i * 2 + 1 + 1 by omega]
      simpa [flatE] using this
/-- A list of entries in blocks from B on. -/
def EL (B : Nat) (W : World) (v : Value) (es : List Ent) : Prop := W.ownsRow B 160 2 v es.length (flatE es)
theorem EL.nil (B : Nat) (W : World) : EL B W (.slice none 0 0) [] := World.ownsRow_nil _ _ _ _
theorem EL.below {B : Nat} {W W' : World} {v : Value} {es : List Ent} (h : EL B W v es) (hb : Below W.heap.size W W') : EL B W' v es := by
  refine ⟨h.1, ?_⟩
  rcases h.2 with q | ⟨g, cap, cur, h1, h2, h3, h4⟩
  · exact Or.inl q
  · exact Or.inr ⟨g, cap, cur, h1, h2, (hb.block g (lt_of_heap h3)).trans h3, h4⟩
theorem EL.mono {B B' : Nat} {W : World} {v : Value} {es : List Ent} (h : EL B W v es) (hb : B' ≤ B) : EL B' W v es := by
  refine ⟨h.1, ?_⟩
  rcases h.2 with q | ⟨g, cap, cur, h1, h2, h3⟩
  · exact Or.inl q
  · exact Or.inr ⟨g, cap, cur, h1, by omega, h3⟩
/-- What a walk reads of a list of entries. -/
def ER (W : World) (a : Option Addr) (es : List Ent) : Prop := ∀ i (h : i < es.length), ∃ x, a = some x ∧ W.cell? (x.add (i * 2)) = some (.string es[i].1) ∧ W.cell? ⟨(x.add (i * 2)).block, (x.add (i * 2)).off + 1, none⟩ = some (.int .i64 es[i].2)
theorem EL.er {B : Nat} {W : World} {v : Value} {es : List Ent} (h : EL B W v es) : ∃ a c, v = .slice a es.length c ∧ ER W a es ∧ ∀ x, a = some x → B ≤ x.block := by
  rcases h.2 with ⟨rfl, h0⟩ | ⟨g, cap, cur, e', h2, _⟩
  · exact ⟨none, 0, by rw [h0], fun i hi => by omega, fun x hx => by cases hx⟩
  · refine ⟨_, _, e', fun i hi => ⟨_, rfl, ?_, ?_⟩, fun x hx => by cases hx; exact h2⟩
    · subst e'
      exact World.ownsRow.cells h rfl (i * 2) _ (flatE_at es i hi).1
    · subst e'
      have := World.ownsRow.cells h rfl (i * 2 + 1) _ (flatE_at es i hi).2
      by_cases hz : i = 0
      · subst hz; simpa [Addr.add] using this
      · simp only [Addr.add] at this ⊢
        rw [if_neg (by omega)] at this ⊢
        simpa using this
theorem ER.below {W W' : World} {a : Option Addr} {es : List Ent} (h : ER W a es) (hb : Below W.heap.size W W') : ER W' a es := fun i hi => by
  obtain ⟨x, e, c, d⟩ := h i hi
  exact ⟨x, e, (hb.cell (World.block_lt_of_cell? _ _ c)).trans c, (hb.cell (World.block_lt_of_cell? _ _ d)).trans d⟩

theorem there_any (x : ByteArray) (n : Int) (w : World) :
    Calls Tryz.prog 122 #[.agg #[.string x, .int .i64 n]] w fun e w' => e = .returned (.bool (thereE (x, n))) ∧ Below w.heap.size w w' := by
  have hb : Below w.heap.size w (w.alloc (Obj.cells #[Value.string x, .int .i64 n] 160)) := (Below.refl _ _).alloc (Nat.le_refl _) _
  unfold thereE
  by_cases h : 1 ≤ n
  · have hd : decide (1 ≤ n) = true := decide_eq_true h
    go_enter Tryz.func122, Tryz.ntmps122
    go_wp2_with fail
    go_ret
    exact ⟨ret_bool (by simp [h]), hb⟩
  · have hd : decide (1 ≤ n) = false := decide_eq_false h
    go_enter Tryz.func122, Tryz.ntmps122
    go_wp2_with fail
    go_ret
    exact ⟨ret_bool (by simp), hb⟩

/-! ### looks change nothing that is looked at -/
theorem saw_saw (st : VSt) (k n : Int) : (st.saw k n).saw k n = st.saw k n := by
  unfold VSt.saw
  by_cases h : placeI k n < 0
  · rw [if_pos h, if_pos h]
  · rw [if_neg h, if_neg h]
    unfold VSt.reads
    congr 1
    funext a b
    show updK (updK st.rd k n (.bool true)) k n (.bool true) a b = updK st.rd k n (.bool true) a b
    unfold updK
    split <;> rfl
theorem iSaw_iSaw (st : VSt) (i : Int) : iSaw (iSaw st i) i = iSaw st i := by
  unfold iSaw
  by_cases h : i < 1 ∨ 16 ≤ i
  · rw [if_pos h, if_pos h]
  · rw [if_neg h, if_neg h, saw_saw]
theorem iVal_iSaw (st : VSt) (i j : Int) : iVal (iSaw st i) j = iVal st j := by unfold iVal; rw [get_iSaw]
theorem iHas_iSaw (st : VSt) (i j : Int) : iHas (iSaw st i) j = iHas st j := by unfold iHas; rw [get_iSaw]
theorem iRead_iSaw (st : VSt) (i j a b : Int) : iRead (iSaw st i) j a b = iRead st j a b := by unfold iRead; rw [iVal_iSaw]
theorem iMay_iSaw (st : VSt) (i j off : Int) : iMay (iSaw st i) j off ↔ iMay st j off := by unfold iMay; rw [iVal_iSaw, iHas_iSaw]
theorem iWrite_iSaw (st : VSt) (i off : Int) (d : ByteArray) : iWrite (iSaw st i) i off d = iWrite st i off d := by
  unfold iWrite
  by_cases h : iMay st i off
  · rw [if_pos h, if_pos ((iMay_iSaw _ _ _ _).2 h), iSaw_iSaw, iVal_iSaw]
  · rw [if_neg h, if_neg (fun q => h ((iMay_iSaw _ _ _ _).1 q)), iSaw_iSaw]
theorem iWrote_iSaw (st : VSt) (i j off : Int) (d : ByteArray) : iWrote (iSaw st i) j off d = iWrote st j off d := by
  unfold iWrote
  by_cases h : iMay st j off
  · rw [if_pos h, if_pos ((iMay_iSaw _ _ _ _).2 h)]
  · rw [if_neg h, if_neg (fun q => h ((iMay_iSaw _ _ _ _).1 q))]

section
variable {w W : World} {t : Nat} {L : Lay} {d q : Nat} {st : VSt}

theorem s_typ (S : Std w t L d q st W) (i : Int) : Calls Tryz.prog 93 #[.pointer (some ⟨L.v, 0, none⟩), .int .i64 i] W fun e W' => e = .returned (.int .i64 ((iVal st i).n 0)) ∧ Std w t L d q (iSaw st i) W' ∧ Maps L W W' :=
  (itype_any L st i W S.v).mono fun e W' ⟨a, b, c⟩ => ⟨a, S.step b (c.mono fun _ _ => Or.inl), c.mono fun _ _ => Or.inl⟩
theorem s_isdir (S : Std w t L d q st W) (i : Int) : Calls Tryz.prog 62 #[.pointer (some ⟨L.v, 0, none⟩), .int .i64 i] W fun e W' => e = .returned (.bool ((iVal st i).n 0 == 1)) ∧ Std w t L d q (iSaw st i) W' ∧ Maps L W W' := by
  have h := s_typ S i
  generalize (iVal st i).n 0 = x at *
  go_enter Tryz.func62, Tryz.ntmps62
  go_wp2_with fail
  refine h.mono ?_; rintro e W1 ⟨rfl, S1, t1⟩
  go_wp2_with fail
  go_ret
  exact ⟨rfl, S1, t1⟩

/-- The entries of a directory. -/
def dEnts (st : VSt) (i : Int) : List Ent := if (iVal st i).n 0 = 1 then entsL (iRead st i 0 128).data.toList else []
theorem dEnts_iSaw (st : VSt) (i j : Int) : dEnts (iSaw st i) j = dEnts st j := by unfold dEnts; rw [iVal_iSaw, iRead_iSaw]

theorem bs_drop (l : List UInt8) (k : Nat) : (bs l).extract k (bs l).size = bs (l.drop k) := by
  apply ByteArray.ext
  unfold bs
  simp [ByteArray.size]
  rw [List.take_of_length_le (by simp)]
theorem bs_take (l : List UInt8) (k : Nat) : (bs l).extract 0 k = bs (l.take k) := by
  apply ByteArray.ext
  unfold bs
  simp
theorem iRead_size (st : VSt) (i off n : Int) (h : 0 ≤ n) : ((iRead st i off n).size : Int) ≤ n := by
  unfold iRead
  split
  · simpa using h
  · rename_i hc
    rw [ByteArray.size_extract]; omega
theorem entsL_take (l : List UInt8) (j : Nat) (h : j < l.length / 16) : (entsL l).take (j + 1) = (entsL l).take j ++ [entE ((l.drop (16 * j)).take 16)] := by
  rw [List.take_add_one, entsL_at l j h]; rfl

theorem el_push {B : Nat} {w0 wr w1 : World} {v v' : Value} {o : Obj} {n : Nat} {xs ys : List Value} {e : TypeId} (hB : B ≤ wr.heap.size) (hown : wr.ownsRow B e 2 v n xs) (hnx : Below B w0 wr)
    (hown' : w1.ownsRow B e 2 v' (n + 1) (xs ++ ys)) (hgrow : (wr.alloc o).grownBy w1 v.ownBlock) : Below B w0 w1 :=
  (hnx.alloc (by omega) o).grown hgrow (by simp; omega) (fun j hj => by have := (hown.lt j hj).1; omega)

attribute [local irreducible] Int.lt Int.le
set_option maxRecDepth 100000 in
set_option maxHeartbeats 2000000 in
theorem s_entries (hM : Mx w) (S : Std w t L d q st W) (i : Int) (hs : ((iVal st i).s.size : Int) ≤ 140737488351232) :
    Calls Tryz.prog 115 #[.pointer (some ⟨L.v, 0, none⟩), .int .i64 i] W fun e W' => ∃ v, e = .returned v ∧ EL W.heap.size W' v (dEnts st i) ∧ Std w t L d q (iSaw st i) W' ∧ Maps L W W' := by
  have h1 := s_isdir S i
  by_cases hd : (iVal st i).n 0 = 1
  · have he : dEnts st i = entsL (iRead st i 0 128).data.toList := by unfold dEnts; rw [if_pos hd]
    rw [he]
    have h2 := fun {W1 : World} (S1 : Std w t L d q (iSaw st i) W1) => s_read S1 i 0 128 (by rw [iVal_iSaw]; exact hs)
    rw [iRead_iSaw, iSaw_iSaw] at h2
    have hz := iRead_size st i 0 128 (by decide)
    have hb : ((iVal st i).n 0 == 1) = true := beq_iff_eq.2 hd
    rw [hb] at h1
    generalize iRead st i 0 128 = R at *
    have hl := size_list R
    have eR := bs_list R
    generalize R.data.toList = l at *
    clear hb hd he hs
    obtain ⟨i0, hi, hz0, hz1, hz2⟩ := info_parts info_ent
    go_enter Tryz.func115, Tryz.ntmps115
    go_wp2_with fail
    refine h1.mono ?_; rintro e W1 ⟨rfl, S1, t1⟩
    go_wp2_with fail
    refine (h2 S1).mono ?_; rintro e W2 ⟨rfl, S2, t2⟩
    have T := Turn.trans t1 t2
    have hT := Lib.hid T
    rw [← eR] at hl hz ⊢
    have Hl := Lib.hid hl
    clear h1 h2 S1 t1 t2 T S eR hl
    rw [bs_size] at hz
    go_wp2_with fail
    go_loopw [5, 6] (fun out s wr => ∃ j : Nat, 16 * j ≤ l.length ∧ s = .string (bs (l.drop (16 * j))) ∧ EL W2.heap.size wr out ((entsL l).take j) ∧ Below W2.heap.size W2 wr) (fun _ s _ => match s with | .string s => s.size | _ => 0)
    case atStart => exact ⟨0, by omega, rfl, EL.nil _ _, Below.refl _ _⟩
    case round =>
      obtain ⟨j, hj, rfl, own, hb⟩ := hrel
      have hlen : (entsL l).length = l.length / 16 := entsL_len l
      by_cases hlt : 16 * j + 16 ≤ l.length
      · obtain ⟨R, hR⟩ : ∃ R, R = bs (l.drop (16 * j)) := ⟨_, rfl⟩
        have hsz : R.size = l.length - 16 * j := by rw [hR, bs_size]; simp
        have e1 : R.extract 16 R.size = bs (l.drop (16 * (j + 1))) := by rw [hR, bs_drop, List.drop_drop]; rfl
        have e2 : (R.extract 0 16).data.toList = (l.drop (16 * j)).take 16 := by rw [hR, bs_take, list_bs]
        have e3 := entsL_take l j (by omega)
        have hMr : Mx wr := hM.below (Nat.le_refl _) (S2.b.trans (hb.mono S2.b.size))
        have hu := unpack_any (R.extract 0 16) wr hMr (by rw [ByteArray.size_extract]; omega)
        rw [e2] at hu
        have e3' : (entsL l).take (j + 1) = (entsL l).take j ++ [(bs (unpL ((l.drop (16 * j)).take 16)), unpN ((l.drop (16 * j)).take 16))] := e3
        generalize bs (unpL ((l.drop (16 * j)).take 16)) = X at *
        generalize unpN ((l.drop (16 * j)).take 16) = N at *
        have l1 : (16 : Int) ≤ (R.size : Int) := by omega
        have l2 : 16 ≤ R.size := by omega
        have hnl : ((entsL l).take j).length = j := by rw [List.length_take, hlen]; omega
        have bw := hb.size
        rw [← hR]
        have E1 := Lib.hid e1
        have E3 := Lib.hid e3'
        have Hr := Lib.hid hsz
        have O := own
        unfold EL at O
        rw [hnl] at O
        clear e1 e2 e3 e3' hsz hR hMr hlen hM S2
        go_wp2_with fail
        refine hu.mono ?_; rintro e w3 ⟨rfl, t3⟩
        have own3 := own.below t3
        have O3 := own3
        unfold EL at O3
        rw [hnl] at O3
        have hb3 := hb.trans (t3.mono bw)
        have b3 := hb3.size
        clear own O hb hu t3
        go_wp2_with (first
          | (at_builtin; refine wpList_append_own _ rfl _ _ 156 rfl W2.heap.size 160 i0 (.agg #[.string ByteArray.empty, .int .i64 0]) 2 24 Tryz.underlying156 hi hz0 hz1 hz2 rfl (by decide) _ _ _ rfl (O3.alloc _) ⟨w3.heap.size, 0, none⟩ 1 1 [.string X, .int .i64 N] rfl rfl ?c1 ?c2 ?c3 ?c4 ?c5 ?_)
          | fail)
        case c1 =>
          intro j u hj
          match j, hj with
          | 0, hj => simp at hj; subst hj; simp [Addr.add]
          | 1, hj => simp at hj; subst hj; simp [Addr.add]
        case c2 => intro u hu; simp at hu; rcases hu with rfl | rfl <;> rfl
        case c3 => unfold maxLen; omega
        case c4 => omega
        case c5 => simp; omega
        intro v' w4 hown' hgrow _
        have Rb := el_push (by omega) O3 hb3 hown' hgrow
        have Ro : EL W2.heap.size w4 v' ((entsL l).take (j + 1)) := by
          unfold EL
          rw [E3.out, flatE_app, List.length_append, hnl]
          exact hown'
        have Ho := Lib.hid Ro
        clear O3 own3 hb3 hown' hgrow Ro E3 hnl
        go_wp2_with fail
        refine ⟨⟨j + 1, by omega, ?_, Ho.out, Rb⟩, ?_⟩
        · rw [← E1.out]
        · show (R.extract 16 R.size).size < R.size
          rw [ByteArray.size_extract]; omega
      · have hj2 : j = l.length / 16 := by omega
        have own2 := own
        rw [List.take_of_length_le (by omega)] at own2
        obtain ⟨R, hR⟩ : ∃ R, R = bs (l.drop (16 * j)) := ⟨_, rfl⟩
        have l1 : decide ((16 : Int) ≤ (R.size : Int)) = false := by
          rw [hR, bs_size]; simp; omega
        rw [← hR]
        have S3 := S2.below hb
        have T3 : Maps L W wr := hT.out.trans (Turn.of_below hb _)
        have bW := hT.out.size
        clear own hb S2 hT hM hR hlen
        go_wp2_with fail
        go_ret
        exact ⟨_, rfl, own2.mono bW, S3, T3⟩
  · have he : dEnts st i = [] := by unfold dEnts; rw [if_neg hd]
    rw [he]
    have hb : ((iVal st i).n 0 == 1) = false := beq_eq_false_iff_ne.2 hd
    rw [hb] at h1
    clear hb he hs hd hM S
    go_enter Tryz.func115, Tryz.ntmps115
    go_wp2_with fail
    refine h1.mono ?_; rintro e W1 ⟨rfl, S1, t1⟩
    go_wp2_with fail
    go_ret
    exact ⟨_, rfl, EL.nil _ _, S1, t1⟩
end
end Go.Proofs.YtfcgkjbifnhjjaaGreatDoor.St

namespace Go.Proofs.YtfcgkjbifnhjjaaGreatDoor.St
open Go.RowKit
set_option linter.unusedVariables false

theorem bears_eq (s x : ByteArray) (n : Int) : bearsE s (x, n) = (thereE (x, n) && decide (x = s)) := rfl
theorem str_dec (x s : ByteArray) : (x.toList == s.toList) = decide (x = s) := by
  rw [ByteArray.toList_eq, ByteArray.toList_eq]
  by_cases h : x = s
  · subst h; simp
  · rw [decide_eq_false h]
    apply beq_eq_false_iff_ne.2
    intro e
    exact h (Go.WideShapes.bytes_inj e)

set_option maxRecDepth 100000 in
theorem bears_any (x : ByteArray) (n : Int) (b : Nat) (s : ByteArray) (w : World) (hc : w.cell? ⟨b, 0, none⟩ = some (.string s)) :
    Calls Tryz.prog 135 #[.agg #[.string x, .int .i64 n], .pointer (some ⟨b, 0, none⟩)] w fun e w' => e = .returned (.bool (bearsE s (x, n))) ∧ Below w.heap.size w w' := by
  have hlt := World.block_lt_of_cell? _ _ hc
  simp at hlt
  have h := fun W => there_any x n W
  rw [bears_eq]
  generalize thereE (x, n) = y at *
  cases y with
  | false =>
    go_enter Tryz.func135, Tryz.ntmps135
    go_wp2_with fail
    refine (h _).mono ?_; rintro e w1 ⟨rfl, t1⟩
    go_wp2_with fail
    go_ret
    exact ⟨ret_bool (by simp), (after1 t1).2.2⟩
  | true =>
    go_enter Tryz.func135, Tryz.ntmps135
    go_wp2_with fail
    refine (h _).mono ?_; rintro e w1 ⟨rfl, t1⟩
    obtain ⟨b0, s0, tb⟩ := after1 t1
    have c0 := cell_of_row w1 w.heap.size 0 _ _ _ b0
    have c1 := (tb.cell (p := ⟨b, 0, none⟩) hlt).trans hc
    simp at c0
    clear b0 t1 h hc
    go_wp2_with fail
    go_ret
    exact ⟨ret_bool (by rw [str_dec, Bool.true_and]), tb⟩

set_option maxRecDepth 100000 in
theorem free_any (x : ByteArray) (n : Int) (w : World) :
    Calls Tryz.prog 124 #[.agg #[.string x, .int .i64 n]] w fun e w' => e = .returned (.bool (!thereE (x, n))) ∧ Below w.heap.size w w' := by
  have h := fun W => there_any x n W
  generalize thereE (x, n) = y at *
  go_enter Tryz.func124, Tryz.ntmps124
  go_wp2_with fail
  refine (h _).mono ?_; rintro e w1 ⟨rfl, t1⟩
  go_wp2_with fail
  go_ret
  exact ⟨rfl, (after1 t1).2.2⟩

set_option maxRecDepth 100000 in
set_option maxHeartbeats 2000000 in
theorem index_bears (a : Option Addr) (c : Nat) (es : List Ent) (b : Nat) (s : ByteArray) (w : World) (hn : es.length ≤ 1000000) (h : ER w a es) (hc : w.cell? ⟨b, 0, none⟩ = some (.string s)) :
    Calls Tryz.prog 123 #[.slice a es.length c, .func (.func 135) #[] #[.pointer (some ⟨b, 0, none⟩)]] w fun e w' => e = .returned (.int .i64 (findI (bearsE s) es)) ∧ Below w.heap.size w w' := by
  go_enter Tryz.func123, Tryz.ntmps123
  go_wp2_with fail
  go_loopw [8] (fun i wr => ∃ j : Nat, j ≤ es.length ∧ i = .int .i64 (j : Int) ∧ Below w.heap.size w wr ∧ (∀ t (ht : t < es.length), t < j → bearsE s es[t] = false)) (fun i _ => es.length - (intOf i).toNat)
  case atStart => exact ⟨0, Nat.zero_le _, rfl, Below.refl _ _, fun t _ ht => absurd ht (by omega)⟩
  case round =>
    obtain ⟨j, hj, rfl, hb, hne⟩ := hrel
    by_cases hlt : j < es.length
    · have l1 : (j : Int) < (es.length : Int) := by omega
      have l0 : (0 : Int) ≤ (j : Int) := by omega
      obtain ⟨x, rfl, x0, x1⟩ := (h.below hb) j hlt
      have hcr := (hb.cell (World.block_lt_of_cell? _ _ hc)).trans hc
      have hk := bears_any es[j].1 es[j].2 b s wr hcr
      rw [show (es[j].1, es[j].2) = es[j] from rfl] at hk
      cases hv : bearsE s es[j] with
      | true =>
        have hr := findI_hit hlt hv hne
        rw [hv] at hk
        have Hr := Lib.hid hr
        clear h hc hcr hne hr hv
        generalize es[j] = E at *
        go_wp2_with fail
        refine hk.mono ?_; rintro e W1 ⟨rfl, t1⟩
        go_wp2_with fail
        go_ret
        exact ⟨ret_int Hr.out.symm, hb.trans (t1.mono hb.size)⟩
      | false =>
        have hne2 : ∀ t (ht : t < es.length), t < j + 1 → bearsE s es[t] = false := fun t ht h2 => by
          by_cases q : t = j
          · subst q; exact hv
          · exact hne t ht (by omega)
        rw [hv] at hk
        have Hne := Lib.hid hne2
        clear h hc hcr hne hne2 hv
        generalize es[j] = E at *
        go_wp2_with fail
        refine hk.mono ?_; rintro e W1 ⟨rfl, t1⟩
        go_wp2_with fail
        exact ⟨⟨j + 1, by omega, by go_num, hb.trans (t1.mono hb.size), Hne.out⟩, by simp [intOf]; omega⟩
    · obtain rfl : j = es.length := by omega
      have hr := findI_miss (p := bearsE s) (es := es) (fun t ht => hne t ht ht)
      have Hr := Lib.hid hr
      clear h hc hne hr
      go_wp2_with fail
      go_ret
      exact ⟨ret_int Hr.out.symm, hb⟩

set_option maxRecDepth 100000 in
set_option maxHeartbeats 2000000 in
theorem index_free (a : Option Addr) (c : Nat) (es : List Ent) (w : World) (hn : es.length ≤ 1000000) (h : ER w a es) :
    Calls Tryz.prog 123 #[.slice a es.length c, .func (.func 124) #[] #[]] w fun e w' => e = .returned (.int .i64 (findI (fun e => !thereE e) es)) ∧ Below w.heap.size w w' := by
  go_enter Tryz.func123, Tryz.ntmps123
  go_wp2_with fail
  go_loopw [8] (fun i wr => ∃ j : Nat, j ≤ es.length ∧ i = .int .i64 (j : Int) ∧ Below w.heap.size w wr ∧ (∀ t (ht : t < es.length), t < j → (!thereE es[t]) = false)) (fun i _ => es.length - (intOf i).toNat)
  case atStart => exact ⟨0, Nat.zero_le _, rfl, Below.refl _ _, fun t _ ht => absurd ht (by omega)⟩
  case round =>
    obtain ⟨j, hj, rfl, hb, hne⟩ := hrel
    by_cases hlt : j < es.length
    · have l1 : (j : Int) < (es.length : Int) := by omega
      have l0 : (0 : Int) ≤ (j : Int) := by omega
      obtain ⟨x, rfl, x0, x1⟩ := (h.below hb) j hlt
      have hk := free_any es[j].1 es[j].2 wr
      rw [show (es[j].1, es[j].2) = es[j] from rfl] at hk
      cases hv : !thereE es[j] with
      | true =>
        have hr := findI_hit (p := fun e => !thereE e) hlt hv hne
        rw [hv] at hk
        have Hr := Lib.hid hr
        clear h hne hr hv
        generalize es[j] = E at *
        go_wp2_with fail
        refine hk.mono ?_; rintro e W1 ⟨rfl, t1⟩
        go_wp2_with fail
        go_ret
        exact ⟨ret_int Hr.out.symm, hb.trans (t1.mono hb.size)⟩
      | false =>
        have hne2 : ∀ t (ht : t < es.length), t < j + 1 → (!thereE es[t]) = false := fun t ht h2 => by
          by_cases q : t = j
          · subst q; exact hv
          · exact hne t ht (by omega)
        rw [hv] at hk
        have Hne := Lib.hid hne2
        clear h hne hne2 hv
        generalize es[j] = E at *
        go_wp2_with fail
        refine hk.mono ?_; rintro e W1 ⟨rfl, t1⟩
        go_wp2_with fail
        exact ⟨⟨j + 1, by omega, by go_num, hb.trans (t1.mono hb.size), Hne.out⟩, by simp [intOf]; omega⟩
    · obtain rfl : j = es.length := by omega
      have hr := findI_miss (p := fun e => !thereE e) (es := es) (fun t ht => hne t ht ht)
      have Hr := Lib.hid hr
      clear h hne hr
      go_wp2_with fail
      go_ret
      exact ⟨ret_int Hr.out.symm, hb⟩

set_option maxRecDepth 100000 in
theorem place_any' (a : Option Addr) (c : Nat) (es : List Ent) (s : ByteArray) (w : World) (hn : es.length ≤ 1000000) (hs : s.size ≤ 1048576) (h : ER w a es) :
    Calls Tryz.prog 116 #[.slice a es.length c, .string s] w fun e w' => e = .returned (.int .i64 (placeE es s)) ∧ Below w.heap.size w w' := by
  have hr := fun W => right_any s W hs
  have hb : Below w.heap.size w (w.alloc (Obj.cells #[Value.string s] 9)) := (Below.refl _ _).alloc (Nat.le_refl _) _
  have hc : (w.alloc (Obj.cells #[Value.string s] 9)).cell? ⟨w.heap.size, 0, none⟩ = some (.string s) := cell_of_row _ _ 0 _ _ _ (blk_alloc_at _ _ _ rfl)
  have hi := index_bears a c es w.heap.size s _ hn (h.below hb) hc
  unfold placeE
  cases hv : rightL s.data.toList with
  | false =>
    rw [if_neg (by simp)]
    rw [hv] at hr
    go_enter Tryz.func116, Tryz.ntmps116
    go_wp2_with fail
    refine (hr _).mono ?_; rintro e w1 ⟨rfl, rfl⟩
    go_wp2_with fail
    go_ret
    exact ⟨rfl, hb⟩
  | true =>
    rw [if_pos rfl]
    rw [hv] at hr
    generalize findI (bearsE s) es = r at *
    clear h hv
    go_enter Tryz.func116, Tryz.ntmps116
    go_wp2_with fail
    refine (hr _).mono ?_; rintro e w1 ⟨rfl, rfl⟩
    go_wp2_with fail
    refine hi.mono ?_; rintro e w2 ⟨rfl, t2⟩
    go_wp2_with fail
    go_ret
    exact ⟨rfl, hb.trans (t2.mono (by simp))⟩
end Go.Proofs.YtfcgkjbifnhjjaaGreatDoor.St

namespace Go.Proofs.YtfcgkjbifnhjjaaGreatDoor.St
open Go.RowKit
set_option linter.unusedVariables false

theorem dEnts_len (st : VSt) (i : Int) : (dEnts st i).length ≤ 8 := by
  unfold dEnts
  split
  · rw [entsL_len, size_list]
    have := iRead_size st i 0 128 (by decide)
    omega
  · simp
/-- Behind which byte Add writes. -/
def addO (z : Nat) (f : Int) : Int := if f < 0 then (z : Int) / 16 * 16 else f * 16
theorem addO_neg (z : Nat) : addO z (-1) = (z : Int) / 16 * 16 := by unfold addO; rw [if_pos (by decide)]
theorem addO_pos (z : Nat) (f : Int) (h : ¬ f < 0) : addO z f = f * 16 := by unfold addO; rw [if_neg h]
/-- What Find answers. -/
def fndN (es : List Ent) (s : ByteArray) : Int := if placeE es s < 0 then 0 else (es.getD (placeE es s).toNat (⟨#[]⟩, 0)).2
def fndB (es : List Ent) (s : ByteArray) : Bool := !decide (placeE es s < 0)
theorem placeE_at {es : List Ent} {s : ByteArray} (h : ¬ placeE es s < 0) : ∃ j : Nat, ∃ hj : j < es.length, placeE es s = j ∧ bearsE s es[j] = true := by
  unfold placeE at h ⊢
  split at h
  · rename_i hr
    rw [if_pos hr]
    rcases findI_cases (bearsE s) es with ⟨e, _⟩ | ⟨j, hj, e, hb, _⟩
    · rw [e] at h; exact absurd (by decide) h
    · exact ⟨j, hj, e, hb⟩
  · exact absurd (by decide) h
theorem placeE_ge (es : List Ent) (s : ByteArray) : -1 ≤ placeE es s ∧ placeE es s < es.length + 1 := by
  by_cases h : placeE es s < 0
  · unfold placeE at h ⊢
    split
    · rcases findI_cases (bearsE s) es with ⟨e, _⟩ | ⟨j, hj, e, hb, _⟩
      · omega
      · omega
    · omega
  · obtain ⟨j, hj, e, _⟩ := placeE_at h
    omega

theorem ER.maps {W W' : World} {L : Lay} {st : VSt} {a : Option Addr} {es : List Ent} (h : ER W a es) (hV : ViewAt W L st) (hm : Maps L W W') : ER W' a es := fun i hi => by
  obtain ⟨x, e, c, d⟩ := h i hi
  have key : ∀ (p : Addr) (v : Value), W.cell? p = some v → W'.cell? p = some v := by
    intro p v hp
    have hlt := World.block_lt_of_cell? _ _ hp
    obtain ⟨_, _, hr, _⟩ := hV.cr
    obtain ⟨_, _, hm', _⟩ := hV.cm
    have hne : ¬(p.block = L.r ∨ p.block = L.m) := by
      rintro (q | q)
      · unfold World.cell? at hp; rw [q, hr] at hp; simp at hp
      · unfold World.cell? at hp; rw [q, hm'] at hp; simp at hp
    rw [World.cell?_of_block (hm.block p.block (by simpa using hlt) hne)]
    exact hp
  exact ⟨x, e, key _ _ c, key _ _ d⟩

section
variable {w W : World} {t : Nat} {L : Lay} {d q : Nat} {st : VSt}

attribute [local irreducible] Int.lt Int.le
set_option maxRecDepth 100000 in
set_option maxHeartbeats 2000000 in
theorem s_find (hM : Mx w) (S : Std w t L d q st W) (i : Int) (s : ByteArray) (hs : s.size ≤ 1048576) (hz : ((iVal st i).s.size : Int) ≤ 140737488351232) :
    Calls Tryz.prog 89 #[.pointer (some ⟨L.v, 0, none⟩), .int .i64 i, .string s] W fun e W' => e = .returned (.tuple #[.int .i64 (fndN (dEnts st i) s), .bool (fndB (dEnts st i) s)]) ∧ Std w t L d q (iSaw st i) W' ∧ Maps L W W' := by
  have h1 := s_entries hM S i hz
  have hl := dEnts_len st i
  have hp := fun a c W h => place_any' a c (dEnts st i) s W (by omega) hs h
  by_cases hc : placeE (dEnts st i) s < 0
  · have e1 : fndN (dEnts st i) s = 0 := by unfold fndN; rw [if_pos hc]
    have e2 : fndB (dEnts st i) s = false := by unfold fndB; rw [decide_eq_true hc]; rfl
    rw [e1, e2]
    generalize dEnts st i = es at *
    generalize placeE es s = p at *
    clear e1 e2 hz hs
    go_enter Tryz.func89, Tryz.ntmps89
    go_wp2_with fail
    refine h1.mono ?_; rintro e W1 ⟨v, rfl, own, S1, t1⟩
    obtain ⟨a, c, rfl, er, _⟩ := own.er
    have hp1 := hp a c W1 er
    clear h1 hp own er
    go_wp2_with fail
    refine hp1.mono ?_; rintro e W2 ⟨rfl, t2⟩
    go_wp2_with fail
    go_ret2
    exact ⟨rfl, S1.below t2, Turn.trans t1 (Turn.of_below t2 _)⟩
  · obtain ⟨j, hj, e0, _⟩ := placeE_at hc
    have e1 : fndN (dEnts st i) s = (dEnts st i)[j].2 := by
      unfold fndN; rw [if_neg hc, e0]; simp [List.getD, List.getElem?_eq_getElem hj]
    have e2 : fndB (dEnts st i) s = true := by unfold fndB; rw [decide_eq_false hc]; rfl
    rw [e1, e2]
    rw [e0] at hp
    generalize dEnts st i = es at *
    have l1 : (j : Int) < (es.length : Int) := by omega
    have l0 : (0 : Int) ≤ (j : Int) := by omega
    clear e1 e2 hz hs hc e0
    go_enter Tryz.func89, Tryz.ntmps89
    go_wp2_with fail
    refine h1.mono ?_; rintro e W1 ⟨v, rfl, own, S1, t1⟩
    obtain ⟨a, c, rfl, er, _⟩ := own.er
    have hp1 := hp a c W1 er
    clear h1 hp own
    go_wp2_with fail
    refine hp1.mono ?_; rintro e W2 ⟨rfl, t2⟩
    obtain ⟨x, rfl, x0, x1⟩ := er.below t2 j hj
    clear hp1 er
    go_wp2_with fail
    go_ret2
    exact ⟨rfl, S1.below t2, Turn.trans t1 (Turn.of_below t2 _)⟩

/-- Where Add writes; none: nowhere. -/
def addAt (st : VSt) (i : Int) (s : ByteArray) (n : Int) : Option Int :=
  if (iVal st i).n 0 = 1 ∧ rightL s.data.toList = true ∧ thereE (s, n) = true ∧ placeE (dEnts st i) s < 0 then
    if addO (iVal st i).s.size (findI (fun e => !thereE e) (dEnts st i)) + 16 ≤ 128 then
      some (addO (iVal st i).s.size (findI (fun e => !thereE e) (dEnts st i)))
    else none
  else none
def dAdd (st : VSt) (i : Int) (s : ByteArray) (n : Int) : VSt := match addAt st i s n with
  | none => iSaw st i
  | some o => iWrite st i o (bs (packL s.data.toList n))
def dAddB (st : VSt) (i : Int) (s : ByteArray) (n : Int) : Bool := match addAt st i s n with
  | none => false
  | some o => iWrote st i o (bs (packL s.data.toList n)) == 16

set_option maxRecDepth 100000 in
set_option maxHeartbeats 2000000 in
theorem s_add_no (hM : Mx w) (S : Std w t L d q st W) (i : Int) (s : ByteArray) (n : Int) (hs : s.size ≤ 1048576) (hz : ((iVal st i).s.size : Int) ≤ 140737488351232)
    (hc : ¬((iVal st i).n 0 = 1 ∧ rightL s.data.toList = true ∧ thereE (s, n) = true ∧ placeE (dEnts st i) s < 0)) :
    Calls Tryz.prog 100 #[.pointer (some ⟨L.v, 0, none⟩), .int .i64 i, .string s, .int .i64 n] W fun e W' => e = .returned (.bool false) ∧ Std w t L d q (iSaw st i) W' ∧ Maps L W W' := by
  have h1 := s_entries hM S i hz
  have hl := dEnts_len st i
  have hp := fun a c W h => place_any' a c (dEnts st i) s W (by omega) hs h
  have h2 := fun {W1 : World} (S1 : Std w t L d q (iSaw st i) W1) => s_isdir S1 i
  simp only [iVal_iSaw, iSaw_iSaw] at h2
  have hr := fun W => right_any s W hs
  have ht := fun W => there_any s n W
  by_cases c1 : (iVal st i).n 0 = 1
  case' neg =>
    have b1 : ((iVal st i).n 0 == 1) = false := beq_eq_false_iff_ne.2 c1
    rw [b1] at h2
    clear hz hs hc c1 b1 hr ht hp
    go_enter Tryz.func100, Tryz.ntmps100
    go_wp2_with fail
    refine h1.mono ?_; rintro e W1 ⟨v, rfl, own, S1, t1⟩
    clear h1 own
    go_wp2_with fail
    refine (h2 S1).mono ?_; rintro e W2 ⟨rfl, S2, t2⟩
    clear h2 S1
    go_wp2_with fail
    go_ret
    exact ⟨rfl, S2, Turn.trans t1 t2⟩
  case pos =>
    have b1 : ((iVal st i).n 0 == 1) = true := beq_iff_eq.2 c1
    rw [b1] at h2
    cases c2 : rightL s.data.toList with
    | false =>
      rw [c2] at hr
      clear hz hs hc c1 b1 ht hp c2
      go_enter Tryz.func100, Tryz.ntmps100
      go_wp2_with fail
      refine h1.mono ?_; rintro e W1 ⟨v, rfl, own, S1, t1⟩
      clear h1 own
      go_wp2_with fail
      refine (h2 S1).mono ?_; rintro e W2 ⟨rfl, S2, t2⟩
      clear h2 S1
      go_wp2_with fail
      refine (hr _).mono ?_; rintro e W3 ⟨rfl, rfl⟩
      go_wp2_with fail
      go_ret
      exact ⟨rfl, S2, Turn.trans t1 t2⟩
    | true =>
      rw [c2] at hr
      cases c3 : thereE (s, n) with
      | false =>
        rw [c3] at ht
        clear hz hs hc c1 b1 hp c2 c3
        go_enter Tryz.func100, Tryz.ntmps100
        go_wp2_with fail
        refine h1.mono ?_; rintro e W1 ⟨v, rfl, own, S1, t1⟩
        clear h1 own
        go_wp2_with fail
        refine (h2 S1).mono ?_; rintro e W2 ⟨rfl, S2, t2⟩
        clear h2 S1
        go_wp2_with fail
        refine (hr _).mono ?_; rintro e W3 ⟨rfl, rfl⟩
        go_wp2_with fail
        refine (ht _).mono ?_; rintro e W3 ⟨rfl, t3⟩
        go_wp2_with fail
        go_ret
        exact ⟨rfl, S2.below t3, (Turn.trans t1 t2).trans (Turn.of_below t3 _)⟩
      | true =>
        rw [c3] at ht
        have c4 : 0 ≤ placeE (dEnts st i) s := by
          have : ¬ placeE (dEnts st i) s < 0 := fun q => hc ⟨c1, c2, c3, q⟩
          omega
        generalize dEnts st i = es at *
        generalize placeE es s = p at *
        clear hz hs hc c1 b1 c2 c3
        go_enter Tryz.func100, Tryz.ntmps100
        go_wp2_with fail
        refine h1.mono ?_; rintro e W1 ⟨v, rfl, own, S1, t1⟩
        obtain ⟨a, c, rfl, er, _⟩ := own.er
        clear h1 own
        go_wp2_with fail
        refine (h2 S1).mono ?_; rintro e W2 ⟨rfl, S2, t2⟩
        clear h2
        have er2 := er.maps S1.v t2
        clear er S1
        go_wp2_with fail
        refine (hr _).mono ?_; rintro e W3 ⟨rfl, rfl⟩
        go_wp2_with fail
        refine (ht _).mono ?_; rintro e W3 ⟨rfl, t3⟩
        go_wp2_with fail
        refine (hp _ _ _ (er2.below t3)).mono ?_; rintro e W4 ⟨rfl, t4⟩
        have S4 := (S2.below t3).below t4
        have T4 := ((Turn.trans t1 t2).trans (Turn.of_below t3 _)).trans (Turn.of_below t4 _)
        clear t1 t2 t3 t4 er2 S2 hp ht hr
        go_wp2_with fail
        go_ret
        exact ⟨rfl, S4, T4⟩

set_option maxRecDepth 100000 in
set_option maxHeartbeats 4000000 in
theorem s_add_yes (hM : Mx w) (S : Std w t L d q st W) (i : Int) (s : ByteArray) (n : Int) (hs : s.size ≤ 1048576) (hz : ((iVal st i).s.size : Int) ≤ 140737488351232)
    (hc : (iVal st i).n 0 = 1 ∧ rightL s.data.toList = true ∧ thereE (s, n) = true ∧ placeE (dEnts st i) s < 0) :
    Calls Tryz.prog 100 #[.pointer (some ⟨L.v, 0, none⟩), .int .i64 i, .string s, .int .i64 n] W fun e W' => e = .returned (.bool (dAddB st i s n)) ∧ Std w t L d q (dAdd st i s n) W' ∧ Maps L W W' := by
  have h1 := s_entries hM S i hz
  have hl := dEnts_len st i
  have hp := fun a c W h => place_any' a c (dEnts st i) s W (by omega) hs h
  have hf := fun a c W h => index_free a c (dEnts st i) W (by omega) h
  have h2 := fun {W1 : World} (S1 : Std w t L d q (iSaw st i) W1) => s_isdir S1 i
  have h3 := fun {W1 : World} (S1 : Std w t L d q (iSaw st i) W1) => s_size S1 i
  have hk := fun W => pack_any s n W hs
  simp only [iVal_iSaw, iSaw_iSaw] at h2 h3
  have hr := fun W => right_any s W hs
  have ht := fun W => there_any s n W
  have ea : addAt st i s n = if addO (iVal st i).s.size (findI (fun e => !thereE e) (dEnts st i)) + 16 ≤ 128 then
      some (addO (iVal st i).s.size (findI (fun e => !thereE e) (dEnts st i))) else none := by
    unfold addAt; rw [if_pos hc]
  have hg : -1 ≤ findI (fun e => !thereE e) (dEnts st i) ∧ findI (fun e => !thereE e) (dEnts st i) ≤ 8 := by
    rcases findI_cases (fun e => !thereE e) (dEnts st i) with ⟨e, _⟩ | ⟨j, hj, e, hb, _⟩ <;> omega
  obtain ⟨c1, c2, c3, c4⟩ := hc
  have b1 : ((iVal st i).n 0 == 1) = true := beq_iff_eq.2 c1
  rw [b1] at h2
  rw [c2] at hr
  rw [c3] at ht
  have hD : bs (packL s.data.toList n) = bs (packL s.data.toList n) := rfl
  have hw := fun {W1 : World} (o : Int) (S1 : Std w t L d q (iSaw st i) W1) => s_write S1 i o (bs (packL s.data.toList n)) (by rw [iVal_iSaw]; exact hz) (by rw [bs_size, packL_len]; decide)
  simp only [iWrote_iSaw, iWrite_iSaw] at hw
  obtain ⟨D, hD⟩ : ∃ D, D = bs (packL s.data.toList n) := ⟨_, rfl⟩
  have hR : ∀ o, addAt st i s n = some o → dAdd st i s n = iWrite st i o D ∧ dAddB st i s n = (iWrote st i o D == 16) := by
    intro o e; unfold dAdd dAddB; rw [e, hD]; exact ⟨rfl, rfl⟩
  have hN : addAt st i s n = none → dAdd st i s n = iSaw st i ∧ dAddB st i s n = false := by
    intro e; unfold dAdd dAddB; rw [e]; exact ⟨rfl, rfl⟩
  rw [← hD] at hw hk
  generalize addAt st i s n = A at *
  generalize dAdd st i s n = V at *
  generalize dAddB st i s n = X at *
  generalize dEnts st i = es at *
  generalize placeE es s = p at *
  generalize findI (fun e => !thereE e) es = f at *
  generalize ((iVal st i).s.size) = z at *
  clear hs c1 b1 c2 c3 hD
  have Ea := Lib.hid ea
  have HR := Lib.hid hR
  have HN := Lib.hid hN
  clear ea hR hN
  go_enter Tryz.func100, Tryz.ntmps100
  go_wp2_with fail
  refine h1.mono ?_; rintro e W1 ⟨v, rfl, own, S1, t1⟩
  obtain ⟨a, c, rfl, er, _⟩ := own.er
  clear h1 own
  go_wp2_with fail
  refine (h2 S1).mono ?_; rintro e W2 ⟨rfl, S2, t2⟩
  clear h2
  have er2 := er.maps S1.v t2
  clear er S1
  go_wp2_with fail
  refine (hr _).mono ?_; rintro e W3 ⟨rfl, rfl⟩
  go_wp2_with fail
  refine (ht _).mono ?_; rintro e W3 ⟨rfl, t3⟩
  have er3 := er2.below t3
  go_wp2_with fail
  refine (hp _ _ _ er3).mono ?_; rintro e W4 ⟨rfl, t4⟩
  have er4 := er3.below t4
  have S4 := (S2.below t3).below t4
  have T4 := ((Turn.trans t1 t2).trans (Turn.of_below t3 _)).trans (Turn.of_below t4 _)
  clear t1 t2 t3 t4 er2 er3 S2 hp ht hr S hM
  go_wp2_with fail
  refine (hf _ _ _ er4).mono ?_; rintro e W5 ⟨rfl, t5⟩
  have S5 := S4.below t5
  have T5 := T4.trans (Turn.of_below t5 _)
  clear hf er4 t5 S4 T4
  by_cases hf0 : f < 0
  · obtain rfl : f = -1 := by omega
    have e0 := Ea.out
    rw [addO_neg] at e0
    have HE := Lib.hid e0
    clear e0 Ea
    go_wp2_with fail
    refine (h3 S5).mono ?_; rintro e W6 ⟨rfl, S6, t6⟩
    have T6 := T5.trans t6
    clear h3 S5 T5 t6
    by_cases hk2 : (z : Int) / 16 * 16 + 16 ≤ 128
    · have eA := HE.out
      rw [if_pos hk2] at eA
      obtain ⟨v1, v2⟩ := HR.out _ eA
      have Hv1 := Lib.hid v1
      have Hv2 := Lib.hid v2
      clear v1 v2 eA HE HR HN
      go_wp2_with fail
      refine (hk _).mono ?_; rintro e W7 ⟨rfl, t7⟩
      have S7 := S6.below t7
      have T7 := T6.trans (Turn.of_below t7 _)
      clear hk S6 T6 t7
      go_wp2_with fail
      refine (hw _ S7).mono ?_; rintro e W8 ⟨rfl, S8, t8⟩
      go_wp2_with fail
      go_ret
      exact ⟨ret_bool Hv2.out.symm, by rw [Hv1.out]; exact S8, T7.trans t8⟩
    · have eA := HE.out
      rw [if_neg hk2] at eA
      obtain ⟨v1, v2⟩ := HN.out eA
      have Hv1 := Lib.hid v1
      have Hv2 := Lib.hid v2
      clear v1 v2 eA HE HR HN
      go_wp2_with fail
      go_ret
      exact ⟨ret_bool Hv2.out.symm, by rw [Hv1.out]; exact S6, T6⟩
  · have e0 := Ea.out
    rw [addO_pos z f hf0] at e0
    have HE := Lib.hid e0
    clear e0 Ea
    have hf1 : 0 ≤ f := by omega
    have hf2 : f ≤ 8 := hg.2
    by_cases hk2 : f * 16 + 16 ≤ 128
    · have eA := HE.out
      rw [if_pos hk2] at eA
      obtain ⟨v1, v2⟩ := HR.out _ eA
      have Hv1 := Lib.hid v1
      have Hv2 := Lib.hid v2
      clear v1 v2 eA HE HR HN hg
      go_wp2_with fail
      refine (hk _).mono ?_; rintro e W7 ⟨rfl, t7⟩
      have S7 := S5.below t7
      have T7 := T5.trans (Turn.of_below t7 _)
      clear hk S5 T5 t7
      go_wp2_with fail
      refine (hw _ S7).mono ?_; rintro e W8 ⟨rfl, S8, t8⟩
      go_wp2_with fail
      go_ret
      exact ⟨ret_bool Hv2.out.symm, by rw [Hv1.out]; exact S8, T7.trans t8⟩
    · have eA := HE.out
      rw [if_neg hk2] at eA
      obtain ⟨v1, v2⟩ := HN.out eA
      have Hv1 := Lib.hid v1
      have Hv2 := Lib.hid v2
      clear v1 v2 eA HE HR HN hg
      go_wp2_with fail
      go_ret
      exact ⟨ret_bool Hv2.out.symm, by rw [Hv1.out]; exact S5, T5⟩

theorem s_add (hM : Mx w) (S : Std w t L d q st W) (i : Int) (s : ByteArray) (n : Int) (hs : s.size ≤ 1048576) (hz : ((iVal st i).s.size : Int) ≤ 140737488351232) :
    Calls Tryz.prog 100 #[.pointer (some ⟨L.v, 0, none⟩), .int .i64 i, .string s, .int .i64 n] W fun e W' => e = .returned (.bool (dAddB st i s n)) ∧ Std w t L d q (dAdd st i s n) W' ∧ Maps L W W' := by
  by_cases hc : (iVal st i).n 0 = 1 ∧ rightL s.data.toList = true ∧ thereE (s, n) = true ∧ placeE (dEnts st i) s < 0
  · exact s_add_yes hM S i s n hs hz hc
  · have h := s_add_no hM S i s n hs hz hc
    have e : addAt st i s n = none := by unfold addAt; rw [if_neg hc]
    have e1 : dAdd st i s n = iSaw st i := by unfold dAdd; rw [e]
    have e2 : dAddB st i s n = false := by unfold dAddB; rw [e]
    rw [e1, e2]; exact h

/-- What Remove answers and leaves. -/
def dRem (st : VSt) (i : Int) (s : ByteArray) : VSt := if placeE (dEnts st i) s < 0 then iSaw st i else iWrite st i (placeE (dEnts st i) s * 16) (bs (packL [] 0))
def dRemB (st : VSt) (i : Int) (s : ByteArray) : Bool := if placeE (dEnts st i) s < 0 then false else iWrote st i (placeE (dEnts st i) s * 16) (bs (packL [] 0)) == 16
end
end Go.Proofs.YtfcgkjbifnhjjaaGreatDoor.St

namespace Go.Proofs.YtfcgkjbifnhjjaaGreatDoor.St
open Go.RowKit
set_option linter.unusedVariables false

theorem namesE_len (es : List Ent) : (namesE es).length ≤ es.length := by unfold namesE; rw [List.length_map]; exact List.length_filter_le _ _

section
variable {w W : World} {t : Nat} {L : Lay} {d q : Nat} {st : VSt}

attribute [local irreducible] Int.lt Int.le
end
end Go.Proofs.YtfcgkjbifnhjjaaGreatDoor.St

namespace Go.Proofs.YtfcgkjbifnhjjaaGreatDoor.St
open Go.RowKit
set_option linter.unusedVariables false

/-- A directory of these entries. -/
def DirAt (st : VSt) (i : Int) (es : List Ent) : Prop := ∃ l h txt, Holds st i 1 l h txt ∧ txt.size = 16 * es.length ∧ es.length ≤ 8 ∧ entsL txt.data.toList = es

theorem dirAt_same {st st' : VSt} {i : Int} {es : List Ent} (H : DirAt st i es) (e : st'.get 10 i = st.get 10 i) : DirAt st' i es := by
  obtain ⟨l, h, txt, a, b⟩ := H
  exact ⟨l, h, txt, by unfold Holds at a ⊢; rw [e]; exact a, b⟩
theorem dirAt_val {st : VSt} {i : Int} {es : List Ent} (H : DirAt st i es) (h1 : 1 ≤ i) (h2 : i < 16) :
    (iVal st i).n 0 = 1 ∧ (iVal st i).s.size = 16 * es.length ∧ es.length ≤ 8 ∧ dEnts st i = es ∧ iHas st i = true := by
  obtain ⟨l, h, txt, a, b, c, e⟩ := H
  obtain ⟨v1, v2, _, _, v5⟩ := holds_val a (by decide) h1 h2
  refine ⟨v2, by rw [v1, b], c, ?_, v5⟩
  unfold dEnts
  rw [if_pos v2]
  have : iRead st i 0 128 = txt := by
    have h3 := holds_read a (by decide) h1 h2 0 128
    rw [h3]
    exact readB_all txt 128 (by omega)
  rw [this, e]

/-- A write of an entry. -/
theorem over_list (txt : ByteArray) (e : List UInt8) (j : Nat) (he : e.length = 16) (hj : 16 * j ≤ txt.size) (h8 : j < 8) :
    (iOver txt ((16 * j : Nat) : Int) (iPart (bs e) ((16 * j : Nat) : Int))).data.toList = overL txt.data.toList e j := by
  have hp : iPart (bs e) ((16 * j : Nat) : Int) = bs e := part_all _ _ (by rw [bs_size, he]; omega)
  rw [hp]
  have ht : txt = bs txt.data.toList := (bs_list txt).symm
  generalize txt.data.toList = l at *
  subst ht
  rw [bs_size] at hj
  unfold iOver overL
  have e1 : (((16 * j : Nat) : Int)).toNat = 16 * j := by omega
  rw [e1, bs_take, bs_append]
  by_cases c : 16 * j + 16 ≤ l.length
  · rw [show (min ((bs l).size : Int) (((16 * j : Nat) : Int) + ((bs e).size : Int))).toNat = 16 * j + 16 by rw [bs_size, bs_size, he]; omega, bs_drop, bs_append, list_bs]
  · rw [show (min ((bs l).size : Int) (((16 * j : Nat) : Int) + ((bs e).size : Int))).toNat = l.length by rw [bs_size, bs_size, he]; omega, bs_drop, bs_append, list_bs]
    rw [List.drop_eq_nil_of_le (Nat.le_refl _), List.drop_eq_nil_of_le (by omega)]

theorem dirAt_write {st : VSt} {i : Int} {es : List Ent} (H : DirAt st i es) (h1 : 1 ≤ i) (h2 : i < 16) (e : List UInt8) (he : e.length = 16) (j : Nat) (hj : j ≤ es.length) (h8 : j < 8) :
    DirAt (iWrite st i ((16 * j : Nat) : Int) (bs e)) i (if j < es.length then es.set j (entE e) else es ++ [entE e]) ∧ iWrote st i ((16 * j : Nat) : Int) (bs e) = 16 := by
  obtain ⟨l, h, txt, a, b, c, hes⟩ := H
  have hp : iPart (bs e) ((16 * j : Nat) : Int) = bs e := part_all _ _ (by rw [bs_size, he]; omega)
  obtain ⟨w1, w2⟩ := holds_write a (by decide) h1 h2 ((16 * j : Nat) : Int) (bs e) (by omega) (by omega) (by omega)
  refine ⟨⟨l, h, _, w1, ?_, ?_, ?_⟩, ?_⟩
  · have hl := size_list (iOver txt ((16 * j : Nat) : Int) (iPart (bs e) ((16 * j : Nat) : Int)))
    rw [over_list txt e j he (by omega) h8, overL_len _ _ _ he (by rw [size_list]; omega), size_list, b] at hl
    rw [← hl]
    split
    · simp; omega
    · simp; omega
  · split
    · simp; exact c
    · simp; omega
  · rw [over_list txt e j he (by omega) h8]
    have hlen : txt.data.toList.length / 16 = es.length := by rw [size_list, b]; omega
    split
    · rename_i q
      rw [ents_over _ _ _ he (by omega), hes]
    · rename_i q
      have : j = txt.data.toList.length / 16 := by omega
      rw [this, ents_more _ _ he, hes]
  · rw [w2, hp, bs_size, he]; rfl

/-- May a name be added? -/
def addB (es : List Ent) (s : ByteArray) (n : Int) : Bool :=
  rightL s.data.toList && thereE (s, n) && decide (placeE es s < 0) && (!decide (findI (fun e => !thereE e) es < 0) || decide (es.length < 8))
def addE (es : List Ent) (s : ByteArray) (n : Int) : List Ent :=
  if addB es s n = true then (if findI (fun e => !thereE e) es < 0 then es ++ [(s, n)] else es.set (findI (fun e => !thereE e) es).toNat (s, n)) else es
def remB (es : List Ent) (s : ByteArray) : Bool := !decide (placeE es s < 0)
def remE (es : List Ent) (s : ByteArray) : List Ent := if placeE es s < 0 then es else es.set (placeE es s).toNat (bs [], 0)

theorem there_range {s : ByteArray} {n : Int} (h : thereE (s, n) = true) : 1 ≤ n ∧ n < 16 := by
  unfold thereE at h; simpa using h
theorem dirAt_add {st : VSt} {i : Int} {es : List Ent} (H : DirAt st i es) (h1 : 1 ≤ i) (h2 : i < 16) (s : ByteArray) (n : Int) :
    DirAt (dAdd st i s n) i (addE es s n) ∧ dAddB st i s n = addB es s n ∧ ∀ k m, ¬(k = 10 ∧ m = i) → (dAdd st i s n).get k m = st.get k m := by
  obtain ⟨v1, v2, v3, v4, v5⟩ := dirAt_val H h1 h2
  have no : addAt st i s n = none → addB es s n = false → DirAt (dAdd st i s n) i (addE es s n) ∧ dAddB st i s n = addB es s n ∧ ∀ k m, ¬(k = 10 ∧ m = i) → (dAdd st i s n).get k m = st.get k m := by
    intro e f
    have e1 : dAdd st i s n = iSaw st i := by unfold dAdd; rw [e]
    have e2 : dAddB st i s n = false := by unfold dAddB; rw [e]
    have e3 : addE es s n = es := by unfold addE; rw [f]; rfl
    rw [e1, e2, e3, f]
    exact ⟨dirAt_same H (get_iSaw _ _ _ _), rfl, fun k m _ => get_iSaw _ _ _ _⟩
  by_cases hc : rightL s.data.toList = true ∧ thereE (s, n) = true ∧ placeE es s < 0
  · obtain ⟨c2, c3, c4⟩ := hc
    obtain ⟨n1, n2⟩ := there_range c3
    have ea : addAt st i s n = if addO (16 * es.length) (findI (fun e => !thereE e) es) + 16 ≤ 128 then some (addO (16 * es.length) (findI (fun e => !thereE e) es)) else none := by
      unfold addAt; rw [v4, v2, if_pos ⟨v1, c2, c3, c4⟩]
    have eb : addB es s n = (!decide (findI (fun e => !thereE e) es < 0) || decide (es.length < 8)) := by
      unfold addB; rw [c2, c3, decide_eq_true c4]; rfl
    have hE : entE (packL s.data.toList n) = (s, n) := by
      rw [entE_pack _ _ c2 (by omega) (by omega), bs_list]
    have yes : ∀ j : Nat, j ≤ es.length → j < 8 → addAt st i s n = some ((16 * j : Nat) : Int) → addB es s n = true → addE es s n = (if j < es.length then es.set j (s, n) else es ++ [(s, n)]) → DirAt (dAdd st i s n) i (addE es s n) ∧ dAddB st i s n = addB es s n ∧ ∀ k m, ¬(k = 10 ∧ m = i) → (dAdd st i s n).get k m = st.get k m := by
      intro j g1 g2 e f g
      have e1 : dAdd st i s n = iWrite st i ((16 * j : Nat) : Int) (bs (packL s.data.toList n)) := by unfold dAdd; rw [e]
      have e2 : dAddB st i s n = (iWrote st i ((16 * j : Nat) : Int) (bs (packL s.data.toList n)) == 16) := by unfold dAddB; rw [e]
      obtain ⟨w1, w2⟩ := dirAt_write H h1 h2 (packL s.data.toList n) (packL_len _ _) j g1 g2
      rw [hE] at w1
      rw [e1, e2, w2, f, g]
      exact ⟨w1, rfl, fun k m hk => get_iWrite_other _ _ _ _ _ _ hk⟩
    rcases findI_cases (fun e => !thereE e) es with ⟨e, hn⟩ | ⟨j, hj, e, hb, _⟩
    · rw [e, addO_neg] at ea
      rw [e] at eb
      have e0 : ((16 * es.length : Nat) : Int) / 16 * 16 = ((16 * es.length : Nat) : Int) := by omega
      rw [e0] at ea
      by_cases h8 : es.length < 8
      · rw [if_pos (by omega)] at ea
        have f : addB es s n = true := by rw [eb, decide_eq_true h8]; rfl
        refine yes es.length (Nat.le_refl _) h8 ea f ?_
        unfold addE
        rw [f, if_pos rfl, e, if_pos (by decide), if_neg (Nat.lt_irrefl _)]
      · rw [if_neg (by omega)] at ea
        refine no ea ?_
        rw [eb, decide_eq_false h8]; rfl
    · rw [e, addO_pos _ _ (by omega)] at ea
      rw [e] at eb
      rw [if_pos (by omega), show (j : Int) * 16 = ((16 * j : Nat) : Int) by omega] at ea
      have f : addB es s n = true := by rw [eb, decide_eq_false (by omega : ¬ (j : Int) < 0)]; rfl
      refine yes j (by omega) (by omega) ea f ?_
      unfold addE
      rw [f, if_pos rfl, e, if_neg (by omega), if_pos hj]; rfl
  · refine no ?_ ?_
    · unfold addAt; rw [v4, if_neg (fun q => hc q.2)]
    · unfold addB
      cases c2 : rightL s.data.toList
      · rfl
      · cases c3 : thereE (s, n)
        · rfl
        · rw [decide_eq_false (fun q => hc ⟨c2, c3, q⟩)]; rfl

theorem dirAt_rem {st : VSt} {i : Int} {es : List Ent} (H : DirAt st i es) (h1 : 1 ≤ i) (h2 : i < 16) (s : ByteArray) :
    DirAt (dRem st i s) i (remE es s) ∧ dRemB st i s = remB es s ∧ ∀ k m, ¬(k = 10 ∧ m = i) → (dRem st i s).get k m = st.get k m := by
  obtain ⟨v1, v2, v3, v4, v5⟩ := dirAt_val H h1 h2
  unfold dRem dRemB remE remB
  rw [v4]
  by_cases hc : placeE es s < 0
  · rw [if_pos hc, if_pos hc, if_pos hc, decide_eq_true hc]
    exact ⟨dirAt_same H (get_iSaw _ _ _ _), rfl, fun k m _ => get_iSaw _ _ _ _⟩
  · rw [if_neg hc, if_neg hc, if_neg hc, decide_eq_false hc]
    obtain ⟨j, hj, e, _⟩ := placeE_at hc
    rw [e, show (j : Int) * 16 = ((16 * j : Nat) : Int) by omega]
    obtain ⟨w1, w2⟩ := dirAt_write H h1 h2 (packL [] 0) (packL_len _ _) j (by omega) (by omega)
    rw [entE_none, if_pos hj] at w1
    rw [w2]
    exact ⟨w1, rfl, fun k m hk => get_iWrite_other _ _ _ _ _ _ hk⟩

/-- A new directory is empty. -/
theorem dirAt_new (st : VSt) (h1 : 1 ≤ iFree st) (h2 : iFree st < 16) : DirAt (iAlloc st 1) (iFree st) [] := by
  refine ⟨0, 0, ByteArray.empty, alloc_same st 1 h1 h2, rfl, by simp, ?_⟩
  rfl
theorem alloc_get (st : VSt) (u k m : Int) (h9 : ¬(k = 9 ∧ m = 0)) (h : ¬(k = 10 ∧ m = iFree st)) : (iAlloc st u).get k m = st.get k m := by
  unfold iAlloc
  split
  · unfold iTake
    rw [get_put_other _ _ _ _ _ _ h, get_put_other _ _ _ _ _ _ h9, get_saw]
  · rw [get_saw]

section
variable {w W : World} {t : Nat} {L : Lay} {d q : Nat} {st : VSt}

theorem d_add (hM : Mx w) (S : Std w t L d q st W) {i : Int} {es : List Ent} (H : DirAt st i es) (h1 : 1 ≤ i) (h2 : i < 16) (s : ByteArray) (n : Int) (hs : s.size ≤ 1048576) :
    Calls Tryz.prog 100 #[.pointer (some ⟨L.v, 0, none⟩), .int .i64 i, .string s, .int .i64 n] W fun e W' => e = .returned (.bool (addB es s n)) ∧ ∃ st', (DirAt st' i (addE es s n) ∧ ∀ k m, ¬(k = 10 ∧ m = i) → st'.get k m = st.get k m) ∧ Std w t L d q st' W' ∧ Maps L W W' := by
  have v := dirAt_val H h1 h2
  obtain ⟨a, b, c⟩ := dirAt_add H h1 h2 s n
  rw [← b]
  exact (s_add hM S i s n hs (by omega)).mono fun e W' ⟨x, y, z⟩ => ⟨x, _, ⟨a, c⟩, y, z⟩
theorem d_find (hM : Mx w) (S : Std w t L d q st W) {i : Int} {es : List Ent} (H : DirAt st i es) (h1 : 1 ≤ i) (h2 : i < 16) (s : ByteArray) (hs : s.size ≤ 1048576) :
    Calls Tryz.prog 89 #[.pointer (some ⟨L.v, 0, none⟩), .int .i64 i, .string s] W fun e W' => e = .returned (.tuple #[.int .i64 (fndN es s), .bool (fndB es s)]) ∧ ∃ st', (∀ k m, st'.get k m = st.get k m) ∧ Std w t L d q st' W' ∧ Maps L W W' := by
  have v := dirAt_val H h1 h2
  have h := s_find hM S i s hs (by omega)
  rw [v.2.2.2.1] at h
  exact h.mono fun e W' ⟨x, y, z⟩ => ⟨x, _, fun k m => get_iSaw _ _ _ _, y, z⟩
end
end Go.Proofs.YtfcgkjbifnhjjaaGreatDoor.St

namespace Go.Proofs.YtfcgkjbifnhjjaaGreatDoor.St
open Go.RowKit
set_option linter.unusedVariables false

theorem TR.maps {W W' : World} {L : Lay} {st : VSt} {a : Option Addr} {ps : List ByteArray} (h : TR W a ps) (hV : ViewAt W L st) (hm : Maps L W W') : TR W' a ps := fun i hi => by
  obtain ⟨x, e, c⟩ := h i hi
  have hlt := World.block_lt_of_cell? _ _ c
  obtain ⟨_, _, hr, _⟩ := hV.cr
  obtain ⟨_, _, hm', _⟩ := hV.cm
  have hne : ¬((x.add i).block = L.r ∨ (x.add i).block = L.m) := by
    rintro (q | q)
    · unfold World.cell? at c; rw [q, hr] at c; simp at c
    · unfold World.cell? at c; rw [q, hm'] at c; simp at c
  refine ⟨x, e, ?_⟩
  rw [World.cell?_of_block (hm.block (x.add i).block (by simpa using hlt) hne)]
  exact c

theorem from_any (c : Int) (b : Bool) (w : World) : Calls Tryz.prog 56 #[.int .i64 c, .bool b] w fun e w' => e = .returned (.int .i64 (if b then 1 else c)) ∧ w = w' := by
  cases b with
  | true =>
    go_enter Tryz.func56, Tryz.ntmps56
    go_wp2_with fail
    go_ret
    exact ⟨rfl, rfl⟩
  | false =>
    go_enter Tryz.func56, Tryz.ntmps56
    go_wp2_with fail
    go_ret
    exact ⟨rfl, rfl⟩

/-- Each object's text is of a size that the calls bear. -/
def Sm (st : VSt) : Prop := ∀ i, ((iVal st i).s.size : Int) ≤ 140737488351232
theorem sm_val {st : VSt} (h : Sm st) (i : Int) : ((iVal st i).s.size : Int) ≤ 140737488351232 := h i
theorem sm_saw {st : VSt} (h : Sm st) (i : Int) : Sm (iSaw st i) := fun j => by rw [iVal_iSaw]; exact h j

/-- Where names lead from an inode on; none: nowhere. -/
def walkE (st : VSt) : Int → List ByteArray → Option Int
  | at', [] => some at'
  | at', s :: l => if fndB (dEnts st at') s = true ∧ iHas st (fndN (dEnts st at') s) = true then walkE st (fndN (dEnts st at') s) l else none
/-- What is read on the way. -/
def wsawE (st : VSt) : Int → List ByteArray → VSt
  | at', [] => st
  | at', s :: l => if fndB (dEnts st at') s = true then (if iHas st (fndN (dEnts st at') s) = true then wsawE (iSaw (iSaw st at') (fndN (dEnts st at') s)) (fndN (dEnts st at') s) l else iSaw (iSaw st at') (fndN (dEnts st at') s)) else iSaw st at'
def walkO (st : VSt) (at' : Int) (l : List ByteArray) : Option Int := if iHas st at' = true then walkE st at' l else none
def wsawO (st : VSt) (at' : Int) (l : List ByteArray) : VSt := if iHas st at' = true then wsawE (iSaw st at') at' l else iSaw st at'

theorem walkE_same {st st' : VSt} (h : ∀ k n, st'.get k n = st.get k n) : ∀ (l : List ByteArray) (a : Int), walkE st' a l = walkE st a l := by
  have hv : ∀ i, iVal st' i = iVal st i := fun i => by unfold iVal; rw [h]
  have hh : ∀ i, iHas st' i = iHas st i := fun i => by unfold iHas; rw [h]
  have he : ∀ i, dEnts st' i = dEnts st i := fun i => by unfold dEnts iRead; rw [hv]
  intro l
  induction l with
  | nil => intro a; rfl
  | cons s l ih => intro a; unfold walkE; rw [he, hh, ih]
theorem wsawE_get (l : List ByteArray) : ∀ (st : VSt) (a k n : Int), (wsawE st a l).get k n = st.get k n := by
  induction l with
  | nil => intro st a k n; rfl
  | cons s l ih =>
    intro st a k n
    unfold wsawE
    split
    · split
      · rw [ih, get_iSaw, get_iSaw]
      · rw [get_iSaw, get_iSaw]
    · rw [get_iSaw]
theorem wsawO_get (st : VSt) (a : Int) (l : List ByteArray) (k n : Int) : (wsawO st a l).get k n = st.get k n := by
  unfold wsawO
  split
  · rw [wsawE_get, get_iSaw]
  · rw [get_iSaw]

section
variable {w W : World} {t : Nat} {L : Lay} {d q : Nat} {st : VSt}

attribute [local irreducible] Int.lt Int.le
set_option maxRecDepth 100000 in
set_option maxHeartbeats 4000000 in
theorem s_walk (hM : Mx w) (S : Std w t L d q st W) (hS : Sm st) (i : Int) (a : Option Addr) (c : Nat) (ps : List ByteArray) (hn : ps.length ≤ 1000000) (hs : ∀ p ∈ ps, p.size ≤ 1048576) (tr : TR W a ps) :
    Calls Tryz.prog 55 #[.pointer (some ⟨L.v, 0, none⟩), .int .i64 i, .slice a ps.length c] W fun e W' => e = .returned (.tuple #[.int .i64 ((walkO st i ps).getD 0), .bool (walkO st i ps).isSome]) ∧ Std w t L d q (wsawO st i ps) W' ∧ Maps L W W' := by
  have h1 := s_is S i
  cases hh : iHas st i with
  | false =>
    have e1 : walkO st i ps = none := by unfold walkO; rw [hh]; rfl
    have e2 : wsawO st i ps = iSaw st i := by unfold wsawO; rw [hh]; rfl
    rw [e1, e2]
    rw [hh] at h1
    clear e1 e2 hh hs tr
    go_enter Tryz.func55, Tryz.ntmps55
    go_wp2_with fail
    refine h1.mono ?_; rintro e W1 ⟨rfl, S1, t1⟩
    go_wp2_with fail
    go_ret2
    exact ⟨rfl, S1, t1⟩
  | true =>
    have e1 : walkO st i ps = walkE (iSaw st i) i ps := by unfold walkO; rw [hh, if_pos rfl, walkE_same (fun k n => get_iSaw _ _ _ _)]
    have e2 : wsawO st i ps = wsawE (iSaw st i) i ps := by unfold wsawO; rw [hh]; rfl
    rw [e1, e2]
    rw [hh] at h1
    have hS1 := sm_saw hS i
    have SV := S.v
    clear e1 e2 hh hS S
    generalize iSaw st i = st1 at *
    obtain ⟨R, hR⟩ : ∃ R, R = walkE st1 i ps := ⟨_, rfl⟩
    obtain ⟨V, hV⟩ : ∃ V, V = wsawE st1 i ps := ⟨_, rfl⟩
    rw [← hR, ← hV]
    have HR := Lib.hid hR
    have HV := Lib.hid hV
    clear hR hV
    go_enter Tryz.func55, Tryz.ntmps55
    go_wp2_with fail
    refine h1.mono ?_; rintro e W1 ⟨rfl, S1, t1⟩
    have tr1 := tr.maps SV t1
    have T1 := Lib.hid t1
    clear h1 tr t1 SV
    go_wp2_with fail
    go_loopw [1, 18] (fun at' k wr => ∃ (x : Int) (j : Nat) (st2 : VSt), j ≤ ps.length ∧ at' = .int .i64 x ∧ k = .int .i64 (j : Int) ∧ walkE st2 x (ps.drop j) = R ∧ wsawE st2 x (ps.drop j) = V ∧ Sm st2 ∧ Std w t L d q st2 wr ∧ Maps L W wr ∧ TR wr a ps) (fun _ k _ => ps.length - (intOf k).toNat)
    case atStart => exact ⟨i, 0, st1, Nat.zero_le _, rfl, rfl, HR.out.symm, HV.out.symm, hS1, S1, T1.out, tr1⟩
    case round =>
      clear S1 hS1 tr1 T1
      obtain ⟨x, j, st2, hj, rfl, rfl, hR, hV, hS2, S2, T2, tr2⟩ := hrel
      by_cases hlt : j < ps.length
      · have l1 : (j : Int) < (ps.length : Int) := by omega
        have l0 : (0 : Int) ≤ (j : Int) := by omega
        obtain ⟨xa, rfl, xc⟩ := tr2 j hlt
        have hd : ps.drop j = ps[j] :: ps.drop (j + 1) := List.drop_eq_getElem_cons hlt
        rw [hd] at hR hV
        have hsz := hs ps[j] (List.getElem_mem hlt)
        have hf := s_find hM S2 x ps[j] hsz (sm_val hS2 x)
        have hi := fun {W3 : World} (S3 : Std w t L d q (iSaw st2 x) W3) => s_is S3 (fndN (dEnts st2 x) ps[j])
        simp only [iHas_iSaw] at hi
        have SV2 := S2.v
        have T2' := Lib.hid T2
        clear HR HV T2
        rw [walkE] at hR
        rw [wsawE] at hV
        cases hb : fndB (dEnts st2 x) ps[j] with
        | false =>
          rw [hb] at hf hR hV
          rw [if_neg (by simp)] at hR hV
          have HR := Lib.hid hR
          have HV := Lib.hid hV
          generalize fndN (dEnts st2 x) ps[j] = y at *
          generalize ps[j] = s at *
          clear hR hV hd hb hi hs hsz hS2 tr2
          go_wp2_with fail
          refine hf.mono ?_; rintro e W3 ⟨rfl, S3, t3⟩
          clear hf S2
          go_wp2_with fail
          go_ret2
          rw [← HR.out, ← HV.out]
          exact ⟨rfl, S3, Turn.trans T2'.out t3⟩
        | true =>
          rw [hb] at hf hR hV
          cases hh : iHas st2 (fndN (dEnts st2 x) ps[j]) with
          | false =>
            rw [hh] at hi hR hV
            rw [if_neg (by simp)] at hR
            rw [if_pos rfl, if_neg (by simp)] at hV
            have HR := Lib.hid hR
            have HV := Lib.hid hV
            generalize fndN (dEnts st2 x) ps[j] = y at *
            generalize ps[j] = s at *
            clear hR hV hd hb hs hsz hS2 tr2 hh
            go_wp2_with fail
            refine hf.mono ?_; rintro e W3 ⟨rfl, S3, t3⟩
            clear hf S2
            go_wp2_with fail
            refine (hi S3).mono ?_; rintro e W4 ⟨rfl, S4, t4⟩
            clear hi S3
            go_wp2_with fail
            go_ret2
            rw [← HR.out, ← HV.out]
            exact ⟨rfl, S4, (Turn.trans T2'.out t3).trans t4⟩
          | true =>
            rw [hh] at hi hR hV
            rw [if_pos ⟨rfl, rfl⟩] at hR
            rw [if_pos rfl, if_pos rfl] at hV
            have hR2 : walkE (iSaw (iSaw st2 x) (fndN (dEnts st2 x) ps[j])) (fndN (dEnts st2 x) ps[j]) (ps.drop (j + 1)) = R := by
              rw [walkE_same (st := st2) (fun k n => by rw [get_iSaw, get_iSaw])]; exact hR
            have HR := Lib.hid hR2
            have HV := Lib.hid hV
            have hS4 := sm_saw (sm_saw hS2 x) (fndN (dEnts st2 x) ps[j])
            have TR2 := Lib.hid tr2
            generalize fndN (dEnts st2 x) ps[j] = y at *
            generalize ps[j] = s at *
            clear hR hR2 hV hd hb hs hsz hS2 hh tr2
            go_wp2_with fail
            refine hf.mono ?_; rintro e W3 ⟨rfl, S3, t3⟩
            have SV3 := S3.v
            clear hf S2
            go_wp2_with fail
            refine (hi S3).mono ?_; rintro e W4 ⟨rfl, S4, t4⟩
            clear hi S3
            go_wp2_with fail
            have tr4 := (TR2.out.maps SV2 t3).maps SV3 t4
            exact ⟨⟨y, j + 1, _, by omega, rfl, by go_num, HR.out, HV.out, hS4, S4, (Turn.trans T2'.out t3).trans t4, tr4⟩, by simp [intOf]; omega⟩
      · obtain rfl : j = ps.length := by omega
        rw [List.drop_length] at hR hV
        have hR' : R = some x := hR.symm
        have hV' : V = st2 := hV.symm
        have HR2 := Lib.hid hR'
        have HV2 := Lib.hid hV'
        clear hR hV hR' hV' tr2 hs hS2
        go_wp2_with fail
        go_ret2
        rw [HR2.out, HV2.out]
        exact ⟨rfl, S2, T2⟩
end
end Go.Proofs.YtfcgkjbifnhjjaaGreatDoor.St

namespace Go.Proofs.YtfcgkjbifnhjjaaGreatDoor.St
open Go.RowKit
set_option linter.unusedVariables false

theorem TL.tr2 {B : Nat} {W : World} {v : Value} {ps : List ByteArray} (h : TL B W v ps) : ∃ a c, v = .slice a ps.length c ∧ TR W a ps ∧ ps.length ≤ c := by
  obtain ⟨a, c, e, tr, _⟩ := h.tr
  refine ⟨a, c, e, tr, ?_⟩
  rcases h.2 with ⟨q, h0⟩ | ⟨g, cap, cur, e', _, _, h1, _⟩
  · rw [h0]; exact Nat.zero_le _
  · rw [e] at e'; simp at e'; omega
/-- Where a path leads. -/
def pWalk (st : VSt) (cwd : Int) (s : ByteArray) : Option Int := if splOk s.data.toList = true then walkO st (if splB s.data.toList then 1 else cwd) (splN s.data.toList) else none
def pWalkV (st : VSt) (cwd : Int) (s : ByteArray) : VSt := if splOk s.data.toList = true then wsawO st (if splB s.data.toList then 1 else cwd) (splN s.data.toList) else st
theorem pWalkV_get (st : VSt) (cwd : Int) (s : ByteArray) (k n : Int) : (pWalkV st cwd s).get k n = st.get k n := by
  unfold pWalkV
  split
  · exact wsawO_get _ _ _ _ _
  · rfl
theorem splN_size (s : ByteArray) (hs : s.size ≤ 1048576) : ∀ p ∈ splN s.data.toList, p.size ≤ 1048576 := by
  intro p hp
  unfold splN at hp
  split at hp
  · obtain ⟨x, hx, rfl⟩ := List.mem_map.1 hp
    have := (namesL_sub _ _ hx).2.1
    rw [bs_size]
    rw [size_list] at this
    omega
  · simp at hp
theorem splN_len (s : ByteArray) : (splN s.data.toList).length ≤ s.size + 1 := by
  unfold splN
  split
  · rw [List.length_map]
    have := namesL_len s.data.toList
    rw [size_list] at this
    exact this
  · simp

section
variable {w W : World} {t : Nat} {L : Lay} {d q : Nat} {st : VSt}

attribute [local irreducible] Int.lt Int.le
set_option maxRecDepth 100000 in
set_option maxHeartbeats 4000000 in
theorem s_Walk (hM : Mx w) (S : Std w t L d q st W) (hS : Sm st) (i : Int) (s : ByteArray) (hs : s.size ≤ 500000) :
    Calls Tryz.prog 17 #[.pointer (some ⟨L.v, 0, none⟩), .int .i64 i, .string s] W fun e W' => e = .returned (.tuple #[.int .i64 ((pWalk st i s).getD 0), .bool (pWalk st i s).isSome]) ∧ Std w t L d q (pWalkV st i s) W' ∧ Maps L W W' := by
  have hsp := split_any s W (hM.below (Nat.le_refl _) S.b) (by omega)
  have hz := splN_size s (by omega)
  have hl := splN_len s
  unfold pWalk pWalkV
  cases hk : splOk s.data.toList with
  | false =>
    rw [if_neg (by simp), if_neg (by simp)]
    rw [hk] at hsp
    generalize splB s.data.toList = b at *
    generalize splN s.data.toList = ps at *
    clear hk hz
    go_enter Tryz.func17, Tryz.ntmps17
    go_wp2_with fail
    refine hsp.mono ?_; rintro e W1 ⟨v, rfl, own, b1⟩
    go_wp2_with fail
    go_ret2
    exact ⟨rfl, S.below b1, Turn.of_below b1 _⟩
  | true =>
    rw [if_pos rfl, if_pos rfl]
    rw [hk] at hsp
    generalize splB s.data.toList = b at *
    generalize splN s.data.toList = ps at *
    have hfr := fun W => from_any i b W
    have hw := fun {W1 : World} (S1 : Std w t L d q st W1) a c tr => s_walk hM S1 hS (if b then 1 else i) a c ps (by omega) hz tr
    generalize (if b = true then (1 : Int) else i) = x at *
    generalize walkO st x ps = R at *
    generalize wsawO st x ps = V at *
    clear hk hz
    go_enter Tryz.func17, Tryz.ntmps17
    go_wp2_with fail
    refine hsp.mono ?_; rintro e W1 ⟨v, rfl, own, b1⟩
    obtain ⟨a, c, rfl, tr, _⟩ := own.tr
    have S1 := S.below b1
    have hw1 := hw S1 a c tr
    clear hsp own tr hw hl
    go_wp2_with fail
    refine (hfr _).mono ?_; rintro e W2 ⟨rfl, rfl⟩
    go_wp2_with fail
    refine hw1.mono ?_; rintro e W3 ⟨rfl, S3, t3⟩
    go_wp2_with fail
    go_ret2
    exact ⟨rfl, S3, Turn.trans (Turn.of_below b1 _) t3⟩

/-- A path's parent, and its last name. -/
def pParE (st : VSt) (x : Int) (ps : List ByteArray) : Option (Int × ByteArray) := match ps.getLast? with
  | none => none
  | some s => match walkO st x ps.dropLast with
    | none => none
    | some y => if (iVal st y).n 0 = 1 then some (y, s) else none
def pParEV (st : VSt) (x : Int) (ps : List ByteArray) : VSt := match ps.getLast? with
  | none => st
  | some s => match walkO st x ps.dropLast with
    | none => wsawO st x ps.dropLast
    | some y => iSaw (wsawO st x ps.dropLast) y
def pPar (st : VSt) (cwd : Int) (s : ByteArray) : Option (Int × ByteArray) := if splOk s.data.toList = true then pParE st (if splB s.data.toList then 1 else cwd) (splN s.data.toList) else none
def pParV (st : VSt) (cwd : Int) (s : ByteArray) : VSt := if splOk s.data.toList = true then pParEV st (if splB s.data.toList then 1 else cwd) (splN s.data.toList) else st
theorem pParV_get (st : VSt) (cwd : Int) (s : ByteArray) (k n : Int) : (pParV st cwd s).get k n = st.get k n := by
  unfold pParV
  split
  · unfold pParEV
    split
    · rfl
    · split
      · exact wsawO_get _ _ _ _ _
      · rw [get_iSaw, wsawO_get]
  · rfl

set_option maxRecDepth 100000 in
set_option maxHeartbeats 4000000 in
theorem s_Parent (hM : Mx w) (S : Std w t L d q st W) (hS : Sm st) (i : Int) (s : ByteArray) (hs : s.size ≤ 500000) :
    Calls Tryz.prog 20 #[.pointer (some ⟨L.v, 0, none⟩), .int .i64 i, .string s] W fun e W' => e = .returned (.tuple #[.int .i64 ((pPar st i s).getD (0, ⟨#[]⟩)).1, .string ((pPar st i s).getD (0, ⟨#[]⟩)).2, .bool (pPar st i s).isSome]) ∧ Std w t L d q (pParV st i s) W' ∧ Maps L W W' := by
  have hsp := split_any s W (hM.below (Nat.le_refl _) S.b) (by omega)
  have hz := splN_size s (by omega)
  have hl := splN_len s
  unfold pPar pParV
  cases hk : splOk s.data.toList with
  | false =>
    rw [if_neg (by simp), if_neg (by simp)]
    rw [hk] at hsp
    generalize splB s.data.toList = b at *
    generalize splN s.data.toList = ps at *
    clear hk hz
    go_enter Tryz.func20, Tryz.ntmps20
    go_wp2_with fail
    refine hsp.mono ?_; rintro e W1 ⟨v, rfl, own, b1⟩
    go_wp2_with fail
    go_ret3
    exact ⟨rfl, S.below b1, Turn.of_below b1 _⟩
  | true =>
    rw [if_pos rfl, if_pos rfl]
    rw [hk] at hsp
    generalize splB s.data.toList = b at *
    generalize splN s.data.toList = ps at *
    have hfr := fun W => from_any i b W
    generalize (if b = true then (1 : Int) else i) = x at *
    clear hk
    rcases List.eq_nil_or_concat ps with rfl | ⟨qs, s0, rfl⟩
    · go_enter Tryz.func20, Tryz.ntmps20
      go_wp2_with fail
      refine hsp.mono ?_; rintro e W1 ⟨v, rfl, own, b1⟩
      obtain ⟨a, c, rfl, tr, _⟩ := own.tr
      go_wp2_with fail
      go_ret3
      exact ⟨rfl, S.below b1, Turn.of_below b1 _⟩
    · simp only [List.concat_eq_append] at *
      have e1 : pParE st x (qs ++ [s0]) = match walkO st x qs with
        | none => none
        | some y => if (iVal st y).n 0 = 1 then some (y, s0) else none := by unfold pParE; simp
      have e2 : pParEV st x (qs ++ [s0]) = match walkO st x qs with
        | none => wsawO st x qs
        | some y => iSaw (wsawO st x qs) y := by unfold pParEV; simp
      have hw := fun {W1 : World} (S1 : Std w t L d q st W1) a c tr => s_walk hM S1 hS x a c qs (by simp at hl; omega) (fun p hp => hz p (by simp [hp])) tr
      rw [e1, e2]
      have hlen : (qs ++ [s0]).length = qs.length + 1 := by simp
      have hV : ∀ y, (iVal (wsawO st x qs) y).n 0 = (iVal st y).n 0 := fun y => by unfold iVal; rw [wsawO_get]
      have hd := fun {W1 : World} y (S1 : Std w t L d q (wsawO st x qs) W1) => s_isdir S1 y
      simp only [hV] at hd
      have hql : qs.length ≤ 500001 := by simp at hl; omega
      clear e1 e2 hV hz hl hs
      generalize wsawO st x qs = V at *
      have l1 : (qs.length : Int) ≤ 500001 := by omega
      have hR : walkO st x qs = none ∨ (∃ y, walkO st x qs = some y ∧ (iVal st y).n 0 = 1) ∨ ∃ y, walkO st x qs = some y ∧ ¬ (iVal st y).n 0 = 1 := by
        cases h : walkO st x qs with
        | none => exact Or.inl rfl
        | some y =>
          by_cases q : (iVal st y).n 0 = 1
          · exact Or.inr (Or.inl ⟨y, rfl, q⟩)
          · exact Or.inr (Or.inr ⟨y, rfl, q⟩)
      rcases hR with hR | ⟨y, hR, hy⟩ | ⟨y, hR, hy⟩
      case' true.inr.inl =>
        rw [hR] at hw ⊢
        simp only [Option.getD_none, Option.isSome_none] at hw ⊢
        clear hR hd
      case' true.inr.inr.inl =>
        have hd1 := fun (W1 : World) (S1 : Std w t L d q V W1) => hd y S1
        rw [hy] at hd1
        rw [hR] at hw ⊢
        simp only [Option.getD_some, Option.isSome_some] at hw ⊢
        rw [if_pos hy]
        simp only [Option.getD_some, Option.isSome_some]
        clear hR hd hy
      case' true.inr.inr.inr =>
        have hd1 := fun (W1 : World) (S1 : Std w t L d q V W1) => hd y S1
        rw [show ((iVal st y).n 0 == 1) = false from beq_eq_false_iff_ne.2 hy] at hd1
        rw [hR] at hw ⊢
        simp only [Option.getD_some, Option.isSome_some] at hw ⊢
        rw [if_neg hy]
        simp only [Option.getD_none, Option.isSome_none]
        clear hR hd hy
      all_goals
        go_enter Tryz.func20, Tryz.ntmps20
        go_wp2_with fail
        refine hsp.mono ?_; rintro e W1 ⟨v, rfl, own, b1⟩
        obtain ⟨a, c, rfl, tr, hcap⟩ := own.tr2
        rw [hlen] at hcap
        have hcap2 : (qs.length : Int) ≤ (c : Int) := by omega
        have S1 := S.below b1
        have trq : TR W1 a qs := fun j hj => by
          have := tr j (by simp; omega)
          simpa [List.getElem_append_left hj] using this
        obtain ⟨xa, rfl, xc⟩ := tr qs.length (by simp)
        have trAll := tr
        rw [hlen]
        clear hlen hsp tr own
        go_wp2_with fail
        have S1d := S1.drew
        have trd : TR W1.drew (some xa) qs := trq.below ((Below.refl _ _).drew)
        have hw2 := hw S1d (some xa) c trd
        have trA : TR W1.drew (some xa) (qs ++ [s0]) := trAll.below ((Below.refl _ _).drew)
        have TT : Maps L W W1.drew := Turn.of_below (b1.drew) _
        clear hw trq trd xc S1 trAll
        obtain ⟨Wd, hWd⟩ : ∃ Wd, Wd = W1.drew := ⟨_, rfl⟩
        rw [← hWd] at hw2 trA TT S1d
        go_region_with (first
          | (go_at_call 56; refine (hfr _).mono ?_; rintro e W2 ⟨rfl, rfl⟩)
          | (go_at_call 55; rw [← hWd]; refine hw2.mono ?_; rintro e W3 ⟨rfl, S3, t3⟩))
      · clear trA
        go_wp2_with fail
        refine (hd1 _ S3).mono ?_; rintro e W4 ⟨rfl, S4, t4⟩
        go_wp2_with fail
        go_ret3
        exact ⟨rfl, S4, (Turn.trans TT t3).trans t4⟩
      · have tr3 := trA.maps S1d.v t3
        have SV3 := S3.v
        clear trA S1d
        go_wp2_with fail
        refine (hd1 _ S3).mono ?_; rintro e W4 ⟨rfl, S4, t4⟩
        obtain ⟨ya, ey, yc⟩ := (tr3.maps SV3 t4) qs.length (by simp)
        obtain rfl : xa = ya := by simpa using ey
        simp at yc
        have l0 : (0 : Int) ≤ (qs.length : Int) := by omega
        have l2 : (qs.length : Int) < (qs.length : Int) + 1 := by omega
        clear hd1 S3 tr3 ey
        go_wp2_with fail
        go_quiet (fail)
        have S5 := S4.drewN nq
        have T5 : Maps L W (W4.drewN nq) := ((Turn.trans TT t3).trans t4).drewN nq
        generalize W4.drewN nq = W5 at *
        go_wp2_with fail
        go_ret3
        exact ⟨rfl, S5, T5⟩
      · clear trA
        go_wp2_with fail
        go_ret3
        exact ⟨rfl, S3, Turn.trans TT t3⟩
end
end Go.Proofs.YtfcgkjbifnhjjaaGreatDoor.St

namespace Go.Proofs.YtfcgkjbifnhjjaaGreatDoor.St
open Go.RowKit
set_option linter.unusedVariables false

theorem bears_iff {s : ByteArray} {e : Ent} : bearsE s e = true ↔ thereE e = true ∧ e.1 = s := by unfold bearsE; simp
theorem there_mk {s : ByteArray} {n : Int} (h1 : 1 ≤ n) (h2 : n < 16) : thereE (s, n) = true := by unfold thereE; simp; omega

def dotB : ByteArray := ⟨#[46]⟩
def dotsB : ByteArray := ⟨#[46, 46]⟩
/-- A name of one letter. -/
def letS (g : Nat) : ByteArray := ⟨#[UInt8.ofNat (97 + g)]⟩
def isLet (s : ByteArray) : Prop := ∃ g, g < 12 ∧ s = letS g
theorem let_facts : ∀ g, g < 12 → rightL (letS g).data.toList = true ∧ (letS g).size = 1 ∧ letS g ≠ dotB ∧ letS g ≠ dotsB ∧ ¬ 47 ∈ (letS g).data.toList ∧ (letS g).data.toList ≠ [] := by decide +kernel
theorem isLet.right {s : ByteArray} (h : isLet s) : rightL s.data.toList = true := by obtain ⟨g, hg, rfl⟩ := h; exact (let_facts g hg).1
theorem isLet.size {s : ByteArray} (h : isLet s) : s.size = 1 := by obtain ⟨g, hg, rfl⟩ := h; exact (let_facts g hg).2.1
theorem isLet.dot {s : ByteArray} (h : isLet s) : s ≠ dotB := by obtain ⟨g, hg, rfl⟩ := h; exact (let_facts g hg).2.2.1
theorem isLet.dots {s : ByteArray} (h : isLet s) : s ≠ dotsB := by obtain ⟨g, hg, rfl⟩ := h; exact (let_facts g hg).2.2.2.1
theorem dot_right : rightL dotB.data.toList = true ∧ rightL dotsB.data.toList = true ∧ dotsB ≠ dotB := by decide +kernel

/-- What is found stands among the entries. -/
theorem fnd_mem {es : List Ent} {s : ByteArray} (h : fndB es s = true) : ∃ e ∈ es, thereE e = true ∧ e.1 = s ∧ fndN es s = e.2 := by
  unfold fndB at h
  have hp : ¬ placeE es s < 0 := by simpa using h
  obtain ⟨j, hj, e, hb⟩ := placeE_at hp
  obtain ⟨a, b⟩ := bears_iff.1 hb
  refine ⟨es[j], List.getElem_mem hj, a, b, ?_⟩
  unfold fndN
  rw [if_neg hp, e]
  simp [List.getD, List.getElem?_eq_getElem hj]
theorem fnd_at {es : List Ent} {s : ByteArray} {j : Nat} (hj : j < es.length) (hr : rightL s.data.toList = true) (hb : bearsE s es[j] = true) (hn : ∀ t (ht : t < es.length), t < j → bearsE s es[t] = false) : fndB es s = true ∧ fndN es s = es[j].2 := by
  have e : placeE es s = j := by
    unfold placeE
    rw [hr, if_pos rfl]
    exact findI_hit hj hb hn
  unfold fndB fndN
  rw [e, decide_eq_false (by omega : ¬ (j : Int) < 0), if_neg (by omega)]
  refine ⟨rfl, ?_⟩
  simp [List.getD, List.getElem?_eq_getElem hj]
theorem fnd_none {es : List Ent} {s : ByteArray} (h : ∀ e ∈ es, bearsE s e = false) : fndB es s = false := by
  unfold fndB placeE
  split
  · rw [findI_miss (fun t ht => h _ (List.getElem_mem ht))]; decide
  · decide

/-- A directory's entries: its dots, and more. -/
def dirE (i p : Int) (R : List Ent) : List Ent := (dotB, i) :: (dotsB, p) :: R
theorem fnd_dot (i p : Int) (R : List Ent) (h1 : 1 ≤ i) (h2 : i < 16) : fndB (dirE i p R) dotB = true ∧ fndN (dirE i p R) dotB = i :=
  fnd_at (j := 0) (by simp [dirE]) dot_right.1 (bears_iff.2 ⟨there_mk h1 h2, rfl⟩) (fun t _ h => absurd h (by omega))
theorem fnd_dots (i p : Int) (R : List Ent) (h1 : 1 ≤ p) (h2 : p < 16) : fndB (dirE i p R) dotsB = true ∧ fndN (dirE i p R) dotsB = p :=
  fnd_at (j := 1) (by simp [dirE]) dot_right.2.1 (bears_iff.2 ⟨there_mk h1 h2, rfl⟩) (fun t ht h => by
    obtain rfl : t = 0 := by omega
    cases hb : bearsE dotsB (dirE i p R)[0] with
    | false => rfl
    | true => exact absurd (bears_iff.1 hb).2.symm dot_right.2.2)
theorem fnd_let {i p : Int} {R : List Ent} {s : ByteArray} (hs : isLet s) (h : fndB (dirE i p R) s = true) : ∃ e ∈ R, e.1 = s ∧ fndN (dirE i p R) s = e.2 := by
  obtain ⟨e, he, ht, hes, hn⟩ := fnd_mem h
  unfold dirE at he
  rcases List.mem_cons.1 he with rfl | he
  · exact absurd hes.symm hs.dot
  · rcases List.mem_cons.1 he with rfl | he
    · exact absurd hes.symm hs.dots
    · exact ⟨e, he, hes, hn⟩

/-- A tree of m inodes: which are directories, what they hold, which is whose parent. -/
structure GT (st : VSt) (m : Nat) (K : Int → Bool) (R : Int → List Ent) (par : Int → Int) : Prop where
  le : 3 ≤ m ∧ m ≤ 12
  used : ∀ j : Nat, 1 ≤ j → j < 16 → usedI ((st.get 9 0).n 0) j = decide (j ≤ m)
  none : ∀ j : Int, (m : Int) < j → j < 16 → (st.get 10 j).n 0 = 0
  root : K 1 = true
  dir : ∀ j : Int, 1 ≤ j → j ≤ m → K j = true → DirAt st j (dirE j (par j) (R j)) ∧ 1 ≤ par j ∧ par j ≤ m ∧ K (par j) = true
  file : ∀ j : Int, 1 ≤ j → j ≤ m → K j = false → Holds st j 2 0 0 ByteArray.empty
  kids : ∀ j : Int, 1 ≤ j → j ≤ m → K j = true → ∀ e ∈ R j, isLet e.1 ∧ 1 ≤ e.2 ∧ e.2 ≤ m ∧ (K e.2 = true → par e.2 = j)

theorem GT.same {st st' : VSt} {m : Nat} {K : Int → Bool} {R : Int → List Ent} {par : Int → Int} (G : GT st m K R par) (h : ∀ k n, st'.get k n = st.get k n) : GT st' m K R par :=
  ⟨G.le, fun j a b => by rw [h]; exact G.used j a b, fun j a b => by rw [h]; exact G.none j a b, G.root,
    fun j a b c => ⟨dirAt_same (G.dir j a b c).1 (h _ _), (G.dir j a b c).2⟩, fun j a b c => by unfold Holds; rw [h]; exact G.file j a b c, G.kids⟩

section
variable {st : VSt} {m : Nat} {K : Int → Bool} {R : Int → List Ent} {par : Int → Int}

theorem GT.sm (G : GT st m K R par) (i : Int) : ((iVal st i).s.size : Int) ≤ 140737488351232 := by
  by_cases h1 : 1 ≤ i ∧ i ≤ m
  · cases hk : K i with
    | true =>
      have := dirAt_val (G.dir i h1.1 h1.2 hk).1 h1.1 (by have := G.le; omega)
      omega
    | false =>
      have := holds_val (G.file i h1.1 h1.2 hk) (by decide) h1.1 (by have := G.le; omega)
      rw [this.1]; decide
  · by_cases h2 : i < 1 ∨ 16 ≤ i
    · rw [iVal_out st i h2]; decide
    · rw [iVal_none st i (by omega) (by omega) (G.none i (by omega) (by omega))]; decide
theorem GT.has (G : GT st m K R par) (i : Int) : iHas st i = (decide (1 ≤ i) && decide (i ≤ (m : Int))) := by
  by_cases h1 : 1 ≤ i ∧ i ≤ m
  · rw [decide_eq_true h1.1, decide_eq_true h1.2]
    cases hk : K i with
    | true => exact (dirAt_val (G.dir i h1.1 h1.2 hk).1 h1.1 (by have := G.le; omega)).2.2.2.2
    | false => exact (holds_val (G.file i h1.1 h1.2 hk) (by decide) h1.1 (by have := G.le; omega)).2.2.2.2
  · have h2 : (decide (1 ≤ i) && decide (i ≤ (m : Int))) = false := by
      cases h : (decide (1 ≤ i) && decide (i ≤ (m : Int))) with
      | false => rfl
      | true => simp at h; exact absurd h h1
    rw [h2]
    by_cases h3 : i < 1 ∨ 16 ≤ i
    · exact iHas_out st i h3
    · exact iHas_none st i (by omega) (by omega) (G.none i (by omega) (by omega))
theorem GT.has_in (G : GT st m K R par) {i : Int} (h1 : 1 ≤ i) (h2 : i ≤ m) : iHas st i = true := by rw [G.has, decide_eq_true h1, decide_eq_true h2]; rfl
/-- Is an inode a directory? -/
def isD (m : Nat) (K : Int → Bool) (i : Int) : Bool := decide (1 ≤ i) && decide (i ≤ (m : Int)) && K i
theorem GT.type (G : GT st m K R par) (i : Int) : ((iVal st i).n 0 == 1) = isD m K i := by
  unfold isD
  by_cases h1 : 1 ≤ i ∧ i ≤ m
  · rw [decide_eq_true h1.1, decide_eq_true h1.2]
    cases hk : K i with
    | true => rw [(dirAt_val (G.dir i h1.1 h1.2 hk).1 h1.1 (by have := G.le; omega)).1]; rfl
    | false => rw [(holds_val (G.file i h1.1 h1.2 hk) (by decide) h1.1 (by have := G.le; omega)).2.1]; rfl
  · have h2 : (decide (1 ≤ i) && decide (i ≤ (m : Int))) = false := by
      cases h : (decide (1 ≤ i) && decide (i ≤ (m : Int))) with
      | false => rfl
      | true => simp at h; exact absurd h h1
    rw [h2]
    by_cases h3 : i < 1 ∨ 16 ≤ i
    · rw [iVal_out st i h3]; rfl
    · rw [iVal_none st i (by omega) (by omega) (G.none i (by omega) (by omega))]; rfl
theorem isD_in {i : Int} (h : isD m K i = true) : 1 ≤ i ∧ i ≤ (m : Int) ∧ K i = true := by
  unfold isD at h; simpa [and_assoc] using h
theorem GT.ents (G : GT st m K R par) (i : Int) : dEnts st i = if isD m K i = true then dirE i (par i) (R i) else [] := by
  by_cases h : isD m K i = true
  · rw [if_pos h]
    obtain ⟨a, b, c⟩ := isD_in h
    exact (dirAt_val (G.dir i a b c).1 a (by have := G.le; omega)).2.2.2.1
  · rw [if_neg h]
    unfold dEnts
    rw [if_neg]
    intro q
    have := G.type i
    rw [q] at this
    exact h this.symm
/-- One step of a walk: a letter's name. -/
theorem GT.step (G : GT st m K R par) {a : Int} {s : ByteArray} (hs : isLet s) (h : fndB (dEnts st a) s = true) :
    isD m K a = true ∧ 1 ≤ fndN (dEnts st a) s ∧ fndN (dEnts st a) s ≤ m ∧ (isD m K (fndN (dEnts st a) s) = true → par (fndN (dEnts st a) s) = a) := by
  rw [G.ents] at h ⊢
  by_cases hd : isD m K a = true
  · rw [if_pos hd] at h ⊢
    obtain ⟨i1, i2, i3⟩ := isD_in hd
    obtain ⟨e, he, hes, hn⟩ := fnd_let hs h
    obtain ⟨_, k1, k2, k3⟩ := G.kids a i1 i2 i3 e he
    rw [hn]
    exact ⟨hd, k1, k2, fun q => k3 (isD_in q).2.2⟩
  · rw [if_neg hd] at h
    exact absurd h (by simp [fndB, placeE, findI])
theorem GT.dot (G : GT st m K R par) {a : Int} (hd : isD m K a = true) : fndB (dEnts st a) dotB = true ∧ fndN (dEnts st a) dotB = a ∧ fndB (dEnts st a) dotsB = true ∧ fndN (dEnts st a) dotsB = par a ∧ 1 ≤ par a ∧ par a ≤ m ∧ isD m K (par a) = true := by
  obtain ⟨i1, i2, i3⟩ := isD_in hd
  obtain ⟨_, p1, p2, p3⟩ := G.dir a i1 i2 i3
  have hle := G.le
  rw [G.ents, if_pos hd]
  obtain ⟨x1, x2⟩ := fnd_dot a (par a) (R a) i1 (by omega)
  obtain ⟨y1, y2⟩ := fnd_dots a (par a) (R a) p1 (by omega)
  refine ⟨x1, x2, y1, y2, p1, p2, ?_⟩
  unfold isD
  rw [decide_eq_true p1, decide_eq_true p2, p3]; rfl
theorem GT.nodir (G : GT st m K R par) {a : Int} (hd : isD m K a = false) (s : ByteArray) : fndB (dEnts st a) s = false := by
  rw [G.ents, if_neg (by rw [hd]; decide)]
  exact fnd_none (fun e he => by simp at he)

/-! ### walks in a tree -/
theorem walk_app (l1 l2 : List ByteArray) : ∀ a, walkE st a (l1 ++ l2) = match walkE st a l1 with | .none => .none | some b => walkE st b l2 := by
  induction l1 with
  | nil => intro a; rfl
  | cons s l ih =>
    intro a
    rw [List.cons_append, walkE, walkE]
    split
    · exact ih _
    · rfl
theorem walk_one (a : Int) (s : ByteArray) : walkE st a [s] = if fndB (dEnts st a) s = true ∧ iHas st (fndN (dEnts st a) s) = true then some (fndN (dEnts st a) s) else none := by
  rw [walkE]; split <;> rfl
/-- What a letter's name leads to. -/
def stepE (st : VSt) (a : Int) (s : ByteArray) : Option Int := if fndB (dEnts st a) s = true then some (fndN (dEnts st a) s) else none
theorem GT.walk_let (G : GT st m K R par) (a : Int) {s : ByteArray} (hs : isLet s) : walkE st a [s] = stepE st a s := by
  rw [walk_one]; unfold stepE
  by_cases h : fndB (dEnts st a) s = true
  · obtain ⟨_, h1, h2, _⟩ := G.step hs h
    rw [if_pos ⟨h, G.has_in h1 h2⟩, if_pos h]
  · rw [if_neg (fun q => h q.1), if_neg h]
theorem GT.walk_dot (G : GT st m K R par) (a : Int) : walkE st a [dotB] = if isD m K a = true then some a else Option.none := by
  rw [walk_one]
  cases hd : isD m K a with
  | true =>
    obtain ⟨h1, h2, _⟩ := G.dot hd
    obtain ⟨i1, i2, _⟩ := isD_in hd
    rw [h2, if_pos ⟨h1, G.has_in i1 i2⟩]; rfl
  | false => rw [G.nodir hd, if_neg (by simp)]; rfl
theorem GT.walk_dots (G : GT st m K R par) (a : Int) : walkE st a [dotsB] = if isD m K a = true then some (par a) else Option.none := by
  rw [walk_one]
  cases hd : isD m K a with
  | true =>
    obtain ⟨_, _, h1, h2, p1, p2, _⟩ := G.dot hd
    rw [h2, if_pos ⟨h1, G.has_in p1 p2⟩]; rfl
  | false => rw [G.nodir hd, if_neg (by simp)]; rfl
end
end Go.Proofs.YtfcgkjbifnhjjaaGreatDoor.St

namespace Go.Proofs.YtfcgkjbifnhjjaaGreatDoor.St
open Go.RowKit
set_option linter.unusedVariables false

/-- A new store, its view: nothing is in them. -/
theorem s_newV (w : World) : Calls Tryz.prog 5 #[.slice none 0 0] w fun e W => ∃ t d q, ∃ L : Lay, e = .returned (.pointer (some ⟨t, 0, none⟩)) ∧ Std w t L d q (csN 0) W :=
  (tnew_nil w).mono fun e W ⟨t, d, q, L, he, a, b, c, e', _, _, _, _, _, gr, gm⟩ => ⟨t, d, q, L, he, ⟨b, a, e', gr, gm⟩⟩

/-- The views behind the three inodes. -/
def trT (j : Nat) : Int := if j = 2 then 2 else 1
def trN : Nat → VSt
  | 0 => csN 0
  | n + 1 => iAlloc (trN n) (trT n)
theorem tr_free : ∀ j, j < 3 → iFree (trN j) = j + 1 := by
  intro j hj
  have : j = 0 ∨ j = 1 ∨ j = 2 := by omega
  rcases this with rfl | rfl | rfl <;> (show _ = (_ : Nat); kernel_rfl)
def T6 (E1 E2 : List Ent) (st : VSt) : Prop := DirAt st 1 E1 ∧ DirAt st 2 E2 ∧ Holds st 3 2 0 0 ByteArray.empty ∧ (∀ j : Int, 4 ≤ j → j < 16 → (st.get 10 j).n 0 = 0) ∧ (st.get 9 0).n 0 = 14
theorem tr_done : T6 [] [] (trN 3) := by
  have f0 := tr_free 0 (by decide)
  have f1 := tr_free 1 (by decide)
  have f2 := tr_free 2 (by decide)
  have a1 : DirAt (trN 1) 1 [] := by
    have := dirAt_new (trN 0) (by omega) (by omega)
    rw [f0] at this; exact this
  have a2 : DirAt (trN 2) 2 [] := by
    have := dirAt_new (trN 1) (by omega) (by omega)
    rw [f1] at this; exact this
  have b1 : DirAt (trN 2) 1 [] := dirAt_same a1 (alloc_get _ _ _ _ (by omega) (by rw [f1]; decide))
  have c1 : DirAt (trN 3) 1 [] := dirAt_same b1 (alloc_get _ _ _ _ (by omega) (by rw [f2]; decide))
  have c2 : DirAt (trN 3) 2 [] := dirAt_same a2 (alloc_get _ _ _ _ (by omega) (by rw [f2]; decide))
  have c3 : Holds (trN 3) 3 2 0 0 ByteArray.empty := by
    have := alloc_same (trN 2) 2 (by omega) (by omega)
    rw [f2] at this; exact this
  refine ⟨c1, c2, c3, fun j h1 h2 => ?_, by kernel_rfl⟩
  have : j = 4 ∨ j = 5 ∨ j = 6 ∨ j = 7 ∨ j = 8 ∨ j = 9 ∨ j = 10 ∨ j = 11 ∨ j = 12 ∨ j = 13 ∨ j = 14 ∨ j = 15 := by omega
  rcases this with rfl | rfl | rfl | rfl | rfl | rfl | rfl | rfl | rfl | rfl | rfl | rfl <;> (show _ = (0 : Int); kernel_rfl)

def TREE (st : VSt) : Prop := T6 (dirE 1 1 [(⟨#[97]⟩, 2)]) (dirE 2 1 [(⟨#[98]⟩, 3)]) st
theorem T6.same {E1 E2 : List Ent} {st st' : VSt} (H : T6 E1 E2 st) (h : ∀ k n, st'.get k n = st.get k n) : T6 E1 E2 st' :=
  ⟨dirAt_same H.1 (h _ _), dirAt_same H.2.1 (h _ _), by unfold Holds; rw [h]; exact H.2.2.1, fun j a b => by rw [h]; exact H.2.2.2.1 j a b, by rw [h]; exact H.2.2.2.2⟩
theorem let_a : isLet ⟨#[97]⟩ := ⟨0, by decide, by decide +kernel⟩
theorem let_b : isLet ⟨#[98]⟩ := ⟨1, by decide, by decide +kernel⟩
theorem TREE.gt {st : VSt} (H : TREE st) : GT st 3 (fun i => decide (i ≠ 3)) (fun i => if i = 1 then [(⟨#[97]⟩, 2)] else [(⟨#[98]⟩, 3)]) (fun _ => 1) := by
  obtain ⟨h1, h2, h3, h4, h5⟩ := H
  refine ⟨by decide, fun j a b => ?_, fun j a b => h4 j (by omega) b, by decide, fun j a b c => ?_, fun j a b c => ?_, fun j a b c e he => ?_⟩
  · rw [h5]
    have : j = 1 ∨ j = 2 ∨ j = 3 ∨ j = 4 ∨ j = 5 ∨ j = 6 ∨ j = 7 ∨ j = 8 ∨ j = 9 ∨ j = 10 ∨ j = 11 ∨ j = 12 ∨ j = 13 ∨ j = 14 ∨ j = 15 := by omega
    rcases this with rfl | rfl | rfl | rfl | rfl | rfl | rfl | rfl | rfl | rfl | rfl | rfl | rfl | rfl | rfl <;> (show _ = (_ : Bool); kernel_rfl)
  · have : j = 1 ∨ j = 2 ∨ j = 3 := by omega
    rcases this with rfl | rfl | rfl
    · exact ⟨h1, by decide, by decide, by decide⟩
    · exact ⟨h2, by decide, by decide, by decide⟩
    · simp at c
  · have : j = 1 ∨ j = 2 ∨ j = 3 := by omega
    rcases this with rfl | rfl | rfl
    · simp at c
    · simp at c
    · exact h3
  · have : j = 1 ∨ j = 2 ∨ j = 3 := by omega
    rcases this with rfl | rfl | rfl
    · simp at he; subst he
      exact ⟨let_a, by decide, by decide, fun _ => rfl⟩
    · simp at he; subst he
      exact ⟨let_b, by decide, by decide, fun q => by simp at q⟩
    · simp at c

section
variable {w W : World} {t : Nat} {L : Lay} {d q : Nat} {st : VSt}

theorem tr_alloc (j : Nat) (hj : j < 3) (S : Std w t L d q (trN j) W) : Calls Tryz.prog 99 #[.pointer (some ⟨L.v, 0, none⟩), .int .i64 (trT j)] W fun e W' => e = .returned (.tuple #[.int .i64 ((j : Int) + 1), .bool true]) ∧ Std w t L d q (trN (j + 1)) W' ∧ Maps L W W' := by
  have hf := tr_free j hj
  have h := s_alloc S (trT j)
  rw [show iGot (trN j) = (j : Int) + 1 by unfold iGot; rw [hf, if_pos (by omega)]; omega, hf, decide_eq_true (by omega : j + 1 < 16)] at h
  exact h
theorem t6_add1 {E1 E2 : List Ent} (hM : Mx w) (S : Std w t L d q st W) (H : T6 E1 E2 st) (s : ByteArray) (n : Int) (hs : s.size ≤ 1048576) :
    Calls Tryz.prog 100 #[.pointer (some ⟨L.v, 0, none⟩), .int .i64 1, .string s, .int .i64 n] W fun e W' => e = .returned (.bool (addB E1 s n)) ∧ ∃ st', T6 (addE E1 s n) E2 st' ∧ Std w t L d q st' W' := by
  obtain ⟨h1, h2, h3, h4, h5⟩ := H
  exact (d_add hM S h1 (by decide) (by decide) s n hs).mono fun e W' ⟨a, st', ⟨b, c⟩, S', _⟩ => ⟨a, st', ⟨b, dirAt_same h2 (c _ _ (by omega)), by unfold Holds; rw [c _ _ (by omega)]; exact h3, fun j x y => by rw [c _ _ (by omega)]; exact h4 j x y, by rw [c _ _ (by omega)]; exact h5⟩, S'⟩
theorem t6_add2 {E1 E2 : List Ent} (hM : Mx w) (S : Std w t L d q st W) (H : T6 E1 E2 st) (s : ByteArray) (n : Int) (hs : s.size ≤ 1048576) :
    Calls Tryz.prog 100 #[.pointer (some ⟨L.v, 0, none⟩), .int .i64 2, .string s, .int .i64 n] W fun e W' => e = .returned (.bool (addB E2 s n)) ∧ ∃ st', T6 E1 (addE E2 s n) st' ∧ Std w t L d q st' W' := by
  obtain ⟨h1, h2, h3, h4, h5⟩ := H
  exact (d_add hM S h2 (by decide) (by decide) s n hs).mono fun e W' ⟨a, st', ⟨b, c⟩, S', _⟩ => ⟨a, st', ⟨dirAt_same h1 (c _ _ (by omega)), b, by unfold Holds; rw [c _ _ (by omega)]; exact h3, fun j x y => by rw [c _ _ (by omega)]; exact h4 j x y, by rw [c _ _ (by omega)]; exact h5⟩, S'⟩
end

def e1a : List Ent := [(⟨#[46]⟩, 1)]
def e1b : List Ent := [(⟨#[46]⟩, 1), (⟨#[46, 46]⟩, 1)]
def e2a : List Ent := [(⟨#[46]⟩, 2)]
def e2b : List Ent := [(⟨#[46]⟩, 2), (⟨#[46, 46]⟩, 1)]
theorem tree1 : addB [] ⟨#[46]⟩ 1 = true ∧ addE [] ⟨#[46]⟩ 1 = e1a := by decide +kernel
theorem tree2 : addB e1a ⟨#[46, 46]⟩ 1 = true ∧ addE e1a ⟨#[46, 46]⟩ 1 = e1b := by decide +kernel
theorem tree3 : addB e1b ⟨#[97]⟩ 2 = true ∧ addE e1b ⟨#[97]⟩ 2 = dirE 1 1 [(⟨#[97]⟩, 2)] := by decide +kernel
theorem tree4 : addB [] ⟨#[46]⟩ 2 = true ∧ addE [] ⟨#[46]⟩ 2 = e2a := by decide +kernel
theorem tree5 : addB e2a ⟨#[46, 46]⟩ 1 = true ∧ addE e2a ⟨#[46, 46]⟩ 1 = e2b := by decide +kernel
theorem tree6 : addB e2b ⟨#[98]⟩ 3 = true ∧ addE e2b ⟨#[98]⟩ 3 = dirE 2 1 [(⟨#[98]⟩, 3)] := by decide +kernel

attribute [local irreducible] Int.lt Int.le csN trN
set_option maxRecDepth 100000 in
set_option maxHeartbeats 4000000 in
theorem tree_any (w : World) (hM : Mx w) : Calls Tryz.prog 67 #[] w fun e W => ∃ t d q, ∃ L : Lay, e = .returned (.pointer (some ⟨t, 0, none⟩)) ∧ ∃ st, TREE st ∧ Std w t L d q st W := by
  go_enter Tryz.func67, Tryz.ntmps67
  go_wp2_with fail
  refine (s_newV _).mono ?_; rintro e W1 ⟨t, d, q, L, rfl, S1⟩
  have S1' : Std w t L d q (trN 0) W1 := by unfold trN; exact S1
  go_wp2_with fail
  have hB := blk_alloc_at W1 (Obj.cells #[Value.int .i64 1, Value.int .i64 1, Value.int .i64 2] 3) _ rfl
  have S2 := S1'.below (Below.alloc (Below.refl W1.heap.size W1) (Nat.le_refl _) (Obj.cells #[Value.int .i64 1, Value.int .i64 1, Value.int .i64 2] 3))
  generalize W1.alloc (Obj.cells #[Value.int .i64 1, Value.int .i64 1, Value.int .i64 2] 3) = W2 at *
  generalize W1.heap.size = B at *
  clear S1 S1'
  go_loopw [12] (fun k wr => ∃ j : Nat, j ≤ 3 ∧ k = .int .i64 (j : Int) ∧ Std w t L d q (trN j) wr ∧ blk wr B = some (Obj.cells #[Value.int .i64 1, Value.int .i64 1, Value.int .i64 2] 3)) (fun k _ => 3 - (intOf k).toNat)
  case atStart => exact ⟨0, by omega, rfl, S2, hB⟩
  case round =>
    clear S2 hB
    obtain ⟨j, j1, rfl, S3, hB⟩ := hrel
    have c3 := S3.cell
    have b0 := cell_of_row wr B 0 _ _ _ hB
    have b1 := cell_of_row wr B 1 _ _ _ hB
    have b2 := cell_of_row wr B 2 _ _ _ hB
    simp at b0 b1 b2
    have hj : j = 0 ∨ j = 1 ∨ j = 2 ∨ j = 3 := by omega
    rcases hj with rfl | rfl | rfl | rfl
    case' inl =>
      have ha := tr_alloc 0 (by decide) S3
      rw [show trT 0 = 1 from rfl] at ha
    case' inr.inl =>
      have ha := tr_alloc 1 (by decide) S3
      rw [show trT 1 = 1 from rfl] at ha
    case' inr.inr.inl =>
      have ha := tr_alloc 2 (by decide) S3
      rw [show trT 2 = 2 from rfl] at ha
    case' inr.inr.inr =>
      have S4 : Std w t L d q (trN 3) wr := S3
      have H4 := tr_done
      generalize trN 3 = st4 at *
      have d1 := fun {W} {st} (S : Std w t L d q st W) (H : T6 [] [] st) => t6_add1 hM S H ⟨#[46]⟩ 1 (by decide)
      have d2 := fun {W} {st} (S : Std w t L d q st W) (H : T6 e1a [] st) => t6_add1 hM S H ⟨#[46, 46]⟩ 1 (by decide)
      have d3 := fun {W} {st} (S : Std w t L d q st W) (H : T6 e1b [] st) => t6_add1 hM S H ⟨#[97]⟩ 2 (by decide)
      have d4 := fun {W} {st} {E} (S : Std w t L d q st W) (H : T6 E [] st) => t6_add2 hM S H ⟨#[46]⟩ 2 (by decide)
      have d5 := fun {W} {st} {E} (S : Std w t L d q st W) (H : T6 E e2a st) => t6_add2 hM S H ⟨#[46, 46]⟩ 1 (by decide)
      have d6 := fun {W} {st} {E} (S : Std w t L d q st W) (H : T6 E e2b st) => t6_add2 hM S H ⟨#[98]⟩ 3 (by decide)
      simp only [tree1.1, tree1.2, tree2.1, tree2.2, tree3.1, tree3.2, tree4.1, tree4.2, tree5.1, tree5.2, tree6.1, tree6.2] at d1 d2 d3 d4 d5 d6
      clear S3 hB b0 b1 b2
      go_wp2_with fail
      refine (d1 S4 H4).mono ?_; rintro e W5 ⟨rfl, st5, H5, S5⟩
      have c5 := S5.cell
      clear S4 H4 c3 d1
      go_wp2_with fail
      refine (d2 S5 H5).mono ?_; rintro e W6 ⟨rfl, st6, H6, S6⟩
      have c6 := S6.cell
      clear S5 H5 c5 d2
      go_wp2_with fail
      refine (d3 S6 H6).mono ?_; rintro e W7 ⟨rfl, st7, H7, S7⟩
      have c7 := S7.cell
      clear S6 H6 c6 d3
      go_wp2_with fail
      refine (d4 S7 H7).mono ?_; rintro e W8 ⟨rfl, st8, H8, S8⟩
      have c8 := S8.cell
      clear S7 H7 c7 d4
      go_wp2_with fail
      refine (d5 S8 H8).mono ?_; rintro e W9 ⟨rfl, st9, H9, S9⟩
      have c9 := S9.cell
      clear S8 H8 c8 d5
      go_wp2_with fail
      refine (d6 S9 H9).mono ?_; rintro e Wa ⟨rfl, sta, Ha, Sa⟩
      clear S9 H9 c9 d6
      go_wp2_with fail
      go_ret
      exact ⟨t, d, q, L, rfl, sta, Ha, Sa⟩
    all_goals
      go_wp2_with fail
      refine ha.mono ?_; rintro e W5 ⟨rfl, S5, t5⟩
      have hB5 := S3.other t5 hB
      clear S3 hB b0 b1 b2 c3 ha t5
      go_wp2_with fail
      first
        | exact ⟨⟨1, by omega, rfl, S5, hB5⟩, by decide⟩
        | exact ⟨⟨2, by omega, rfl, S5, hB5⟩, by decide⟩
        | exact ⟨⟨3, by omega, rfl, S5, hB5⟩, by decide⟩
end Go.Proofs.YtfcgkjbifnhjjaaGreatDoor.St

namespace Go.Proofs.YtfcgkjbifnhjjaaGreatDoor.St
open Go.RowKit
set_option linter.unusedVariables false

theorem walk_step {st : VSt} {a n : Int} {s : ByteArray} {l : List ByteArray} (h : fndB (dEnts st a) s = true) (hn : fndN (dEnts st a) s = n) (hi : iHas st n = true) : walkE st a (s :: l) = walkE st n l := by
  rw [walkE, hn, if_pos ⟨h, hi⟩]
theorem walk_stop {st : VSt} {a : Int} {s : ByteArray} {l : List ByteArray} (h : fndB (dEnts st a) s = false) : walkE st a (s :: l) = none := by
  rw [walkE, if_neg (fun q => by rw [h] at q; exact absurd q.1 (by decide))]
theorem TREE.facts {st : VSt} (H : TREE st) : dEnts st 1 = dirE 1 1 [(⟨#[97]⟩, 2)] ∧ dEnts st 2 = dirE 2 1 [(⟨#[98]⟩, 3)] ∧ iHas st 1 = true ∧ iHas st 2 = true ∧ iHas st 3 = true ∧ (iVal st 2).n 0 = 1 :=
  ⟨(dirAt_val H.1 (by decide) (by decide)).2.2.2.1, (dirAt_val H.2.1 (by decide) (by decide)).2.2.2.1, H.gt.has_in (by decide) (by decide), H.gt.has_in (by decide) (by decide), H.gt.has_in (by decide) (by decide), (dirAt_val H.2.1 (by decide) (by decide)).1⟩
theorem s1 : splOk [47, 97, 47, 98] = true ∧ splB [47, 97, 47, 98] = true ∧ splN [47, 97, 47, 98] = [⟨#[97]⟩, ⟨#[98]⟩] := by decide +kernel
theorem s2 : splOk [98] = true ∧ splB [98] = false ∧ splN [98] = [⟨#[98]⟩] := by decide +kernel
theorem s3 : splOk [47, 97, 47, 99] = true ∧ splB [47, 97, 47, 99] = true ∧ splN [47, 97, 47, 99] = [⟨#[97]⟩, ⟨#[99]⟩] := by decide +kernel
theorem s4 : splOk [47] = true ∧ splB [47] = true ∧ splN [47] = [] := by decide +kernel
theorem f1 : fndB (dirE 1 1 [(⟨#[97]⟩, 2)]) ⟨#[97]⟩ = true ∧ fndN (dirE 1 1 [(⟨#[97]⟩, 2)]) ⟨#[97]⟩ = 2 := by decide +kernel
theorem f2 : fndB (dirE 2 1 [(⟨#[98]⟩, 3)]) ⟨#[98]⟩ = true ∧ fndN (dirE 2 1 [(⟨#[98]⟩, 3)]) ⟨#[98]⟩ = 3 := by decide +kernel
theorem f3 : fndB (dirE 2 1 [(⟨#[98]⟩, 3)]) ⟨#[99]⟩ = false := by decide +kernel

section
variable {st : VSt}
theorem r1 (H : TREE st) : pWalk st 1 ⟨#[47, 97, 47, 98]⟩ = some 3 := by
  obtain ⟨e1, e2, h1, h2, h3, _⟩ := H.facts
  unfold pWalk
  rw [show (ByteArray.mk #[47, 97, 47, 98]).data.toList = [47, 97, 47, 98] from rfl, s1.1, s1.2.1, s1.2.2, if_pos rfl, if_pos rfl]
  unfold walkO
  rw [h1, if_pos rfl, walk_step (by rw [e1]; exact f1.1) (by rw [e1]; exact f1.2) h2, walk_step (by rw [e2]; exact f2.1) (by rw [e2]; exact f2.2) h3]; rfl
theorem r2 (H : TREE st) : pWalk st 2 ⟨#[98]⟩ = some 3 := by
  obtain ⟨e1, e2, h1, h2, h3, _⟩ := H.facts
  unfold pWalk
  rw [show (ByteArray.mk #[98]).data.toList = [98] from rfl, s2.1, s2.2.1, s2.2.2, if_pos rfl, if_neg (by decide)]
  unfold walkO
  rw [h2, if_pos rfl, walk_step (by rw [e2]; exact f2.1) (by rw [e2]; exact f2.2) h3]; rfl
theorem r3 (H : TREE st) : pPar st 1 ⟨#[47, 97, 47, 99]⟩ = some (2, ⟨#[99]⟩) := by
  obtain ⟨e1, e2, h1, h2, h3, h4⟩ := H.facts
  unfold pPar
  rw [show (ByteArray.mk #[47, 97, 47, 99]).data.toList = [47, 97, 47, 99] from rfl, s3.1, s3.2.1, s3.2.2, if_pos rfl, if_pos rfl]
  have hw : walkO st 1 [⟨#[97]⟩] = some 2 := by
    unfold walkO
    rw [h1, if_pos rfl, walk_step (by rw [e1]; exact f1.1) (by rw [e1]; exact f1.2) h2]; rfl
  unfold pParE
  show (match walkO st 1 [⟨#[97]⟩] with | none => none | some y => if (iVal st y).n 0 = 1 then some (y, (⟨#[99]⟩ : ByteArray)) else none) = _
  rw [hw]
  show (if (iVal st 2).n 0 = 1 then some ((2 : Int), (⟨#[99]⟩ : ByteArray)) else none) = _
  rw [h4, if_pos rfl]
theorem r4 (H : TREE st) : pWalk st 1 ⟨#[47, 97, 47, 99]⟩ = none := by
  obtain ⟨e1, e2, h1, h2, h3, _⟩ := H.facts
  unfold pWalk
  rw [show (ByteArray.mk #[47, 97, 47, 99]).data.toList = [47, 97, 47, 99] from rfl, s3.1, s3.2.1, s3.2.2, if_pos rfl, if_pos rfl]
  unfold walkO
  rw [h1, if_pos rfl, walk_step (by rw [e1]; exact f1.1) (by rw [e1]; exact f1.2) h2, walk_stop (by rw [e2]; exact f3)]
theorem r5 : pPar st 1 ⟨#[47]⟩ = none := by
  unfold pPar
  rw [show (ByteArray.mk #[47]).data.toList = [47] from rfl, s4.1, s4.2.1, s4.2.2, if_pos rfl, if_pos rfl]; rfl
end
section
variable {w W : World} {t : Nat} {L : Lay} {d q : Nat} {st : VSt}
theorem q_walk (hM : Mx w) (S : Std w t L d q st W) (H : TREE st) (i : Int) (s : ByteArray) (hs : s.size ≤ 500000) : Calls Tryz.prog 17 #[.pointer (some ⟨L.v, 0, none⟩), .int .i64 i, .string s] W fun e W' => e = .returned (.tuple #[.int .i64 ((pWalk st i s).getD 0), .bool (pWalk st i s).isSome]) ∧ ∃ st', TREE st' ∧ Std w t L d q st' W' :=
  (s_Walk hM S H.gt.sm i s hs).mono fun e W' ⟨a, b, _⟩ => ⟨a, _, H.same (fun k n => pWalkV_get _ _ _ _ _), b⟩
theorem q_par (hM : Mx w) (S : Std w t L d q st W) (H : TREE st) (i : Int) (s : ByteArray) (hs : s.size ≤ 500000) : Calls Tryz.prog 20 #[.pointer (some ⟨L.v, 0, none⟩), .int .i64 i, .string s] W fun e W' => e = .returned (.tuple #[.int .i64 ((pPar st i s).getD (0, ⟨#[]⟩)).1, .string ((pPar st i s).getD (0, ⟨#[]⟩)).2, .bool (pPar st i s).isSome]) ∧ ∃ st', TREE st' ∧ Std w t L d q st' W' :=
  (s_Parent hM S H.gt.sm i s hs).mono fun e W' ⟨a, b, _⟩ => ⟨a, _, H.same (fun k n => pParV_get _ _ _ _ _), b⟩
end

attribute [local irreducible] Int.lt Int.le csN trN
set_option maxRecDepth 100000 in
set_option maxHeartbeats 4000000 in
theorem pathRuns_any (w : World) (hM : Mx w) : Calls Tryz.prog 23 #[] w fun e w' => e = .returned (.bool true) ∧ Below w.heap.size w w' := by
  have b1 := fun {W t L d q st} (S : Std w t L d q st W) (H : TREE st) => q_walk hM S H 1 ⟨#[47, 97, 47, 98]⟩ (by decide)
  have b2 := fun {W t L d q st} (S : Std w t L d q st W) (H : TREE st) => q_walk hM S H 2 ⟨#[98]⟩ (by decide)
  have b3 := fun {W t L d q st} (S : Std w t L d q st W) (H : TREE st) => q_par hM S H 1 ⟨#[47, 97, 47, 99]⟩ (by decide)
  have b4 := fun {W t L d q st} (S : Std w t L d q st W) (H : TREE st) => q_walk hM S H 1 ⟨#[47, 97, 47, 99]⟩ (by decide)
  have b5 := fun {W t L d q st} (S : Std w t L d q st W) (H : TREE st) => q_par hM S H 1 ⟨#[47]⟩ (by decide)
  go_enter Tryz.func23, Tryz.ntmps23
  go_wp2_with fail
  refine (tree_any _ hM).mono ?_; rintro e W1 ⟨t, d, q, L, rfl, st1, H1, S1⟩
  have c1 := S1.cell
  have b1' := b1 S1 H1
  rw [r1 H1] at b1'
  simp only [Option.getD_some, Option.isSome_some] at b1'
  clear b1
  go_wp2_with fail
  refine b1'.mono ?_; rintro e W2 ⟨rfl, st2, H2, S2⟩
  have c2 := S2.cell
  have b2' := b2 S2 H2
  rw [r2 H2] at b2'
  simp only [Option.getD_some, Option.isSome_some] at b2'
  clear b2 b1' S1 H1 c1
  go_wp2_with fail
  refine b2'.mono ?_; rintro e W3 ⟨rfl, st3, H3, S3⟩
  have c3 := S3.cell
  have b3' := b3 S3 H3
  rw [r3 H3] at b3'
  simp only [Option.getD_some, Option.isSome_some] at b3'
  clear b3 b2' S2 H2 c2
  go_wp2_with fail
  refine b3'.mono ?_; rintro e W4 ⟨rfl, st4, H4, S4⟩
  have c4 := S4.cell
  have b4' := b4 S4 H4
  rw [r4 H4] at b4'
  simp only [Option.getD_none, Option.isSome_none] at b4'
  clear b4 b3' S3 H3 c3
  go_wp2_with fail
  refine b4'.mono ?_; rintro e W5 ⟨rfl, st5, H5, S5⟩
  have c5 := S5.cell
  have b5' := b5 S5 H5
  rw [r5] at b5'
  simp only [Option.getD_none, Option.isSome_none] at b5'
  clear b5 b4' S4 H4 c4
  go_wp2_with fail
  refine b5'.mono ?_; rintro e W6 ⟨rfl, st6, H6, S6⟩
  clear b5' S5 H5 c5
  go_wp2_with fail
  go_ret
  exact ⟨rfl, S6.b⟩
theorem pathRuns_walk (w : World) (hM : Mx w) : Calls Tryz.prog 23 #[] w fun e w' => e = .returned (.bool true) ∧ Below w.heap.size w w' := pathRuns_any w hM
end Go.Proofs.YtfcgkjbifnhjjaaGreatDoor.St
