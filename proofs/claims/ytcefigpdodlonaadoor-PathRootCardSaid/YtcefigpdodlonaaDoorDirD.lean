/- The contracts of package dir: Names, Bare. No condition but those written in each statement. -/
import Derived.Test.YtcefigpdodlonaaDoorDirC
namespace Go.Proofs.YtcefigpdodlonaaDoor.St
open Go.RowKit
set_option linter.unusedVariables false

theorem namesE_len (es : List Ent) : (namesE es).length ≤ es.length := by unfold namesE; rw [List.length_map]; exact List.length_filter_le _ _

section
variable {w W : World} {t : Nat} {L : Lay} {d q : Nat} {st : VSt}

attribute [local irreducible] Int.lt Int.le
set_option maxRecDepth 100000 in
set_option maxHeartbeats 4000000 in
theorem s_names (hM : Mx w) (S : Std w t L d q st W) (i : Int) (hz : ((iVal st i).s.size : Int) ≤ 140737488351232) :
    Calls Tryd.prog 20 #[.pointer (some ⟨L.v, 0, none⟩), .int .i64 i] W fun e W' => ∃ v, e = .returned v ∧ TL W.heap.size W' v (namesE (dEnts st i)) ∧ Std w t L d q (iSaw st i) W' ∧ Maps L W W' := by
  have h1 := s_entries hM S i hz
  have hl := dEnts_len st i
  obtain ⟨i0, hi, hz0, hz1, hz2⟩ := info_parts info_str
  generalize dEnts st i = es at *
  go_enter Tryd.func20, Tryd.ntmps20
  go_wp2_with fail
  refine h1.mono ?_; rintro e W1 ⟨v, rfl, own, S1, t1⟩
  obtain ⟨a, c, rfl, er, _⟩ := own.er
  have bW := t1.size
  have T1 := Lib.hid t1
  clear h1 own hz S hM t1
  go_wp2_with fail
  go_loopw [5, 12] (fun out i wr => ∃ j : Nat, j ≤ es.length ∧ i = .int .i64 (j : Int) ∧ TL W1.heap.size wr out (namesE (es.take j)) ∧ Below W1.heap.size W1 wr) (fun _ i _ => es.length - (intOf i).toNat)
  case atStart => exact ⟨0, Nat.zero_le _, rfl, TL.nil _ _, Below.refl _ _⟩
  case round =>
    obtain ⟨j, hj, rfl, own, hb⟩ := hrel
    have bw := hb.size
    by_cases hlt : j < es.length
    · have l1 : (j : Int) < (es.length : Int) := by omega
      have l0 : (0 : Int) ≤ (j : Int) := by omega
      obtain ⟨x, rfl, x0, x1⟩ := (er.below hb) j hlt
      have ht := fun W => there_any es[j].1 es[j].2 W
      rw [show (es[j].1, es[j].2) = es[j] from rfl] at ht
      have e2 := namesE_take es j hlt
      have nl : (namesE (es.take j)).length ≤ 8 := Nat.le_trans (namesE_len _) (by simp; omega)
      cases hv : thereE es[j] with
      | false =>
        rw [hv] at ht e2
        rw [if_neg (by simp), List.append_nil] at e2
        have own2 := own
        rw [← e2] at own2
        have O := Lib.hid own2
        clear own own2 e2 er hv
        generalize es[j] = E at *
        go_wp2_with fail
        refine (ht _).mono ?_; rintro e W2 ⟨rfl, t2⟩
        have tb := (after1 t2).2.2
        go_wp2_with fail
        exact ⟨⟨j + 1, by omega, by go_num, O.out.below tb, hb.trans (tb.mono bw)⟩, by simp [intOf]; omega⟩
      | true =>
        rw [hv] at ht e2
        rw [if_pos rfl] at e2
        have E2 := Lib.hid e2
        clear e2 er hv
        generalize es[j] = E at *
        generalize namesE (es.take j) = done at *
        go_wp2_with fail
        refine (ht _).mono ?_; rintro e W2 ⟨rfl, t2⟩
        obtain ⟨b0, s0, tb⟩ := after1 t2
        have c0 := cell_of_row W2 wr.heap.size 0 _ _ _ b0
        simp at c0
        have own2 := own.below tb
        have hb2 := hb.trans (tb.mono bw)
        have b2 := hb2.size
        have O := own2
        unfold TL at O
        clear own hb tb t2 b0 ht x0 x1
        go_wp2_with (first
          | (at_builtin; refine wpList_append_own _ rfl _ _ 46 rfl W1.heap.size 9 i0 (.string ByteArray.empty) 1 16 Tryd.underlying46 hi hz0 hz1 hz2 rfl (by decide) _ _ _ rfl (World.ownsRow.alloc O _) ⟨_, 0, none⟩ 1 1 [.string E.1] rfl rfl ?c1 ?c2 ?c3 ?c4 ?c5 ?_)
          | fail)
        case c1 =>
          intro j u hj
          match j, hj with
          | 0, hj => simp at hj; subst hj; simp [Addr.add]
        case c2 => intro u hu; simp at hu; subst hu; rfl
        case c3 => unfold maxLen; omega
        case c4 => omega
        case c5 => simp; omega
        intro v' W6 hown' hgrow _
        have RR := tl_push b2 own2 hown' hgrow
        rw [← E2.out] at RR
        have O6 := Lib.hid RR.1
        have b6 := hb2.trans RR.2
        clear hown' hgrow O own2 RR E2 hb2 c0
        go_wp2_with fail
        exact ⟨⟨j + 1, by omega, by go_num, O6.out, b6⟩, by simp [intOf]; omega⟩
    · obtain rfl : j = es.length := by omega
      rw [List.take_length] at own
      have S3 := S1.below hb
      have T3 : Maps L W wr := T1.out.trans (Turn.of_below hb _)
      clear er hb S1 T1
      go_wp2_with fail
      go_ret
      exact ⟨_, rfl, own.mono bW, S3, T3⟩

end
end Go.Proofs.YtcefigpdodlonaaDoor.St
