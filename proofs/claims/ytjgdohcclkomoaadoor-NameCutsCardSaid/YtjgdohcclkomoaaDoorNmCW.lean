/- NameCuts: no name that Split tells has a slash or a nought, or is too long. No condition but those written in the statement. -/
import Derived.Test.YtjgdohcclkomoaaDoorDoorKit
import Derived.Test.YtjgdohcclkomoaaDoorWithin
import Derived.Laws.IdiomStrings
namespace Go.Proofs.YtjgdohcclkomoaaDoor.St
open Go.RowKit Go.Proofs.YtjgdohcclkomoaaDoor.Fp
set_option linter.unusedVariables false

theorem pcs_total : ∀ l : List UInt8, ((pcs l).map List.length).sum + l.count 47 = l.length
  | [] => rfl
  | c :: t => by
    have ih := pcs_total t
    by_cases h : c = 47
    · subst h; rw [pcs_slash]; simp; omega
    · rw [pcs, if_neg h, List.count_cons_of_ne (by simpa using h)]
      cases hp : pcs t with
      | nil => exact absurd hp (pcs_ne t)
      | cons p r => rw [hp] at ih; simp at ih ⊢; omega
theorem nePcs_total : ∀ ps : List (List UInt8), ((nePcs ps).map List.length).sum = (ps.map List.length).sum
  | [] => rfl
  | p :: r => by
    rw [nePcs_cons, List.map_append, List.sum_append, nePcs_total r]
    by_cases h : p = []
    · rw [if_pos h, h]; simp
    · rw [if_neg h]; simp
theorem namesL_total (l : List UInt8) : ((namesL l).map List.length).sum + l.count 47 = l.length := by
  unfold namesL; rw [nePcs_total]; exact pcs_total l
/-- A row of bytes. -/
def BR (W : World) (G : Nat) (l : List UInt8) : Prop := ∀ j (h : j < l.length), W.cell? ⟨G, j, none⟩ = some (.int .u8 (l[j].toNat : Int))
theorem BR.below {B : Nat} {W W' : World} {G : Nat} {l : List UInt8} (h : BR W G l) (hG : G < B) (hb : Below B W W') : BR W' G l := fun j hj => (hb.cell (p := ⟨G, j, none⟩) hG).trans (h j hj)
theorem BR.set {W : World} {G : Nat} {l : List UInt8} (h : BR W G l) (k : Nat) (x : UInt8) : BR (W.setCell ⟨G, k, none⟩ (.int .u8 (x.toNat : Int))) G (l.set k x) := fun j hj => by
  have hj2 : j < l.length := by simpa using hj
  by_cases e : k = j
  · subst e
    rw [World.cell?_setCell_same _ _ _ (h k hj2)]
    simp
  · rw [World.cell?_setCell_other _ _ _ _ (fun q => e (by cases q; rfl)), h j hj2]
    simp [List.getElem_set_ne e]
theorem sum_take (ps : List (List UInt8)) (j : Nat) (h : j < ps.length) : ((ps.take (j + 1)).map List.length).sum = ((ps.take j).map List.length).sum + ps[j].length := by
  rw [List.take_succ_eq_append_getElem h, List.map_append, List.sum_append]; simp
theorem count_take (l : List UInt8) (j : Nat) (h : j < l.length) : (l.take (j + 1)).count 47 = (l.take j).count 47 + (if l[j] = 47 then 1 else 0) := by
  rw [List.take_succ_eq_append_getElem h, List.count_append]
  by_cases e : l[j] = 47
  · rw [if_pos e, e]; simp
  · rw [if_neg e, List.count_singleton]; simp [e]
theorem sum_take_le (ps : List (List UInt8)) : ∀ j, ((ps.take j).map List.length).sum ≤ (ps.map List.length).sum := fun j => by
  conv => rhs; rw [← List.take_append_drop j ps]
  rw [List.map_append, List.sum_append]; omega

theorem u8_wf {a : Int} (h : (Lit.int .u8 a).wf = true) : 0 ≤ a ∧ a < 256 := by
  simp [Lit.wf, IntKind.min, IntKind.max, IntKind.bits, IntKind.signed] at h
  omega

theorem right_parts2 {l : List UInt8} (h : rightL l = true) : l.length ≤ 14 := by
  unfold rightL at h
  simp at h
  exact h.1.1.2

attribute [local irreducible] Int.lt Int.le
set_option maxRecDepth 100000 in
set_option maxHeartbeats 4000000 in
theorem nameCuts_walk (a0 : ByteArray) (a1 a2 : Int) (w : World) (w0 : a0.size ≤ maxLen) (w1 : (Lit.int .i64 a1).wf = true) (w2 : (Lit.int .u8 a2).wf = true) (hM : Mx w) :
    Calls Tryd.prog 7 #[.string a0, .int .i64 a1, .int .u8 a2] w fun e w' => e = .returned (.bool true) ∧ Below w.heap.size w w' := by
  obtain ⟨s, hs⟩ : ∃ s, s = a0.extract 0 (min (a0.size : Int) 64).toNat := ⟨_, rfl⟩
  have hsz : s.size ≤ 64 := by rw [hs, ByteArray.size_extract]; omega
  have hcv := fun W => run_bytes_of_string (P := Tryd.prog) W 9 35 5 (a0.extract 0 (min (a0.size : Int) 64).toNat) Tryd.underlying9 Tryd.underlying35 Tryd.underlying5
  have hw2 := u8_wf w2
  obtain ⟨xb, hxb⟩ : ∃ xb : UInt8, (xb.toNat : Int) = a2 := ⟨UInt8.ofNat a2.toNat, by
    show ((a2.toNat % 256 : Nat) : Int) = a2
    omega⟩
  subst hxb
  go_enter Tryd.func7, Tryd.ntmps7
  go_upto_region 2 with fail
  clear hcv
  have hn : min (min (a0.size : Int) 64).toNat a0.size = s.size := by rw [hs, ByteArray.size_extract]; omega
  rw [hn, ← hs]
  generalize grownCap w s.size 0 5 = C
  have b1 : Below w.heap.size w (w.alloc (.cells (bytesRow s C) 5 ((bytesRow s C).size, (bytesRow s C).size + 1))).drew := ((Below.refl _ _).alloc (Nat.le_refl _) _).drew
  have r1 : BR (w.alloc (.cells (bytesRow s C) 5 ((bytesRow s C).size, (bytesRow s C).size + 1))).drew w.heap.size s.data.toList := by
    intro j hj
    have hj2 : j < s.data.size := by simpa using hj
    show (w.alloc (.cells (bytesRow s C) 5 ((bytesRow s C).size, (bytesRow s C).size + 1))).cell? ⟨w.heap.size, j, none⟩ = _
    rw [World.cell?_alloc_mark, bytesRow_at s C j hj2]
    rfl
  have f1 : ∀ j : Nat, j < s.size → (w.alloc (.cells (bytesRow s C) 5 ((bytesRow s C).size, (bytesRow s C).size + 1))).drew.frozen? ⟨w.heap.size, j, none⟩ = false := by
    intro j hj
    show (w.alloc (.cells (bytesRow s C) 5 ((bytesRow s C).size, (bytesRow s C).size + 1))).frozen? ⟨w.heap.size, j, none⟩ = _
    rw [World.frozen?_alloc_mark, decide_eq_false (by unfold bytesRow; simp; have : s.data.size = s.size := rfl; omega), Bool.false_and]
  have z1 : w.heap.size < (w.alloc (.cells (bytesRow s C) 5 ((bytesRow s C).size, (bytesRow s C).size + 1))).drew.heap.size := by
    show w.heap.size < (w.heap.push _).size
    rw [Array.size_push]; omega
  generalize (w.alloc (.cells (bytesRow s C) 5 ((bytesRow s C).size, (bytesRow s C).size + 1))).drew = W1 at *
  have hl := size_list s
  have m1 := hM.below (Nat.le_refl _) b1
  generalize hG : w.heap.size = G at *
  have HG := Lib.hid hG
  have Hl := Lib.hid hl
  clear hG hl hs hn w0 w1 w2 hw2
  by_cases h0 : s.size = 0
  case' pos =>
    have q0 : (s.size : Int) = 0 := by omega
    go_upto_region 4 with fail
    obtain ⟨W2, hW2⟩ : ∃ W2, W2 = W1 := ⟨_, rfl⟩
    obtain ⟨L, hL⟩ : ∃ L, L = s.data.toList := ⟨_, rfl⟩
    have r2 : BR W2 G L := by rw [hW2, hL]; exact r1
    have b2 : Below G w W2 := by rw [hW2]; exact b1
    have z2 : G < W2.heap.size := by rw [hW2]; exact z1
    have m2 : Mx W2 := by rw [hW2]; exact m1
    have l2 : L.length = s.size := by rw [hL, Hl.out]
    rw [← hW2]
    clear hW2 hL r1 b1 z1 m1 f1 q0 h0
  case' neg =>
    have q0 : (0 : Int) < (s.size : Int) := by omega
    have q00 : 0 < s.size := by omega
    have hwb := within_bounds a1 0 ((s.size : Int) - 1) (by omega)
    have hwi := fun W => within_any a1 0 ((s.size : Int) - 1) (by omega) (by omega) (by omega) W
    obtain ⟨k, hk⟩ := Int.eq_ofNat_of_zero_le hwb.1
    rw [hk] at hwi hwb
    have k1 : k < s.size := by omega
    have k2 : (k : Int) < (s.size : Int) := by omega
    have k0 : (0 : Int) ≤ (k : Int) := by omega
    have kc := r1 k (by rw [Hl.out]; exact k1)
    have kf := f1 k k1
    clear hk hwb f1
    go_wp2_with fail
    refine (hwi _).mono ?_; rintro e W1' ⟨rfl, rfl⟩
    clear hwi
    go_upto_region 4 with fail
    obtain ⟨W2, hW2⟩ : ∃ W2, W2 = W1.setCell ⟨G, k, none⟩ (.int .u8 (xb.toNat : Int)) := ⟨_, rfl⟩
    obtain ⟨L, hL⟩ : ∃ L, L = s.data.toList.set k xb := ⟨_, rfl⟩
    have r2 : BR W2 G L := by rw [hW2, hL]; exact r1.set k xb
    have b2 : Below G w W2 := by rw [hW2]; exact b1.setCell (p := ⟨G, k, none⟩) (Nat.le_refl _) _
    have z2 : G < W2.heap.size := by rw [hW2]; simpa using z1
    have m2 : Mx W2 := hM.below (B := G) (by rw [HG.out]; exact Nat.le_refl _) b2
    have l2 : L.length = s.size := by rw [hL, List.length_set, Hl.out]
    rw [← hW2]
    clear hW2 hL r1 b1 z1 m1 kc kf q0 q00 k0 k1 k2 h0
  all_goals
    have hback := run_convert_bytes_back (P := Tryd.prog) W2 35 9 5 ⟨G, 0, none⟩ C L Tryd.underlying35 Tryd.underlying5 Tryd.underlying9 (fun j hj => by
      have e : (⟨G, 0, none⟩ : Addr).add j = ⟨G, j, none⟩ := by unfold Addr.add; split <;> simp_all
      rw [e]; exact r2 j hj)
    rw [l2] at hback
    have hsp := split_any (bs L) W2 m2 (by rw [bs_size]; omega)
    rw [list_bs] at hsp
    have hback2 : (convert 35 9 (.slice (some ⟨G, 0, none⟩) s.size C)).run Tryd.prog W2 = .ok (.string (bs L)) W2 := hback
    clear hback
    have HSP := Lib.hid hsp
    clear hsp
    go_wp2_with fail
    refine HSP.out.mono ?_; rintro e W3 ⟨v, rfl, L3, t3⟩
    have m3 := m2.below (Nat.le_refl _) t3
    have b3 := b2.trans (t3.mono (Nat.le_of_lt z2))
    have r3 := r2.below z2 t3
    clear HSP hback2 t3 m2 b2 r2
    cases hk : splOk L with
    | false =>
      have e1 : splB L = false := by unfold splB; rw [hk]; rfl
      have e2 : splN L = [] := by unfold splN; rw [hk]; rfl
      rw [e2] at L3
      rw [e1]
      obtain ⟨x3, c3, hv, _, _⟩ := L3.tr
      have hv2 : v = .slice x3 0 c3 := hv
      subst hv2
      clear e1 e2 L3 hv hk r3
      go_wp2_with fail
      refine (nameRuns_any W3 m3).mono ?_; rintro e W4 ⟨rfl, t4⟩
      have b4 := b3.trans (t4.mono (by have := b3.size; rw [HG.out] at this; omega))
      rw [← HG.out] at b4
      go_wp2_with fail
      go_ret
      exact ⟨rfl, b4⟩
    | true =>
      have e2 : splN L = (namesL L).map bs := by unfold splN; rw [hk]; rfl
      have hne : 0 < L.length := by
        cases hc : L with
        | nil => rw [hc] at hk; exact absurd hk (by decide)
        | cons a t => simp
      have hs0 : 0 < s.size := by omega
      have hs1 : (0 : Int) < (s.size : Int) := by omega
      have e1 : splB L = ((L[0].toNat : Int) == 47) := by
        unfold splB
        rw [hk, List.head?_eq_getElem?, List.getElem?_eq_getElem hne]
        by_cases q : L[0] = 47
        · rw [q]; rfl
        · rw [byte47 q]
          show (some L[0] == some 47) = false
          exact beq_eq_false_iff_ne.2 (fun e => q (Option.some.inj e))
      have hall : ∀ p ∈ namesL L, rightL p = true := by
        unfold splOk at hk
        simp at hk
        exact hk.2
      have htot := namesL_total L
      rw [e1]
      rw [e2] at L3
      obtain ⟨N, hN⟩ : ∃ N, N = namesL L := ⟨_, rfl⟩
      rw [← hN] at hall htot L3
      obtain ⟨x3, c3, hv, tr, _⟩ := L3.tr
      rw [List.length_map] at hv
      subst hv
      have hNl : N.length ≤ 65 := by rw [hN]; have := namesL_len L; omega
      have cell0 := r3 0 hne
      have byte0v : ∃ B0 : Int, B0 = (L[0].toNat : Int) := ⟨_, rfl⟩
      obtain ⟨B0, hB0⟩ := byte0v
      rw [← hB0] at cell0 ⊢
      have Htot := Lib.hid htot
      have Hall := Lib.hid hall
      have L2 := Lib.hid l2
      have R3 := Lib.hid r3
      have TRN := Lib.hid tr
      clear e1 e2 hN htot hall L3 tr hk l2 r3 hB0
      go_wp2_with fail
      go_loopw [11, 55] (fun sm i wr => ∃ j : Nat, j ≤ N.length ∧ i = .int .i64 (j : Int) ∧ sm = .int .i64 ((((N.take j).map List.length).sum : Nat) : Int) ∧ wr = W3) (fun _ i _ => N.length - (intOf i).toNat)
      case atStart => exact ⟨0, Nat.zero_le _, rfl, rfl, rfl⟩
      case round =>
        obtain ⟨j, hj, rfl, rfl, rfl⟩ := hrel
        by_cases hlt : j < N.length
        · have q1 : (j : Int) < (N.length : Int) := by omega
          have q2 : (0 : Int) ≤ (j : Int) := by omega
          obtain ⟨x, rfl, xc⟩ := TRN.out j (by simpa using hlt)
          rw [List.getElem_map] at xc
          have hrt := Hall.out _ (List.getElem_mem hlt)
          have hpl : N[j].length ≤ 14 := (right_parts2 hrt)
          have hst := sum_take N j hlt
          have hle := sum_take_le N (j + 1)
          have htt := Htot.out
          have hLL := L2.out
          have c1 := right_any (bs N[j]) wr (by rw [bs_size]; omega)
          rw [list_bs, hrt] at c1
          have hps : (bs N[j]).size = N[j].length := bs_size _
          have hpz : ((bs N[j]).size : Int) ≤ 14 := by omega
          have hse : (((N.take (j + 1)).map List.length).sum : Nat) = ((N.take j).map List.length).sum + (bs N[j]).size := by omega
          have hb64 : (((N.take j).map List.length).sum : Nat) + (bs N[j]).size ≤ 64 := by omega
          have Hse := Lib.hid hse
          clear hst hle htt hLL hrt hpl hps hse
          generalize bs N[j] = P at *
          generalize hS0 : ((N.take j).map List.length).sum = S0 at *
          have HS0 := Lib.hid hS0
          clear hS0
          have q3 : (0 : Int) ≤ (S0 : Int) := by omega
          have q4 : (S0 : Int) + (P.size : Int) ≤ 64 := by omega
          go_wp2_with fail
          refine c1.mono ?_; rintro e W9 ⟨rfl, rfl⟩
          go_wp2_with fail
          exact ⟨⟨j + 1, by omega, by go_num, by rw [Hse.out]; go_num, trivial⟩, by simp [intOf]; omega⟩
        · obtain rfl : j = N.length := by omega
          rw [List.take_length]
          generalize hS0 : (N.map List.length).sum = S0 at *
          have HS0 := Lib.hid hS0
          clear hS0
          have htt := Htot.out
          have hLL := L2.out
          have q5 : (S0 : Int) ≤ 64 := by have := HS0.out; omega
          have q6 : (0 : Int) ≤ (S0 : Int) := by omega
          clear htt hLL
          go_wp2_with fail
          go_loopw [14, 74] (fun sl i wx => ∃ j : Nat, j ≤ s.size ∧ i = .int .i64 (j : Int) ∧ sl = .int .i64 (((L.take j).count 47 : Nat) : Int) ∧ wx = wr) (fun _ i _ => s.size - (intOf i).toNat)
          case atStart => exact ⟨0, Nat.zero_le _, rfl, rfl, rfl⟩
          case round =>
            obtain ⟨j, hj, rfl, rfl, rfl⟩ := hrel
            by_cases hlt : j < s.size
            · have q1 : (j : Int) < (s.size : Int) := by omega
              have q2 : (0 : Int) ≤ (j : Int) := by omega
              have hjl : j < L.length := by rw [L2.out]; exact hlt
              have xc := R3.out j hjl
              have hct := count_take L j hjl
              have hcl : (L.take j).count 47 ≤ j := Nat.le_trans List.count_le_length (by simp; omega)
              generalize hC0 : (L.take j).count 47 = C0 at *
              have HC0 := Lib.hid hC0
              have q3 : (0 : Int) ≤ (C0 : Int) := by omega
              have q4 : (C0 : Int) + 1 ≤ 65 := by omega
              clear hC0 hcl
              by_cases e : L[j] = 47
              · rw [if_pos e] at hct
                have e1 : ((L[j].toNat : Int) == 47) = true := by rw [e]; rfl
                have e1' : (L[j].toNat : Int) = 47 := by rw [e]; rfl
                have Hct := Lib.hid hct
                clear hct e
                generalize (L[j].toNat : Int) = Y at *
                go_wp2_with fail
                exact ⟨⟨j + 1, by omega, by go_num, by rw [Hct.out]; go_num, trivial⟩, by simp [intOf]; omega⟩
              · rw [if_neg e, Nat.add_zero] at hct
                have e1 := byte47 e
                have e1' := byte47' e
                have Hct := Lib.hid hct
                clear hct e
                generalize (L[j].toNat : Int) = Y at *
                go_wp2_with fail
                exact ⟨⟨j + 1, by omega, by go_num, by rw [Hct.out]; rfl, trivial⟩, by simp [intOf]; omega⟩
            · obtain rfl : j = s.size := by omega
              have hfull : L.take s.size = L := by rw [← L2.out]; exact List.take_length
              rw [hfull]
              have htt := Htot.out
              have hLL := L2.out
              have hS := HS0.out
              generalize hC0 : L.count 47 = C0 at *
              have q7 : (S0 : Int) + (C0 : Int) = (s.size : Int) := by omega
              have q8 : (0 : Int) ≤ (C0 : Int) := by omega
              have Q := Lib.hid q7
              have q9 : ((S0 : Int) + (C0 : Int) == (s.size : Int)) = true := beq_iff_eq.2 q7
              have q10 : (S0 : Int) + (C0 : Int) ≤ 64 := by omega
              clear hfull htt hLL hS hC0
              go_wp2_with fail
              refine (nameRuns_any _ m3).mono ?_; rintro e W4 ⟨rfl, t4⟩
              have b4 := b3.trans (t4.mono (by have := b3.size; rw [HG.out] at this; omega))
              rw [← HG.out] at b4
              go_wp2_with fail
              go_ret
              exact ⟨rfl, b4⟩
end Go.Proofs.YtjgdohcclkomoaaDoor.St
