/- NameTells: the program's names are the document's. No condition but those written in the statement. -/
import Derived.Test.YtjgdohcclkomoaaDoorDoorKit
namespace Go.Proofs.YtjgdohcclkomoaaDoor.St
open Go.RowKit
set_option linter.unusedVariables false

theorem splN_len (l : List UInt8) : (splN l).length ≤ 61 := by
  unfold splN
  by_cases h : splOk l = true
  · rw [if_pos h, List.length_map]
    have := namesL_len l
    have h2 : l.length ≤ 60 := by
      unfold splOk at h
      simp at h
      exact h.1.2
    omega
  · rw [if_neg h]; simp

attribute [local irreducible] Int.lt Int.le
set_option maxRecDepth 100000 in
set_option maxHeartbeats 2000000 in
theorem nameTells_walk (a0 a1 : ByteArray) (a2 : Int) (w : World) (w0 : a0.size ≤ maxLen) (w1 : a1.size ≤ maxLen) (w2 : (Lit.int .i64 a2).wf = true) (hM : Mx w) :
    Calls Tryd.prog 4 #[.string a0, .string a1, .int .i64 a2] w fun e w' => e = .returned (.bool true) ∧ Below w.heap.size w w' := by
  go_enter Tryd.func4, Tryd.ntmps4
  go_wp2_with fail
  go_quiet (fail)
  have b0 := below_drewN (Below.refl w.heap.size w) nq
  have m0 : Mx (w.drewN nq) := hM.below (Nat.le_refl _) b0
  have z0 : (a0.extract 0 (min (a0.size : Int) 70).toNat).size ≤ 1048576 := by rw [ByteArray.size_extract]; omega
  have z1 : (a1.extract 0 (min (a1.size : Int) 20).toNat).size ≤ 1048576 := by rw [ByteArray.size_extract]; omega
  generalize w.drewN nq = W0 at *
  generalize a0.extract 0 (min (a0.size : Int) 70).toNat = s at *
  generalize a1.extract 0 (min (a1.size : Int) 20).toNat = u at *
  have o1 := fun W h => split_any s W h z0
  have o2 := fun W => refSplit_any s W z0
  have o3 := fun W h => unpack_any u W h z1
  have o4 := fun W => refUnpack_any u W z1
  have o5 := fun W => right_any s W z0
  have o6 := fun W => refRight_any s W z0
  have o7 := fun W => pack_any s a2 W z0
  have o8 := fun W => refPack_any s a2 W z0
  have hlen := splN_len s.data.toList
  generalize splOk s.data.toList = ok at *
  generalize splB s.data.toList = bb at *
  generalize splN s.data.toList = ps at *
  generalize rightL s.data.toList = rr at *
  generalize bs (unpL u.data.toList) = un at *
  generalize unpN u.data.toList = uk at *
  generalize bs (packL s.data.toList a2) = pk at *
  have O3 := Lib.hid o3
  have O4 := Lib.hid o4
  have O5 := Lib.hid o5
  have O6 := Lib.hid o6
  have O7 := Lib.hid o7
  have O8 := Lib.hid o8
  have O1 := Lib.hid o1
  have O2 := Lib.hid o2
  clear o1 o2 o3 o4 o5 o6 o7 o8 z0 z1 w0 w1 w2 hM
  go_wp2_with fail
  refine (O1.out W0 m0).mono ?_; rintro e W1 ⟨v1, rfl, L1, t1⟩
  obtain ⟨x1, c1, rfl, r1, _⟩ := L1.tr
  have m1 := m0.below (Nat.le_refl _) t1
  have b1 := b0.trans (t1.mono b0.size)
  clear O1 L1 t1 b0 m0
  go_wp2_with fail
  refine (O2.out W1).mono ?_; rintro e W2 ⟨v2, rfl, L2, t2⟩
  obtain ⟨x2, c2, rfl, r2, _⟩ := L2.tr
  have m2 := m1.below (Nat.le_refl _) t2
  have b2 := b1.trans (t2.mono b1.size)
  have r1 := r1.below t2
  clear O2 L2 t2 b1 m1
  go_wp2_with fail
  refine (O3.out W2 m2).mono ?_; rintro e W3 ⟨rfl, t3⟩
  have m3 := m2.below (Nat.le_refl _) t3
  have b3 := b2.trans (t3.mono b2.size)
  have r1 := r1.below t3
  have r2 := r2.below t3
  clear O3 t3 b2 m2
  go_wp2_with fail
  refine (O4.out W3).mono ?_; rintro e W4 ⟨rfl, t4⟩
  have m4 := m3.below (Nat.le_refl _) t4
  have b4 := b3.trans (t4.mono b3.size)
  have r1 := r1.below t4
  have r2 := r2.below t4
  clear O4 t4 b3 m3
  go_wp2_with fail
  refine (O5.out W4).mono ?_; rintro e W5 ⟨rfl, rfl⟩
  clear O5
  go_wp2_with fail
  refine (O6.out W5).mono ?_; rintro e W6 ⟨rfl, rfl⟩
  have O9 := Lib.hid (sameT_yes x1 x2 c1 c2 ps W6 (by omega) r1 r2)
  clear O6 r1 r2
  go_wp2_with fail
  refine O9.out.mono ?_; rintro e W7 ⟨rfl, t7⟩
  have m7 := m4.below (Nat.le_refl _) t7
  have b7 := b4.trans (t7.mono b4.size)
  clear O9 t7 b4 m4
  go_wp2_with fail
  refine (O7.out W7).mono ?_; rintro e W8 ⟨rfl, t8⟩
  have m8 := m7.below (Nat.le_refl _) t8
  have b8 := b7.trans (t8.mono b7.size)
  clear O7 t8 b7 m7
  go_wp2_with fail
  refine (O8.out W8).mono ?_; rintro e W9 ⟨rfl, t9⟩
  have m9 := m8.below (Nat.le_refl _) t9
  have b9 := b8.trans (t9.mono b8.size)
  clear O8 t9 b8 m8
  go_wp2_with fail
  refine (nameRuns_any W9 m9).mono ?_; rintro e W10 ⟨rfl, t10⟩
  have b10 := b9.trans (t10.mono b9.size)
  go_wp2_with fail
  go_ret
  exact ⟨rfl, b10⟩
end Go.Proofs.YtjgdohcclkomoaaDoor.St
