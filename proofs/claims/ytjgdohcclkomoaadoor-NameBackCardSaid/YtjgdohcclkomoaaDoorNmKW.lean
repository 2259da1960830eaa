/- NameBack: a right name and a number of two bytes come back. No condition but those written in the statement. -/
import Derived.Test.YtjgdohcclkomoaaDoorDoorKit
namespace Go.Proofs.YtjgdohcclkomoaaDoor.St
open Go.RowKit
set_option linter.unusedVariables false

theorem i64_small (n : Nat) (h : n < 9223372036854775808) : IntKind.i64.wrap (n : Int) = n := by
  unfold IntKind.wrap; simp [IntKind.bits, IntKind.signed]; omega
theorem ofInt_small (m : Nat) (h : m < 18446744073709551616) : (BitVec.ofInt 64 (m : Int)).toNat = m := by
  rw [BitVec.ofInt_natCast, BitVec.toNat_ofNat]; exact Nat.mod_eq_of_lt (by omega)
theorem and_mask (n : Int) : bits .and .i64 n 65535 = n % 65536 := by
  show IntKind.i64.wrap (((BitVec.ofInt 64 n) &&& (BitVec.ofInt 64 65535)).toNat : Int) = _
  have h0 : (BitVec.ofInt 64 65535).toNat = 2 ^ 16 - 1 := by decide
  rw [BitVec.toNat_and, h0, Nat.and_two_pow_sub_one_eq_mod, i64_small _ (by omega), BitVec.toNat_ofInt]
  omega
theorem unpI_eq (a b : Nat) (ha : a < 256) (hb : b < 256) : unpI (a : Int) (b : Int) = ((a + 256 * b : Nat) : Int) := by
  have e1 : wrap64 (a : Int) = ((a : Nat) : Int) := by unfold wrap64; omega
  have e2 : wrap64 (wrap64 (b : Int) * 256) = ((2 ^ 8 * b : Nat) : Int) := by unfold wrap64; omega
  unfold unpI
  rw [e1, e2]
  show IntKind.i64.wrap (((BitVec.ofInt 64 (a : Int)) ||| (BitVec.ofInt 64 ((2 ^ 8 * b : Nat) : Int))).toNat : Int) = _
  rw [BitVec.toNat_or, ofInt_small _ (by omega), ofInt_small _ (by omega), Nat.or_comm, ← Nat.two_pow_add_eq_or_of_lt (by omega : a < 2 ^ 8), i64_small _ (by omega)]
  omega
theorem packL_len (l : List UInt8) (n : Int) : (packL l n).length = 16 := by unfold packL; simp
theorem packL_at (l : List UInt8) (n : Int) (j : Nat) (h : j < 16) : (packL l n)[j]? = some (UInt8.ofNat (pkI l n j).toNat) := by unfold packL; simp [h]
theorem unpN_pack (l : List UInt8) (n : Int) : unpN (packL l n) = n % 65536 := by
  unfold unpN
  rw [if_pos (packL_len l n), List.getD, List.getD, packL_at l n 14 (by decide), packL_at l n 15 (by decide)]
  have h1 : ((UInt8.ofNat (pkI l n 14).toNat).toNat : Nat) = (n % 256).toNat := by
    show (n % 256).toNat % 256 = _
    omega
  have h2 : ((UInt8.ofNat (pkI l n 15).toNat).toNat : Nat) = (n / 256 % 256).toNat := by
    show (n / 256 % 256).toNat % 256 = _
    omega
  show unpI (((UInt8.ofNat (pkI l n 14).toNat).toNat : Nat) : Int) (((UInt8.ofNat (pkI l n 15).toNat).toNat : Nat) : Int) = _
  rw [h1, h2, unpI_eq _ _ (by omega) (by omega)]
  omega
theorem while_zeros : ∀ (k : Nat) (l : List UInt8), ((List.range k).map fun j => l.getD j 0).takeWhile (fun b => b != 0) = (l.take k).takeWhile (fun b => b != 0)
  | 0, l => by simp
  | k + 1, [] => by simp [List.range_succ_eq_map]
  | k + 1, b :: t => by
    have ih := while_zeros k t
    rw [List.range_succ_eq_map, List.map_cons, List.map_map, List.take_succ_cons, List.takeWhile_cons, List.takeWhile_cons]
    show (if (b != 0) = true then b :: (List.map (fun j => t.getD j 0) (List.range k)).takeWhile (fun b => b != 0) else []) = _
    rw [ih]
theorem pack_take (l : List UInt8) (n : Int) : (packL l n).take 14 = (List.range 14).map fun j => l.getD j 0 := by
  apply List.ext_getElem?
  intro j
  by_cases h : j < 14
  · rw [List.getElem?_take_of_lt h, packL_at l n j (by omega)]
    unfold pkI
    rw [if_pos h]
    simp [h]
  · rw [List.getElem?_eq_none (by simp; omega), List.getElem?_eq_none (by simp; omega)]
theorem unpL_pack (l : List UInt8) (n : Int) : unpL (packL l n) = (l.take 14).takeWhile (fun b => b != 0) := by
  unfold unpL
  rw [if_pos (packL_len l n), pack_take, while_zeros]
theorem takeWhile_idem (p : UInt8 → Bool) : ∀ l : List UInt8, (l.takeWhile p).takeWhile p = l.takeWhile p
  | [] => rfl
  | b :: t => by
    rw [List.takeWhile_cons]
    split
    · rename_i h; rw [List.takeWhile_cons, h, takeWhile_idem p t]; rfl
    · rfl
theorem unpL_len (l : List UInt8) : (unpL l).length ≤ 14 := by
  unfold unpL
  split
  · exact Nat.le_trans (List.takeWhile_prefix _).length_le (by simp; omega)
  · simp
theorem unpL_again (l : List UInt8) (n m : Int) : unpL (packL (unpL (packL l n)) m) = unpL (packL l n) := by
  have h := unpL_len (packL l n)
  rw [unpL_pack (unpL (packL l n)), List.take_of_length_le h, unpL_pack, takeWhile_idem]
theorem takeWhile_all (p : UInt8 → Bool) : ∀ l : List UInt8, (∀ b ∈ l, p b = true) → l.takeWhile p = l
  | [], _ => rfl
  | b :: t, h => by rw [List.takeWhile_cons, h b (by simp), takeWhile_all p t (fun c hc => h c (by simp [hc]))]; rfl
theorem unpL_right (l : List UInt8) (n : Int) (h : rightL l = true) : unpL (packL l n) = l := by
  unfold rightL at h
  simp at h
  obtain ⟨⟨⟨_, h1⟩, _⟩, h0⟩ := h
  rw [unpL_pack, List.take_of_length_le h1, takeWhile_all]
  intro b hb
  simp
  intro e
  rw [e] at hb
  exact h0 hb

attribute [local irreducible] Int.lt Int.le
set_option maxRecDepth 100000 in
set_option maxHeartbeats 2000000 in
theorem nameBack_walk (a0 : ByteArray) (a1 : Int) (w : World) (w0 : a0.size ≤ maxLen) (w1 : (Lit.int .i64 a1).wf = true) (hM : Mx w) :
    Calls Tryd.prog 5 #[.string a0, .int .i64 a1] w fun e w' => e = .returned (.bool true) ∧ Below w.heap.size w w' := by
  have z0 : (a0.extract 0 (min (a0.size : Int) 30).toNat).size ≤ 1048576 := by rw [ByteArray.size_extract]; omega
  obtain ⟨s, hs⟩ : ∃ s, s = a0.extract 0 (min (a0.size : Int) 30).toNat := ⟨_, rfl⟩
  rw [← hs] at z0
  have o1 := fun W => pack_any s a1 W z0
  have o2 := fun W h => unpack_any (bs (packL s.data.toList a1)) W h (by rw [bs_size, packL_len]; decide)
  have o3 := fun W => right_any s W z0
  have hm : bits .and .i64 a1 65535 = unpN (packL s.data.toList a1) := by rw [and_mask, unpN_pack]
  have hR : (bs (packL s.data.toList a1)).size = 16 := by rw [bs_size, packL_len]
  have hrt := fun h => congrArg bs (unpL_right s.data.toList a1 h)
  rw [bs_list] at hrt
  simp only [list_bs] at o2
  have hX : (bs (unpL (packL s.data.toList a1))).size ≤ 14 := by rw [bs_size]; exact unpL_len _
  have o4 := fun W => pack_any (bs (unpL (packL s.data.toList a1))) (unpN (packL s.data.toList a1)) W (by omega)
  have o5 := fun W h => unpack_any (bs (packL (bs (unpL (packL s.data.toList a1))).data.toList (unpN (packL s.data.toList a1)))) W h (by rw [bs_size, packL_len]; decide)
  have hk : unpN (packL (unpL (packL s.data.toList a1)) (unpN (packL s.data.toList a1))) = unpN (packL s.data.toList a1) := by rw [unpN_pack, unpN_pack]; omega
  simp only [list_bs, unpL_again, hk] at o4 o5
  have hX2 : ((bs (unpL (packL s.data.toList a1))).size : Int) ≤ 14 := by omega
  generalize bs (packL (unpL (packL s.data.toList a1)) (unpN (packL s.data.toList a1))) = R2 at *
  generalize bs (unpL (packL s.data.toList a1)) = X at *
  generalize unpN (packL s.data.toList a1) = m at *
  generalize bs (packL s.data.toList a1) = R at *
  generalize rightL s.data.toList = rr at *
  have O1 := Lib.hid o1
  have O2 := Lib.hid o2
  have O3 := Lib.hid o3
  have O4 := Lib.hid o4
  have O5 := Lib.hid o5
  have HS := Lib.hid hs
  have hR2 : (R.size : Int) = 16 := by omega
  have HRT := Lib.hid hrt
  clear o1 o2 o3 o4 o5 hs z0 hk hX w1 hrt hR
  go_enter Tryd.func5, Tryd.ntmps5
  go_wp2_with fail
  rw [← HS.out]
  clear HS
  refine (O1.out _).mono ?_; rintro e W1 ⟨rfl, t1⟩
  have m1 := hM.below (Nat.le_refl _) t1
  go_wp2_with fail
  refine (O2.out W1 m1).mono ?_; rintro e W2 ⟨rfl, t2⟩
  have m2 := m1.below (Nat.le_refl _) t2
  have b2 := t1.trans (t2.mono t1.size)
  clear O1 O2 t1 t2 m1
  go_wp2_with fail
  refine (O3.out W2).mono ?_; rintro e W3 ⟨rfl, rfl⟩
  clear O3
  cases rr
  case' true => obtain rfl : X = s := HRT.out rfl
  all_goals
    go_wp2_with fail
    refine (O4.out _).mono ?_; rintro e W4 ⟨rfl, t4⟩
    have m4 := m2.below (Nat.le_refl _) t4
    have b4 := b2.trans (t4.mono b2.size)
    clear O4 t4 m2 b2
    go_wp2_with fail
    refine (O5.out W4 m4).mono ?_; rintro e W5 ⟨rfl, t5⟩
    have m5 := m4.below (Nat.le_refl _) t5
    have b5 := b4.trans (t5.mono b4.size)
    clear O5 t5 m4 b4
    go_wp2_with fail
    refine (nameRuns_any W5 m5).mono ?_; rintro e W6 ⟨rfl, t6⟩
    have b6 := b5.trans (t6.mono b5.size)
    go_wp2_with fail
    go_ret
    exact ⟨rfl, b6⟩
end Go.Proofs.YtjgdohcclkomoaaDoor.St
