/- The library's OnesCount64 counts the bits; TrailingZeros64 tells a bit that is set; plain. No condition but those written in each statement. -/
import Derived.Test.YtdlcbclfniahoaaDoorSpC
import Derived.Test.YtdlcbclfniahoaaDoorBits
namespace Go.Proofs.YtdlcbclfniahoaaDoor.St
open Go.RowKit
set_option linter.unusedVariables false

/-- A number of bytes. -/
def val8 : List Nat → Nat
  | [] => 0
  | b :: l => b + 256 * val8 l
def bytes8 (l : List Nat) : Prop := ∀ b ∈ l, b < 256
theorem val8_lt : ∀ l : List Nat, bytes8 l → val8 l < 256 ^ l.length
  | [], _ => by simp [val8]
  | b :: l, h => by
    have h1 := val8_lt l (fun x hx => h x (List.mem_cons_of_mem _ hx))
    have h2 := h b (List.mem_cons_self ..)
    unfold val8
    rw [List.length_cons, Nat.pow_succ]
    omega
theorem and_split (lo hi m M : Nat) (h1 : lo < 256) (h2 : m < 256) : (lo + 256 * hi) &&& (m + 256 * M) = (lo &&& m) + 256 * (hi &&& M) := by
  have e1 : ((lo + 256 * hi) &&& (m + 256 * M)) % 2 ^ 8 = lo &&& m := by
    rw [Nat.and_mod_two_pow]
    congr 1 <;> omega
  have e2 : ((lo + 256 * hi) &&& (m + 256 * M)) / 2 ^ 8 = hi &&& M := by
    rw [Nat.and_div_two_pow]
    congr 1 <;> omega
  generalize (lo + 256 * hi) &&& (m + 256 * M) = z at *
  omega
def f1 (b : Nat) : Nat := (b / 2 &&& 85) + (b &&& 85)
def f2 (b : Nat) : Nat := (b / 4 &&& 51) + (b &&& 51)
def f3 (b : Nat) : Nat := (b / 16 + b) &&& 15
theorem f1_lt : ∀ b, b < 256 → f1 b < 256 := by decide +kernel
theorem f2_lt : ∀ b, b < 256 → f2 b < 256 := by decide +kernel
theorem f1_low : ∀ b, b < 256 → ∀ c, c < 2 → ((b / 2 + 128 * c) &&& 85) = (b / 2 &&& 85) := by decide +kernel
theorem f2_low : ∀ b, b < 256 → ∀ c, c < 4 → ((b / 4 + 64 * c) &&& 51) = (b / 4 &&& 51) := by decide +kernel
theorem f12_le : ∀ b, b < 256 → f2 (f1 b) ≤ 68 ∧ f2 (f1 b) % 16 ≤ 4 := by decide +kernel
theorem f3_low : ∀ b, b < 69 → ∀ c, c < 5 → ((b / 16 + 16 * c + b) &&& 15) = f3 b := by decide +kernel
def pop (b : Nat) : Nat := f3 (f2 (f1 b))
theorem pop_le : ∀ b, b < 256 → pop b ≤ 8 := by decide +kernel
def masks (c : Nat) (l : List Nat) : Nat := val8 (l.map fun _ => c)
theorem stage1 : ∀ l : List Nat, bytes8 l → (val8 l / 2 &&& masks 85 l) + (val8 l &&& masks 85 l) = val8 (l.map f1)
  | [], _ => by simp [val8, masks]
  | b :: l, h => by
    have ih := stage1 l (fun x hx => h x (List.mem_cons_of_mem _ hx))
    have hb := h b (List.mem_cons_self ..)
    show ((b + 256 * val8 l) / 2 &&& (85 + 256 * masks 85 l)) + ((b + 256 * val8 l) &&& (85 + 256 * masks 85 l)) = f1 b + 256 * val8 (l.map f1)
    have e : (b + 256 * val8 l) / 2 = (b / 2 + 128 * (val8 l % 2)) + 256 * (val8 l / 2) := by omega
    rw [e, and_split _ _ _ _ (by omega) (by omega), and_split _ _ _ _ hb (by omega), f1_low b hb _ (Nat.mod_lt _ (by omega)), ← ih]
    unfold f1
    generalize val8 l / 2 &&& masks 85 l = p
    generalize val8 l &&& masks 85 l = q
    omega
theorem stage2 : ∀ l : List Nat, bytes8 l → (val8 l / 4 &&& masks 51 l) + (val8 l &&& masks 51 l) = val8 (l.map f2)
  | [], _ => by simp [val8, masks]
  | b :: l, h => by
    have ih := stage2 l (fun x hx => h x (List.mem_cons_of_mem _ hx))
    have hb := h b (List.mem_cons_self ..)
    show ((b + 256 * val8 l) / 4 &&& (51 + 256 * masks 51 l)) + ((b + 256 * val8 l) &&& (51 + 256 * masks 51 l)) = f2 b + 256 * val8 (l.map f2)
    have e : (b + 256 * val8 l) / 4 = (b / 4 + 64 * (val8 l % 4)) + 256 * (val8 l / 4) := by omega
    rw [e, and_split _ _ _ _ (by omega) (by omega), and_split _ _ _ _ hb (by omega), f2_low b hb _ (Nat.mod_lt _ (by omega)), ← ih]
    unfold f2
    generalize val8 l / 4 &&& masks 51 l = p
    generalize val8 l &&& masks 51 l = q
    omega
theorem low_le : ∀ l : List Nat, (∀ b ∈ l, b ≤ 68 ∧ b % 16 ≤ 4) → val8 l % 16 ≤ 4
  | [], _ => by simp [val8]
  | b :: l, h => by
    have := (h b (List.mem_cons_self ..)).2
    show (b + 256 * val8 l) % 16 ≤ 4
    omega
theorem stage3 : ∀ l : List Nat, (∀ b ∈ l, b ≤ 68 ∧ b % 16 ≤ 4) → (val8 l / 16 + val8 l) &&& masks 15 l = val8 (l.map f3)
  | [], _ => by simp [val8, masks]
  | b :: l, h => by
    have hl : ∀ b ∈ l, b ≤ 68 ∧ b % 16 ≤ 4 := fun x hx => h x (List.mem_cons_of_mem _ hx)
    have ih := stage3 l hl
    have hb := h b (List.mem_cons_self ..)
    have hlow := low_le l hl
    show ((b + 256 * val8 l) / 16 + (b + 256 * val8 l)) &&& (15 + 256 * masks 15 l) = f3 b + 256 * val8 (l.map f3)
    have e : (b + 256 * val8 l) / 16 + (b + 256 * val8 l) = (b / 16 + 16 * (val8 l % 16) + b) + 256 * (val8 l / 16 + val8 l) := by omega
    rw [e, and_split _ _ _ _ (by omega) (by omega), f3_low b (by omega) _ (by omega), ← ih]

theorem low_top : ∀ l : List Nat, (∀ b ∈ l, b ≤ 68 ∧ b % 16 ≤ 4) → l.length = 8 → val8 l ≤ 4919131752989213764 := by
  intro l h hl
  match l, hl with
  | [a, b, c, d, e, f, g, i], _ =>
    simp only [List.mem_cons, List.not_mem_nil, or_false, forall_eq_or_imp, forall_eq] at h
    simp only [val8]
    omega
theorem band (a b : Nat) (ha : a < 18446744073709551616) (hb : b < 18446744073709551616) : bits .and .u64 (a : Int) (b : Int) = ((a &&& b : Nat) : Int) := by
  show IntKind.u64.wrap (((BitVec.ofInt 64 (a : Int)) &&& (BitVec.ofInt 64 (b : Int))).toNat : Int) = _
  rw [BitVec.toNat_and, BitVec.ofInt_natCast, BitVec.ofInt_natCast, BitVec.toNat_ofNat, BitVec.toNat_ofNat, Nat.mod_eq_of_lt ha, Nat.mod_eq_of_lt hb]
  have : a &&& b ≤ a := Nat.and_le_left
  simp [IntKind.wrap, IntKind.bits, IntKind.signed]
  omega
theorem wrapU (x : Nat) (h : x < 18446744073709551616) : IntKind.u64.wrap (x : Int) = (x : Int) := by
  simp [IntKind.wrap, IntKind.bits, IntKind.signed]
  omega
def sumL (l : List Nat) : Nat := l.foldr (· + ·) 0
theorem and127 (y : Int) : bits .and .i64 y 127 = y % 128 := by
  show IntKind.i64.wrap (((BitVec.ofInt 64 y) &&& (BitVec.ofInt 64 127)).toNat : Int) = _
  have h1 : (BitVec.ofInt 64 127).toNat = 2 ^ 7 - 1 := by decide
  rw [BitVec.toNat_and, h1, Nat.and_two_pow_sub_one_eq_mod, BitVec.toNat_ofInt, wrap_i64]
  unfold wrap64; omega
theorem step4 (d e : Nat) (h : d / 256 = e) (hb : d + e < 18446744073709551616) : o4 (d : Int) = ((d + e : Nat) : Int) := by
  unfold o4
  rw [← h, show ((d : Int) / 256) = ((d / 256 : Nat) : Int) by simp, ← Int.natCast_add, h]
  exact wrapU _ hb
theorem step5 (d e : Nat) (h : d / 65536 = e) (hb : d + e < 18446744073709551616) : o5 (d : Int) = ((d + e : Nat) : Int) := by
  unfold o5
  rw [← h, show ((d : Int) / 65536) = ((d / 65536 : Nat) : Int) by simp, ← Int.natCast_add, h]
  exact wrapU _ hb
theorem step6 (d e : Nat) (h : d / 4294967296 = e) (hb : d + e < 18446744073709551616) : o6 (d : Int) = ((d + e : Nat) : Int) := by
  unfold o6
  rw [← h, show ((d : Int) / 4294967296) = ((d / 4294967296 : Nat) : Int) by simp, ← Int.natCast_add, h]
  exact wrapU _ hb
theorem low128 (a b c d e f g i : Nat) (ha : a ≤ 64) (hi : i ≤ 64) : wrap64 ((val8 [a, b, c, d, e, f, g, i] : Nat) : Int) % 128 = (a : Int) := by
  simp only [val8]
  unfold wrap64
  omega
theorem ones_tail (c0 c1 c2 c3 c4 c5 c6 c7 : Nat) (h : c0 ≤ 8 ∧ c1 ≤ 8 ∧ c2 ≤ 8 ∧ c3 ≤ 8 ∧ c4 ≤ 8 ∧ c5 ≤ 8 ∧ c6 ≤ 8 ∧ c7 ≤ 8) :
    bits .and .i64 (wrap64 (o6 (o5 (o4 ((val8 [c0, c1, c2, c3, c4, c5, c6, c7] : Nat) : Int))))) 127 = ((sumL [c0, c1, c2, c3, c4, c5, c6, c7] : Nat) : Int) := by
  have e4 := step4 (val8 [c0, c1, c2, c3, c4, c5, c6, c7]) (val8 [c1, c2, c3, c4, c5, c6, c7]) (by simp only [val8]; omega) (by simp only [val8]; omega)
  rw [show val8 [c0, c1, c2, c3, c4, c5, c6, c7] + val8 [c1, c2, c3, c4, c5, c6, c7] = val8 [c0 + c1, c1 + c2, c2 + c3, c3 + c4, c4 + c5, c5 + c6, c6 + c7, c7] by simp only [val8]; omega] at e4
  have e5 := step5 (val8 [c0 + c1, c1 + c2, c2 + c3, c3 + c4, c4 + c5, c5 + c6, c6 + c7, c7]) (val8 [c2 + c3, c3 + c4, c4 + c5, c5 + c6, c6 + c7, c7]) (by simp only [val8]; omega) (by simp only [val8]; omega)
  rw [show val8 [c0 + c1, c1 + c2, c2 + c3, c3 + c4, c4 + c5, c5 + c6, c6 + c7, c7] + val8 [c2 + c3, c3 + c4, c4 + c5, c5 + c6, c6 + c7, c7] = val8 [c0 + c1 + c2 + c3, c1 + c2 + c3 + c4, c2 + c3 + c4 + c5, c3 + c4 + c5 + c6, c4 + c5 + c6 + c7, c5 + c6 + c7, c6 + c7, c7] by simp only [val8]; omega] at e5
  have e6 := step6 (val8 [c0 + c1 + c2 + c3, c1 + c2 + c3 + c4, c2 + c3 + c4 + c5, c3 + c4 + c5 + c6, c4 + c5 + c6 + c7, c5 + c6 + c7, c6 + c7, c7]) (val8 [c4 + c5 + c6 + c7, c5 + c6 + c7, c6 + c7, c7]) (by simp only [val8]; omega) (by simp only [val8]; omega)
  rw [show val8 [c0 + c1 + c2 + c3, c1 + c2 + c3 + c4, c2 + c3 + c4 + c5, c3 + c4 + c5 + c6, c4 + c5 + c6 + c7, c5 + c6 + c7, c6 + c7, c7] + val8 [c4 + c5 + c6 + c7, c5 + c6 + c7, c6 + c7, c7] = val8 [c0 + c1 + c2 + c3 + c4 + c5 + c6 + c7, c1 + c2 + c3 + c4 + c5 + c6 + c7, c2 + c3 + c4 + c5 + c6 + c7, c3 + c4 + c5 + c6 + c7, c4 + c5 + c6 + c7, c5 + c6 + c7, c6 + c7, c7] by simp only [val8]; omega] at e6
  rw [e4, e5, e6, and127, low128 _ _ _ _ _ _ _ _ (by omega) (by omega)]
  simp only [sumL, List.foldr]
  congr 1
  omega
/-- Eight bytes of a number. -/
def bl8 (x : Nat) : List Nat := [x % 256, x / 256 % 256, x / 65536 % 256, x / 16777216 % 256, x / 4294967296 % 256, x / 1099511627776 % 256, x / 281474976710656 % 256, x / 72057594037927936 % 256]
theorem bl8_val (x : Nat) (h : x < 18446744073709551616) : val8 (bl8 x) = x := by
  simp only [bl8, val8]; omega
theorem bl8_bytes (x : Nat) : bytes8 (bl8 x) := by
  intro b hb
  simp only [bl8, List.mem_cons, List.not_mem_nil, or_false] at hb
  omega
theorem ones_bytes (x : Nat) (h : x < 18446744073709551616) : ones64 (x : Int) = ((sumL ((bl8 x).map pop) : Nat) : Int) := by
  have hl := bl8_bytes x
  have hv := bl8_val x h
  have len : (bl8 x).length = 8 := rfl
  have m1 : masks 85 (bl8 x) = 6148914691236517205 := by simp [masks, bl8, val8]
  have m2 : masks 51 ((bl8 x).map f1) = 3689348814741910323 := by simp [masks, bl8, val8]
  have m3 : masks 15 (((bl8 x).map f1).map f2) = 1085102592571150095 := by simp [masks, bl8, val8]
  have s1 := stage1 (bl8 x) hl
  have b1 : bytes8 ((bl8 x).map f1) := by
    intro b hb
    obtain ⟨c, hc, rfl⟩ := List.mem_map.1 hb
    exact f1_lt c (hl c hc)
  have s2 := stage2 _ b1
  have b2 : bytes8 (((bl8 x).map f1).map f2) := by
    intro b hb
    obtain ⟨c, hc, rfl⟩ := List.mem_map.1 hb
    exact f2_lt c (b1 c hc)
  have b2' : ∀ b ∈ ((bl8 x).map f1).map f2, b ≤ 68 ∧ b % 16 ≤ 4 := by
    intro b hb
    obtain ⟨c, hc, rfl⟩ := List.mem_map.1 hb
    obtain ⟨d, hd, rfl⟩ := List.mem_map.1 hc
    exact f12_le d (hl d hd)
  have s3 := stage3 _ b2'
  have v1 := val8_lt _ b1
  have v2 := val8_lt _ b2
  rw [List.length_map, len] at v1
  rw [List.length_map, List.length_map, len] at v2
  rw [m1, hv] at s1
  rw [m2] at s2
  rw [m3] at s3
  have e1 : o1 (x : Int) = ((val8 ((bl8 x).map f1) : Nat) : Int) := by
    unfold o1
    rw [show (6148914691236517205 : Int) = ((6148914691236517205 : Nat) : Int) from rfl, show ((x : Int) / 2) = ((x / 2 : Nat) : Int) by simp, band _ _ (by omega) (by omega), band _ _ h (by omega), ← s1, ← Int.natCast_add]
    exact wrapU _ (by rw [s1]; omega)
  obtain ⟨l1, hl1⟩ : ∃ l1, l1 = (bl8 x).map f1 := ⟨_, rfl⟩
  rw [← hl1] at m2 m3 s1 s2 s3 b1 b2 b2' v1 v2 e1
  have hl2len : (l1.map f2).length = 8 := by rw [hl1, List.length_map, List.length_map]; rfl
  have e2 : o2 ((val8 l1 : Nat) : Int) = ((val8 (l1.map f2) : Nat) : Int) := by
    unfold o2
    rw [show (3689348814741910323 : Int) = ((3689348814741910323 : Nat) : Int) from rfl, show (((val8 l1 : Nat) : Int) / 4) = ((val8 l1 / 4 : Nat) : Int) by simp, band _ _ (by omega) (by omega), band _ _ (by omega) (by omega), ← s2, ← Int.natCast_add]
    exact wrapU _ (by rw [s2]; omega)
  have hf12 : l1.map f2 = (bl8 x).map fun b => f2 (f1 b) := by rw [hl1, List.map_map]; rfl
  have hpop : (l1.map f2).map f3 = (bl8 x).map pop := by rw [hf12, List.map_map]; rfl
  rw [hpop] at s3
  generalize l1.map f2 = l2 at *
  have c8 : ∀ b ∈ (bl8 x).map pop, b ≤ 8 := by
    intro b hb
    obtain ⟨c, hc, rfl⟩ := List.mem_map.1 hb
    exact pop_le c (hl c hc)
  have b3 : bytes8 ((bl8 x).map pop) := fun b hb => by have := c8 b hb; omega
  have v3 := val8_lt _ b3
  rw [List.length_map, len] at v3
  have e3 : o3 ((val8 l2 : Nat) : Int) = ((val8 ((bl8 x).map pop) : Nat) : Int) := by
    unfold o3
    have hw : val8 l2 / 16 + val8 l2 < 18446744073709551616 := by
      have := low_top l2 b2' hl2len
      omega
    rw [show (1085102592571150095 : Int) = ((1085102592571150095 : Nat) : Int) from rfl, show (((val8 l2 : Nat) : Int) / 16) = ((val8 l2 / 16 : Nat) : Int) by simp, ← Int.natCast_add, wrapU _ hw, band _ _ hw (by omega), s3]
  have hx8 : (bl8 x).map pop = [pop (x % 256), pop (x / 256 % 256), pop (x / 65536 % 256), pop (x / 16777216 % 256), pop (x / 4294967296 % 256), pop (x / 1099511627776 % 256), pop (x / 281474976710656 % 256), pop (x / 72057594037927936 % 256)] := rfl
  unfold ones64
  rw [e1, e2, e3]
  rw [hx8] at c8 ⊢
  generalize pop (x % 256) = c0 at *
  generalize pop (x / 256 % 256) = c1 at *
  generalize pop (x / 65536 % 256) = c2 at *
  generalize pop (x / 16777216 % 256) = c3 at *
  generalize pop (x / 4294967296 % 256) = c4 at *
  generalize pop (x / 1099511627776 % 256) = c5 at *
  generalize pop (x / 281474976710656 % 256) = c6 at *
  generalize pop (x / 72057594037927936 % 256) = c7 at *
  simp only [List.mem_cons, List.not_mem_nil, or_false, forall_eq_or_imp, forall_eq] at c8
  exact ones_tail c0 c1 c2 c3 c4 c5 c6 c7 c8

/-! ### How many bits are set -/
def cntB (f : Nat → Bool) : Nat → Nat
  | 0 => 0
  | n + 1 => cntB f n + if f n = true then 1 else 0
theorem cntB_congr {f g : Nat → Bool} : ∀ n, (∀ i, i < n → f i = g i) → cntB f n = cntB g n
  | 0, _ => rfl
  | n + 1, h => by unfold cntB; rw [cntB_congr n (fun i hi => h i (by omega)), h n (by omega)]
theorem cntB_add (f : Nat → Bool) (n : Nat) : ∀ m, cntB f (n + m) = cntB f n + cntB (fun i => f (n + i)) m
  | 0 => rfl
  | m + 1 => by
    show cntB f (n + m) + (if f (n + m) = true then 1 else 0) = _
    rw [cntB_add f n m]
    simp only [cntB]
    omega
theorem cntB_le (f : Nat → Bool) : ∀ n, cntB f n ≤ n
  | 0 => Nat.le_refl _
  | n + 1 => by
    have := cntB_le f n
    unfold cntB
    split <;> omega
theorem cntB_one {f g : Nat → Bool} {u : Nat} (hf : f u = true) (hg : g u = false) (h : ∀ i, i ≠ u → f i = g i) : ∀ n, cntB f n = cntB g n + if u < n then 1 else 0
  | 0 => rfl
  | n + 1 => by
    have ih := cntB_one hf hg h n
    unfold cntB
    rw [ih]
    by_cases e : u = n
    · subst e
      rw [hf, hg]
      simp
    · rw [h n (Ne.symm e)]
      by_cases q : u < n
      · rw [if_pos q, if_pos (show u < n + 1 by omega)]; omega
      · rw [if_neg q, if_neg (show ¬ u < n + 1 by omega)]; omega
theorem pop_cnt : ∀ b, b < 256 → pop b = cntB (fun i => b.testBit i) 8 := by decide +kernel
theorem byte_bit (x k i : Nat) (hi : i < 8) : (x / 2 ^ k % 256).testBit i = x.testBit (k + i) := by
  rw [show 256 = 2 ^ 8 from rfl, Nat.testBit_mod_two_pow, Nat.testBit_div_two_pow]
  simp [hi, Nat.add_comm]
theorem byte_cnt (x k : Nat) : pop (x / 2 ^ k % 256) = cntB (fun i => x.testBit (k + i)) 8 := by
  rw [pop_cnt _ (Nat.mod_lt _ (by omega))]
  exact cntB_congr 8 fun i hi => byte_bit x k i hi
theorem ones_cntN (x : Nat) (h : x < 18446744073709551616) : ones64 (x : Int) = ((cntB (fun i => x.testBit i) 64 : Nat) : Int) := by
  rw [ones_bytes x h]
  congr 1
  have b0 := byte_cnt x 0
  have b1 : pop (x / 256 % 256) = _ := byte_cnt x 8
  have b2 : pop (x / 65536 % 256) = _ := byte_cnt x 16
  have b3 : pop (x / 16777216 % 256) = _ := byte_cnt x 24
  have b4 : pop (x / 4294967296 % 256) = _ := byte_cnt x 32
  have b5 : pop (x / 1099511627776 % 256) = _ := byte_cnt x 40
  have b6 : pop (x / 281474976710656 % 256) = _ := byte_cnt x 48
  have b7 : pop (x / 72057594037927936 % 256) = _ := byte_cnt x 56
  simp only [Nat.zero_add] at b0
  rw [show x / 2 ^ 0 % 256 = x % 256 by simp] at b0
  have a1 := cntB_add (fun i => x.testBit i) 8 8
  have a2 := cntB_add (fun i => x.testBit i) 16 8
  have a3 := cntB_add (fun i => x.testBit i) 24 8
  have a4 := cntB_add (fun i => x.testBit i) 32 8
  have a5 := cntB_add (fun i => x.testBit i) 40 8
  have a6 := cntB_add (fun i => x.testBit i) 48 8
  have a7 := cntB_add (fun i => x.testBit i) 56 8
  simp only [Nat.reduceAdd] at a1 a2 a3 a4 a5 a6 a7
  rw [a7, a6, a5, a4, a3, a2, a1, ← b0, ← b1, ← b2, ← b3, ← b4, ← b5, ← b6, ← b7]
  simp only [bl8, List.map, sumL, List.foldr]
  omega
theorem wrap_nat (a : Int) : IntKind.u64.wrap a = (((BitVec.ofInt 64 a).toNat : Nat) : Int) := by
  rw [BitVec.toNat_ofInt]
  simp [IntKind.wrap, IntKind.bits, IntKind.signed]
  omega
theorem ones_cnt (a : Int) : ones64 (IntKind.u64.wrap a) = ((cntB (bitB a) 64 : Nat) : Int) := by
  rw [wrap_nat, ones_cntN _ (BitVec.ofInt 64 a).isLt]
  rfl
theorem ones_unmark (a : Int) (u : Nat) (hu : u < 64) (h : usedI a u = true) : ones64 (IntKind.u64.wrap (unmarkN a u)) = ones64 (IntKind.u64.wrap a) - 1 := by
  rw [ones_cnt, ones_cnt]
  have hb : bitB a u = true := by rw [← used_bit a u hu]; exact h
  have hc : ∀ i, i < 64 → bitB (unmarkN a u) i = (bitB a i && !decide (u = i)) := fun i hi => bit_unmark a u i hi
  have h2 := cntB_congr 64 hc
  have h1 := cntB_one (f := bitB a) (g := fun i => bitB a i && !decide (u = i)) (u := u) hb (by simp) (fun i hi => by simp [Ne.symm hi]) 64
  rw [if_pos hu] at h1
  rw [h2]
  omega
theorem ones_mark (a : Int) (u : Nat) (hu : u < 64) (h : usedI a u = false) : ones64 (IntKind.u64.wrap (markI a u)) = ones64 (IntKind.u64.wrap a) + 1 := by
  rw [ones_cnt, ones_cnt]
  have hb : bitB a u = false := by rw [← used_bit a u hu]; exact h
  have hc : ∀ i, i < 64 → bitB (markI a u) i = (bitB a i || decide (u = i)) := fun i hi => bit_mark a u i hi
  have h2 := cntB_congr 64 hc
  have h1 := cntB_one (f := fun i => bitB a i || decide (u = i)) (g := bitB a) (u := u) (by simp) hb (fun i hi => by simp [Ne.symm hi]) 64
  rw [if_pos hu] at h1
  rw [h2]
  omega
theorem ones_bounds (a : Int) : 0 ≤ ones64 (IntKind.u64.wrap a) ∧ ones64 (IntKind.u64.wrap a) ≤ 64 := by
  rw [ones_cnt]
  have := cntB_le (bitB a) 64
  omega
theorem ones_zero : ones64 0 = 0 := by decide +kernel
theorem some_free (a : Int) (h : 0 < ones64 (IntKind.u64.wrap a)) : (IntKind.u64.wrap a == 0) = false := by
  apply beq_eq_false_iff_ne.2
  intro q
  rw [q, ones_zero] at h
  omega

/-! ### The bit that TrailingZeros64 tells -/
theorem low_bit (t m n : Nat) (hn : 1 ≤ n) (hm : 2 * m + 1 < 2 ^ n) : (2 ^ t * (2 * m + 1)) &&& (2 ^ t * (2 ^ n - (2 * m + 1))) = 2 ^ t := by
  apply Nat.eq_of_testBit_eq
  intro i
  rw [Nat.testBit_and, Nat.testBit_two_pow_mul, Nat.testBit_two_pow_mul, Nat.testBit_two_pow]
  by_cases h : t ≤ i
  · rw [Nat.testBit_two_pow_sub_succ (by omega)]
    obtain ⟨k, rfl⟩ : ∃ k, i = t + k := ⟨i - t, by omega⟩
    rw [show t + k - t = k by omega]
    cases k with
    | zero =>
      rw [Nat.testBit_zero, Nat.testBit_zero]
      simp
      omega
    | succ k =>
      rw [Nat.testBit_succ, Nat.testBit_succ, show (2 * m + 1) / 2 = m by omega, show 2 * m / 2 = m by omega]
      cases m.testBit k <;> simp
  · simp [h]; omega
theorem odd_part : ∀ x : Nat, 0 < x → ∃ t m, x = 2 ^ t * (2 * m + 1) := by
  intro x
  induction x using Nat.strongRecOn with
  | _ x ih =>
    intro hx
    by_cases h : x % 2 = 1
    · exact ⟨0, x / 2, by simp; omega⟩
    · obtain ⟨t, m, e⟩ := ih (x / 2) (by omega) (by omega)
      exact ⟨t + 1, m, by rw [Nat.pow_succ, Nat.mul_comm (2 ^ t) 2, Nat.mul_assoc, ← e]; omega⟩
theorem db_at : ∀ t : Nat, t < 64 → dbL.getD (IntKind.u64.wrap ((2 ^ t : Nat) * 285870213051353865) / 288230376151711744).toNat 0 = t := by decide +kernel
theorem tz_two (t m : Nat) (h : 2 ^ t * (2 * m + 1) < 18446744073709551616) : t < 64 ∧ tz64 ((2 ^ t * (2 * m + 1) : Nat) : Int) = (t : Int) := by
  have ht : t < 64 := by
    rcases Nat.lt_or_ge t 64 with q | q
    · exact q
    · have h1 : 2 ^ 64 ≤ 2 ^ t := Nat.pow_le_pow_right (by omega) q
      have h2 : 2 ^ t ≤ 2 ^ t * (2 * m + 1) := Nat.le_mul_of_pos_right _ (by omega)
      omega
  refine ⟨ht, ?_⟩
  have hp : 2 ^ t * 2 ^ (64 - t) = 18446744073709551616 := by rw [← Nat.pow_add, show t + (64 - t) = 64 by omega]
  have hm : 2 * m + 1 < 2 ^ (64 - t) := by
    refine Nat.lt_of_mul_lt_mul_left (a := 2 ^ t) ?_
    rw [hp]; exact h
  have hpos : 0 < 2 ^ t := Nat.pow_pos (by omega)
  have hlb := low_bit t m (64 - t) (by omega) hm
  have hsub : 2 ^ t * (2 ^ (64 - t) - (2 * m + 1)) = 18446744073709551616 - 2 ^ t * (2 * m + 1) := by rw [Nat.mul_sub, hp]
  rw [hsub] at hlb
  have hx : 0 < 2 ^ t * (2 * m + 1) := Nat.mul_pos hpos (by omega)
  unfold tz64 dbN
  generalize hX : 2 ^ t * (2 * m + 1) = X at *
  have hneg : IntKind.u64.wrap (-(X : Int)) = ((18446744073709551616 - X : Nat) : Int) := by
    simp [IntKind.wrap, IntKind.bits, IntKind.signed]
    omega
  rw [hneg, band _ _ h (by omega), hlb]
  exact db_at t ht
theorem tz_used (a : Int) (h : (IntKind.u64.wrap a == 0) = false) : ∃ u : Nat, u < 64 ∧ tz64 (IntKind.u64.wrap a) = (u : Int) ∧ usedI a u = true ∧ ∀ i, i < u → usedI a i = false := by
  have hne := beq_eq_false_iff_ne.1 h
  have hlt := (BitVec.ofInt 64 a).isLt
  obtain ⟨t, m, e⟩ := odd_part (BitVec.ofInt 64 a).toNat (by
    rcases Nat.eq_zero_or_pos (BitVec.ofInt 64 a).toNat with q | q
    · exact absurd (by rw [wrap_nat, q]; rfl) hne
    · exact q)
  have hlt' : 2 ^ t * (2 * m + 1) < 18446744073709551616 := by rw [← e]; exact hlt
  obtain ⟨ht, hz⟩ := tz_two t m hlt'
  refine ⟨t, ht, by rw [wrap_nat, e]; exact hz, ?_, fun i hi => ?_⟩
  · rw [used_bit a t ht]
    unfold bitB
    rw [← BitVec.testBit_toNat, e, Nat.testBit_two_pow_mul, Nat.sub_self, Nat.testBit_zero]
    simp
  · rw [used_bit a i (by omega)]
    unfold bitB
    rw [← BitVec.testBit_toNat, e, Nat.testBit_two_pow_mul]
    simp; omega
end Go.Proofs.YtdlcbclfniahoaaDoor.St
