/- A directory's text as its entries: what a write of one entry leaves; plain lists. No condition but those written in each statement. -/
import Derived.Test.YtcefigpdodlonaaDoorNmE
namespace Go.Proofs.YtcefigpdodlonaaDoor.St
open Go.RowKit
set_option linter.unusedVariables false

/-! ### an entry that is packed comes back -/
theorem i64_small (n : Nat) (h : n < 9223372036854775808) : IntKind.i64.wrap (n : Int) = n := by
  unfold IntKind.wrap; simp [IntKind.bits, IntKind.signed]; omega
theorem ofInt_small (m : Nat) (h : m < 18446744073709551616) : (BitVec.ofInt 64 (m : Int)).toNat = m := by
  rw [BitVec.ofInt_natCast, BitVec.toNat_ofNat]; exact Nat.mod_eq_of_lt (by omega)
theorem unpI_eq (a b : Nat) (ha : a < 256) (hb : b < 256) : unpI (a : Int) (b : Int) = ((a + 256 * b : Nat) : Int) := by
  have e1 : wrap64 (a : Int) = ((a : Nat) : Int) := by unfold wrap64; omega
  have e2 : wrap64 (wrap64 (b : Int) * 256) = ((2 ^ 8 * b : Nat) : Int) := by unfold wrap64; omega
  unfold unpI
  rw [e1, e2]
  show IntKind.i64.wrap (((BitVec.ofInt 64 (a : Int)) ||| (BitVec.ofInt 64 ((2 ^ 8 * b : Nat) : Int))).toNat : Int) = _
  rw [BitVec.toNat_or, ofInt_small _ (by omega), ofInt_small _ (by omega), Nat.or_comm, ← Nat.two_pow_add_eq_or_of_lt (by omega : a < 2 ^ 8), i64_small _ (by omega)]
  omega
theorem packL_len (l : List UInt8) (n : Int) : (packL l n).length = 16 := by unfold packL; simp
theorem packL_at (l : List UInt8) (n : Int) (j : Nat) (h : j < 16) : (packL l n)[j]? = some (UInt8.ofNat (pkI l n j).toNat) := by unfold packL; simp [h]
theorem unpN_pack (l : List UInt8) (n : Int) : unpN (packL l n) = n % 65536 := by
  unfold unpN
  rw [if_pos (packL_len l n), List.getD, List.getD, packL_at l n 14 (by decide), packL_at l n 15 (by decide)]
  have h1 : ((UInt8.ofNat (pkI l n 14).toNat).toNat : Nat) = (n % 256).toNat := by
    show (n % 256).toNat % 256 = _
    omega
  have h2 : ((UInt8.ofNat (pkI l n 15).toNat).toNat : Nat) = (n / 256 % 256).toNat := by
    show (n / 256 % 256).toNat % 256 = _
    omega
  show unpI (((UInt8.ofNat (pkI l n 14).toNat).toNat : Nat) : Int) (((UInt8.ofNat (pkI l n 15).toNat).toNat : Nat) : Int) = _
  rw [h1, h2, unpI_eq _ _ (by omega) (by omega)]
  omega
theorem while_zeros : ∀ (k : Nat) (l : List UInt8), ((List.range k).map fun j => l.getD j 0).takeWhile (fun b => b != 0) = (l.take k).takeWhile (fun b => b != 0)
  | 0, l => by simp
  | k + 1, [] => by simp [List.range_succ_eq_map]
  | k + 1, b :: t => by
    have ih := while_zeros k t
    rw [List.range_succ_eq_map, List.map_cons, List.map_map, List.take_succ_cons, List.takeWhile_cons, List.takeWhile_cons]
    show (if (b != 0) = true then b :: (List.map (fun j => t.getD j 0) (List.range k)).takeWhile (fun b => b != 0) else []) = _
    rw [ih]
theorem pack_take (l : List UInt8) (n : Int) : (packL l n).take 14 = (List.range 14).map fun j => l.getD j 0 := by
  apply List.ext_getElem?
  intro j
  by_cases h : j < 14
  · rw [List.getElem?_take_of_lt h, packL_at l n j (by omega)]
    unfold pkI
    rw [if_pos h]
    simp [h]
  · rw [List.getElem?_eq_none (by simp; omega), List.getElem?_eq_none (by simp; omega)]
theorem unpL_pack (l : List UInt8) (n : Int) : unpL (packL l n) = (l.take 14).takeWhile (fun b => b != 0) := by
  unfold unpL
  rw [if_pos (packL_len l n), pack_take, while_zeros]
theorem takeWhile_all (p : UInt8 → Bool) : ∀ l : List UInt8, (∀ b ∈ l, p b = true) → l.takeWhile p = l
  | [], _ => rfl
  | b :: t, h => by rw [List.takeWhile_cons, h b (by simp), takeWhile_all p t (fun c hc => h c (by simp [hc]))]; rfl
theorem unpL_right (l : List UInt8) (n : Int) (h : rightL l = true) : unpL (packL l n) = l := by
  unfold rightL at h
  simp at h
  obtain ⟨⟨⟨_, h1⟩, _⟩, h0⟩ := h
  rw [unpL_pack, List.take_of_length_le h1, takeWhile_all]
  intro b hb
  have : b ≠ 0 := fun e => h0 (e ▸ hb)
  simpa using this
theorem unpL_len (l : List UInt8) : (unpL l).length ≤ 14 := by
  unfold unpL
  split
  · exact Nat.le_trans (List.takeWhile_prefix _).length_le (by simp; omega)
  · simp

/-! ### the entries of a text -/
/-- An entry: its name and its number. -/
abbrev Ent := ByteArray × Int
def entE (c : List UInt8) : Ent := (bs (unpL c), unpN c)
/-- The entry at a place of a directory's text. -/
def entAt (l : List UInt8) (i : Nat) : Ent := entE ((l.drop (16 * i)).take 16)
/-- The entries of a directory's text. -/
def entsL (l : List UInt8) : List Ent := (List.range (l.length / 16)).map (entAt l)
theorem entsL_len (l : List UInt8) : (entsL l).length = l.length / 16 := by unfold entsL; simp
theorem entsL_at (l : List UInt8) (i : Nat) (h : i < l.length / 16) : (entsL l)[i]? = some (entAt l i) := by unfold entsL; simp [h]
theorem entsL_none (l : List UInt8) (i : Nat) (h : l.length / 16 ≤ i) : (entsL l)[i]? = none := List.getElem?_eq_none (by rw [entsL_len]; exact h)

theorem entE_pack (l : List UInt8) (n : Int) (h : rightL l = true) (h0 : 0 ≤ n) (h1 : n < 65536) : entE (packL l n) = (bs l, n) := by
  unfold entE
  rw [unpL_right l n h, unpN_pack, Int.emod_eq_of_lt h0 h1]
theorem entE_none : entE (packL [] 0) = (bs [], 0) := by
  unfold entE
  rw [unpN_pack, unpL_pack]; rfl

/-- A write of an entry's bytes at an entry's place. -/
def overL (l e : List UInt8) (i : Nat) : List UInt8 := l.take (16 * i) ++ e ++ l.drop (16 * i + 16)
theorem overL_len (l e : List UInt8) (i : Nat) (he : e.length = 16) (hi : i ≤ l.length / 16) : (overL l e i).length = max l.length (16 * i + 16) := by
  unfold overL; simp [he]; omega
theorem overL_at (l e : List UInt8) (i j : Nat) (he : e.length = 16) (hi : i ≤ l.length / 16) : entAt (overL l e i) j = if j = i then entE e else entAt l j := by
  have h1 : (l.take (16 * i)).length = 16 * i := by simp; omega
  unfold entAt
  by_cases hj : j = i
  · subst hj
    rw [if_pos rfl]
    congr 1
    unfold overL
    rw [List.append_assoc, List.drop_append_of_le_length (by omega), List.drop_eq_nil_of_le (by omega), List.nil_append, List.take_append_of_le_length (by omega), List.take_of_length_le (by omega)]
  · rw [if_neg hj]
    congr 1
    apply List.ext_getElem?
    intro k
    by_cases hk : k < 16
    · rw [List.getElem?_take_of_lt hk, List.getElem?_take_of_lt hk, List.getElem?_drop, List.getElem?_drop]
      unfold overL
      by_cases hlt : j < i
      · rw [List.getElem?_append_left (by simp [h1]; omega), List.getElem?_append_left (by omega), List.getElem?_take_of_lt (by omega)]
      · rw [List.getElem?_append_right (by simp [h1, he]; omega), List.getElem?_drop]
        congr 1
        simp [h1, he]; omega
    · rw [List.getElem?_eq_none (by simp; omega), List.getElem?_eq_none (by simp; omega)]
theorem ents_over (l e : List UInt8) (i : Nat) (he : e.length = 16) (hi : i < l.length / 16) : entsL (overL l e i) = (entsL l).set i (entE e) := by
  have hl := overL_len l e i he (by omega)
  apply List.ext_getElem?
  intro j
  rw [List.getElem?_set]
  by_cases hj : j < l.length / 16
  · rw [entsL_at _ _ (by omega), overL_at _ _ _ _ he (by omega), entsL_len]
    by_cases e1 : i = j
    · subst e1; simp [hi]
    · rw [if_neg (Ne.symm e1), if_neg e1, entsL_at _ _ hj]
  · rw [entsL_none _ _ (by omega), if_neg (by omega), entsL_none _ _ (by omega)]
theorem ents_more (l e : List UInt8) (he : e.length = 16) : entsL (overL l e (l.length / 16)) = entsL l ++ [entE e] := by
  have hl := overL_len l e (l.length / 16) he (by omega)
  apply List.ext_getElem?
  intro j
  by_cases hj : j < l.length / 16
  · rw [entsL_at _ _ (by omega), overL_at _ _ _ _ he (by omega), if_neg (by omega), List.getElem?_append_left (by rw [entsL_len]; exact hj), entsL_at _ _ hj]
  · by_cases h2 : j = l.length / 16
    · subst h2
      rw [entsL_at _ _ (by omega), overL_at _ _ _ _ he (by omega), if_pos rfl, List.getElem?_append_right (by rw [entsL_len]; exact Nat.le_refl _), entsL_len, Nat.sub_self]; rfl
    · rw [entsL_none _ _ (by omega), List.getElem?_eq_none (by simp [entsL_len]; omega)]

/-! ### looking for entries -/
/-- An entry that isn't free. -/
def thereE (e : Ent) : Bool := decide (1 ≤ e.2) && decide (e.2 < 16)
/-- An entry that bears a name. -/
def bearsE (s : ByteArray) (e : Ent) : Bool := thereE e && decide (e.1 = s)
/-- The first place of which a thing is true; below 0: none. -/
def findI (p : Ent → Bool) (es : List Ent) : Int := match es.findIdx? p with
  | some i => (i : Int)
  | none => -1
theorem findI_hit {p : Ent → Bool} {es : List Ent} {j : Nat} (h : j < es.length) (hp : p es[j] = true) (hn : ∀ t (ht : t < es.length), t < j → p es[t] = false) : findI p es = j := by
  unfold findI
  have : es.findIdx? p = some j := by
    rw [List.findIdx?_eq_some_iff_getElem]
    exact ⟨h, hp, fun t ht => by rw [hn t (by omega) ht]; decide⟩
  rw [this]
theorem findI_miss {p : Ent → Bool} {es : List Ent} (hn : ∀ t (ht : t < es.length), p es[t] = false) : findI p es = -1 := by
  unfold findI
  have : es.findIdx? p = none := by
    rw [List.findIdx?_eq_none_iff]
    intro x hx
    obtain ⟨t, ht, rfl⟩ := List.mem_iff_getElem.1 hx
    exact hn t ht
  rw [this]
theorem findI_cases (p : Ent → Bool) (es : List Ent) : (findI p es = -1 ∧ ∀ e ∈ es, p e = false) ∨ ∃ j : Nat, ∃ h : j < es.length, findI p es = j ∧ p es[j] = true ∧ ∀ t (ht : t < es.length), t < j → p es[t] = false := by
  unfold findI
  cases h : es.findIdx? p with
  | none => exact Or.inl ⟨rfl, List.findIdx?_eq_none_iff.1 h⟩
  | some j =>
    obtain ⟨h1, h2, h3⟩ := List.findIdx?_eq_some_iff_getElem.1 h
    exact Or.inr ⟨j, h1, rfl, h2, fun t ht hj => by simpa using h3 t hj⟩
/-- Where a name's entry stands; below 0: it isn't there. -/
def placeE (es : List Ent) (s : ByteArray) : Int := if rightL s.data.toList = true then findI (bearsE s) es else -1
/-- The names that are there. -/
def namesE (es : List Ent) : List ByteArray := (es.filter thereE).map (·.1)
def ownName (s : ByteArray) : Bool := !decide (s = ⟨#[46]⟩) && !decide (s = ⟨#[46, 46]⟩)
def bareE (es : List Ent) : Bool := !(namesE es).any ownName
theorem namesE_take (es : List Ent) (j : Nat) (h : j < es.length) : namesE (es.take (j + 1)) = namesE (es.take j) ++ (if thereE es[j] = true then [es[j].1] else []) := by
  unfold namesE
  rw [List.take_succ_eq_append_getElem h, List.filter_append, List.map_append]
  congr 1
  by_cases c : thereE es[j] = true
  · rw [if_pos c]; simp [c]
  · rw [if_neg c]; simp [c]
end Go.Proofs.YtcefigpdodlonaaDoor.St
