/- Plain functions that say what the package fpu computes on words (bits of float64 numbers), and small facts on them. No program here; no condition but the bounds written in each statement. -/
import Derived.Laws.FloatArith
import Derived.Laws.BitsAllLaws
import Derived.Laws.NewFold
namespace Go.Proofs.Ytdpgpnjjonhdhaa.Fp

def kindI (u : Int) : Int :=
  if 9218868437227405312 < u then 1 else if u = 9218868437227405312 then 2
  else if u = 0 then 3 else if u < 4503599627370496 then 4 else 5

/-- A word without its sign. -/
def magN (x : Nat) : Nat := x % 9223372036854775808

def kindN (x : Nat) : Int := kindI (magN x : Nat)

def nanN (x : Nat) : Bool := decide (9218868437227405312 < magN x)

def nanWord : Nat := 9221120237041090560

def cleanN (x : Nat) : Nat := if nanN x then nanWord else x

/-- The word of 'x op y', made clean; any NaN is the one NaN. -/
def arithN (op : BinOp) (x y : Nat) : Nat :=
  match floatBits op .f64 x y with
  | some r => cleanN r
  | none => nanWord

/-- The place of a word in the total order. -/
def rankN (x : Nat) : Int :=
  if (cleanN x : Int) < 9223372036854775808 then (cleanN x : Int) else 9223372036854775807 - (cleanN x : Int)

def cmpI (a b : Int) : Int := if a < b then -1 else if b < a then 1 else 0

def orderN (a b : Nat) : Int := cmpI (rankN a) (rankN b)

def pickN (a b : Nat) (which : Int) : Nat :=
  if nanN a || (!nanN b && orderN b a == which) then cleanN b else cleanN a

def cmpF (a b : Nat) : Int :=
  match FloatKind.f64.format.order a b with
  | some .lt => -1
  | some .gt => 1
  | _ => 0

def cmpN (a b : Nat) : Int := if nanN a || nanN b then 2 else cmpF a b

def opN (op : Int) (a b : Nat) : Nat :=
  if op = 1 then arithN .add a b else if op = 2 then arithN .sub a b
  else if op = 3 then arithN .mul a b else if op = 4 then arithN .quo a b
  else if op = 5 then pickN a b (-1) else if op = 6 then pickN a b 1 else nanWord

def ofN (n : Int) : Nat := floatOfInt .f64 n

/-- What fpu.Int tells: the number, and whether it is within. -/
def intN (x : Nat) : Int × Bool :=
  if nanN x then (0, false)
  else if FloatKind.f64.format.order x 4890909195324358656 = some .gt ∨ FloatKind.f64.format.order x 4890909195324358656 = some .eq then (9223372036854775807, false)
  else if FloatKind.f64.format.order x 14114281232179134464 = some .lt then (-9223372036854775808, false)
  else (((FloatKind.f64.decode x).toInt .zero).getD 0, true)

theorem magN_lt (x : Nat) : magN x < 9223372036854775808 := Nat.mod_lt _ (by omega)

theorem andNot_sign (x : Nat) (hx : x < 18446744073709551616) : bits .andNot .u64 (x : Int) 9223372036854775808 = ((magN x : Nat) : Int) := by
  have h := u64_andNot_nat x 9223372036854775808 hx (by omega)
  have e : ((9223372036854775808 : Nat) : Int) = 9223372036854775808 := rfl
  rw [e] at h
  rw [h]
  have : (18446744073709551615 - 9223372036854775808 : Nat) = 2 ^ 63 - 1 := by decide
  rw [this, Nat.and_two_pow_sub_one_eq_mod]
  rfl

theorem kind_nan (x : Nat) : (kindN x == 1) = nanN x := by
  unfold kindN nanN kindI
  by_cases h : 9218868437227405312 < magN x
  · rw [if_pos (by omega)]; simp [h]
  · rw [if_neg (by omega)]
    have : decide (9218868437227405312 < magN x) = false := decide_eq_false h
    rw [this]
    split
    · rfl
    · split
      · rfl
      · split <;> rfl

theorem nanWord_lt : nanWord < 18446744073709551616 := by decide
theorem nan_nanWord : nanN nanWord = true := by decide

theorem cleanN_lt {x : Nat} (h : x < 18446744073709551616) : cleanN x < 18446744073709551616 := by
  unfold cleanN; split
  · decide
  · exact h

theorem arithN_lt (op : BinOp) (x y : Nat) : arithN op x y < 18446744073709551616 := by
  unfold arithN
  split
  · rename_i r h
    have := floatBits_wf h
    simp [Lit.wf] at this
    exact cleanN_lt this
  · decide

theorem pickN_lt {a b : Nat} (which : Int) (ha : a < 18446744073709551616) (hb : b < 18446744073709551616) : pickN a b which < 18446744073709551616 := by
  unfold pickN; split <;> exact cleanN_lt ‹_›

theorem opN_lt {a b : Nat} (op : Int) (ha : a < 18446744073709551616) (hb : b < 18446744073709551616) : opN op a b < 18446744073709551616 := by
  unfold opN
  repeat' split
  all_goals first | exact arithN_lt _ _ _ | exact pickN_lt _ ha hb | decide

theorem ofN_lt (n : Int) : ofN n < 18446744073709551616 := by
  have := floatOfInt_wf .f64 n
  simp [Lit.wf] at this
  exact this

theorem rankN_bounds {x : Nat} (h : x < 18446744073709551616) : -9223372036854775808 ≤ rankN x ∧ rankN x ≤ 9223372036854775807 := by
  have := cleanN_lt h
  unfold rankN; split <;> omega

/-- What a NaN's bits may be that an operation without an answer hands back. -/
theorem nan_drawn (op : BinOp) (t : TypeId) (x y : Nat) (P : Program) (w : World) (hop : op = .add ∨ op = .sub ∨ op = .mul ∨ op = .quo) (h : floatBits op .f64 x y = none) :
    ∃ b : Nat, nanN b = true ∧ b < 18446744073709551616 ∧ (binOp op t (.float .f64 x) (.float .f64 y)).run P w = .ok (.float .f64 b) w.drew := by
  refine ⟨(Question.nanBits .f64 x y).cut (w.tape w.drawn (.nanBits .f64 x y)), ?_, ?_, ?_⟩
  · generalize w.tape w.drawn (.nanBits .f64 x y) = t
    have e : (Question.nanBits .f64 x y).cut t = (t % 2) * 9223372036854775808 + 9218868437227405312 + 1 + (t / 2) % 4503599627370495 := rfl
    rw [e]
    unfold nanN magN
    apply decide_eq_true
    have h1 : (t / 2) % 4503599627370495 < 4503599627370495 := Nat.mod_lt _ (by omega)
    generalize (t / 2) % 4503599627370495 = r at *
    rcases Nat.mod_two_eq_zero_or_one t with h2 | h2 <;> rw [h2] <;> omega
  · generalize w.tape w.drawn (.nanBits .f64 x y) = t
    have e : (Question.nanBits .f64 x y).cut t = (t % 2) * 9223372036854775808 + 9218868437227405312 + 1 + (t / 2) % 4503599627370495 := rfl
    rw [e]
    have h1 : (t / 2) % 4503599627370495 < 4503599627370495 := Nat.mod_lt _ (by omega)
    generalize (t / 2) % 4503599627370495 = r at *
    rcases Nat.mod_two_eq_zero_or_one t with h2 | h2 <;> rw [h2] <;> omega
  · rcases hop with rfl | rfl | rfl | rfl <;> (unfold floatBits at h; simp only at h; simp only [binOp, Op.floatArith, h]; simp [Question.forced])

end Go.Proofs.Ytdpgpnjjonhdhaa.Fp
