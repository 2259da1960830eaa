/- Trees of directories: what a path finds in them. No condition but those written in each statement. -/
import Derived.Test.YtcefigpdodlonaaDoorPatB
import Derived.Test.YtcefigpdodlonaaDoorBitA
namespace Go.Proofs.YtcefigpdodlonaaDoor.St
open Go.RowKit
set_option linter.unusedVariables false

theorem bears_iff {s : ByteArray} {e : Ent} : bearsE s e = true ↔ thereE e = true ∧ e.1 = s := by unfold bearsE; simp
theorem there_mk {s : ByteArray} {n : Int} (h1 : 1 ≤ n) (h2 : n < 16) : thereE (s, n) = true := by unfold thereE; simp; omega

def dotB : ByteArray := ⟨#[46]⟩
def dotsB : ByteArray := ⟨#[46, 46]⟩
/-- A name of one letter. -/
def letS (g : Nat) : ByteArray := ⟨#[UInt8.ofNat (97 + g)]⟩
def isLet (s : ByteArray) : Prop := ∃ g, g < 12 ∧ s = letS g
theorem let_facts : ∀ g, g < 12 → rightL (letS g).data.toList = true ∧ (letS g).size = 1 ∧ letS g ≠ dotB ∧ letS g ≠ dotsB ∧ ¬ 47 ∈ (letS g).data.toList ∧ (letS g).data.toList ≠ [] := by decide +kernel
theorem isLet.right {s : ByteArray} (h : isLet s) : rightL s.data.toList = true := by obtain ⟨g, hg, rfl⟩ := h; exact (let_facts g hg).1
theorem isLet.size {s : ByteArray} (h : isLet s) : s.size = 1 := by obtain ⟨g, hg, rfl⟩ := h; exact (let_facts g hg).2.1
theorem isLet.dot {s : ByteArray} (h : isLet s) : s ≠ dotB := by obtain ⟨g, hg, rfl⟩ := h; exact (let_facts g hg).2.2.1
theorem isLet.dots {s : ByteArray} (h : isLet s) : s ≠ dotsB := by obtain ⟨g, hg, rfl⟩ := h; exact (let_facts g hg).2.2.2.1
theorem dot_right : rightL dotB.data.toList = true ∧ rightL dotsB.data.toList = true ∧ dotsB ≠ dotB := by decide +kernel

/-- What is found stands among the entries. -/
theorem fnd_mem {es : List Ent} {s : ByteArray} (h : fndB es s = true) : ∃ e ∈ es, thereE e = true ∧ e.1 = s ∧ fndN es s = e.2 := by
  unfold fndB at h
  have hp : ¬ placeE es s < 0 := by simpa using h
  obtain ⟨j, hj, e, hb⟩ := placeE_at hp
  obtain ⟨a, b⟩ := bears_iff.1 hb
  refine ⟨es[j], List.getElem_mem hj, a, b, ?_⟩
  unfold fndN
  rw [if_neg hp, e]
  simp [List.getD, List.getElem?_eq_getElem hj]
theorem fnd_at {es : List Ent} {s : ByteArray} {j : Nat} (hj : j < es.length) (hr : rightL s.data.toList = true) (hb : bearsE s es[j] = true) (hn : ∀ t (ht : t < es.length), t < j → bearsE s es[t] = false) : fndB es s = true ∧ fndN es s = es[j].2 := by
  have e : placeE es s = j := by
    unfold placeE
    rw [hr, if_pos rfl]
    exact findI_hit hj hb hn
  unfold fndB fndN
  rw [e, decide_eq_false (by omega : ¬ (j : Int) < 0), if_neg (by omega)]
  refine ⟨rfl, ?_⟩
  simp [List.getD, List.getElem?_eq_getElem hj]
theorem fnd_none {es : List Ent} {s : ByteArray} (h : ∀ e ∈ es, bearsE s e = false) : fndB es s = false := by
  unfold fndB placeE
  split
  · rw [findI_miss (fun t ht => h _ (List.getElem_mem ht))]; decide
  · decide

/-- A directory's entries: its dots, and more. -/
def dirE (i p : Int) (R : List Ent) : List Ent := (dotB, i) :: (dotsB, p) :: R
theorem fnd_dot (i p : Int) (R : List Ent) (h1 : 1 ≤ i) (h2 : i < 16) : fndB (dirE i p R) dotB = true ∧ fndN (dirE i p R) dotB = i :=
  fnd_at (j := 0) (by simp [dirE]) dot_right.1 (bears_iff.2 ⟨there_mk h1 h2, rfl⟩) (fun t _ h => absurd h (by omega))
theorem fnd_dots (i p : Int) (R : List Ent) (h1 : 1 ≤ p) (h2 : p < 16) : fndB (dirE i p R) dotsB = true ∧ fndN (dirE i p R) dotsB = p :=
  fnd_at (j := 1) (by simp [dirE]) dot_right.2.1 (bears_iff.2 ⟨there_mk h1 h2, rfl⟩) (fun t ht h => by
    obtain rfl : t = 0 := by omega
    cases hb : bearsE dotsB (dirE i p R)[0] with
    | false => rfl
    | true => exact absurd (bears_iff.1 hb).2.symm dot_right.2.2)
theorem fnd_let {i p : Int} {R : List Ent} {s : ByteArray} (hs : isLet s) (h : fndB (dirE i p R) s = true) : ∃ e ∈ R, e.1 = s ∧ fndN (dirE i p R) s = e.2 := by
  obtain ⟨e, he, ht, hes, hn⟩ := fnd_mem h
  unfold dirE at he
  rcases List.mem_cons.1 he with rfl | he
  · exact absurd hes.symm hs.dot
  · rcases List.mem_cons.1 he with rfl | he
    · exact absurd hes.symm hs.dots
    · exact ⟨e, he, hes, hn⟩

/-- A tree of m inodes: which are directories, what they hold, which is whose parent. -/
structure GT (st : VSt) (m : Nat) (K : Int → Bool) (R : Int → List Ent) (par : Int → Int) : Prop where
  le : 3 ≤ m ∧ m ≤ 12
  used : ∀ j : Nat, 1 ≤ j → j < 16 → usedI ((st.get 9 0).n 0) j = decide (j ≤ m)
  none : ∀ j : Int, (m : Int) < j → j < 16 → (st.get 10 j).n 0 = 0
  root : K 1 = true
  dir : ∀ j : Int, 1 ≤ j → j ≤ m → K j = true → DirAt st j (dirE j (par j) (R j)) ∧ 1 ≤ par j ∧ par j ≤ m ∧ K (par j) = true
  file : ∀ j : Int, 1 ≤ j → j ≤ m → K j = false → Holds st j 2 0 0 ByteArray.empty
  kids : ∀ j : Int, 1 ≤ j → j ≤ m → K j = true → ∀ e ∈ R j, isLet e.1 ∧ 1 ≤ e.2 ∧ e.2 ≤ m ∧ (K e.2 = true → par e.2 = j)

theorem GT.same {st st' : VSt} {m : Nat} {K : Int → Bool} {R : Int → List Ent} {par : Int → Int} (G : GT st m K R par) (h : ∀ k n, st'.get k n = st.get k n) : GT st' m K R par :=
  ⟨G.le, fun j a b => by rw [h]; exact G.used j a b, fun j a b => by rw [h]; exact G.none j a b, G.root,
    fun j a b c => ⟨dirAt_same (G.dir j a b c).1 (h _ _), (G.dir j a b c).2⟩, fun j a b c => by unfold Holds; rw [h]; exact G.file j a b c, G.kids⟩

section
variable {st : VSt} {m : Nat} {K : Int → Bool} {R : Int → List Ent} {par : Int → Int}

theorem GT.sm (G : GT st m K R par) (i : Int) : ((iVal st i).s.size : Int) ≤ 140737488351232 := by
  by_cases h1 : 1 ≤ i ∧ i ≤ m
  · cases hk : K i with
    | true =>
      have := dirAt_val (G.dir i h1.1 h1.2 hk).1 h1.1 (by have := G.le; omega)
      omega
    | false =>
      have := holds_val (G.file i h1.1 h1.2 hk) (by decide) h1.1 (by have := G.le; omega)
      rw [this.1]; decide
  · by_cases h2 : i < 1 ∨ 16 ≤ i
    · rw [iVal_out st i h2]; decide
    · rw [iVal_none st i (by omega) (by omega) (G.none i (by omega) (by omega))]; decide
theorem GT.has (G : GT st m K R par) (i : Int) : iHas st i = (decide (1 ≤ i) && decide (i ≤ (m : Int))) := by
  by_cases h1 : 1 ≤ i ∧ i ≤ m
  · rw [decide_eq_true h1.1, decide_eq_true h1.2]
    cases hk : K i with
    | true => exact (dirAt_val (G.dir i h1.1 h1.2 hk).1 h1.1 (by have := G.le; omega)).2.2.2.2
    | false => exact (holds_val (G.file i h1.1 h1.2 hk) (by decide) h1.1 (by have := G.le; omega)).2.2.2.2
  · have h2 : (decide (1 ≤ i) && decide (i ≤ (m : Int))) = false := by
      cases h : (decide (1 ≤ i) && decide (i ≤ (m : Int))) with
      | false => rfl
      | true => simp at h; exact absurd h h1
    rw [h2]
    by_cases h3 : i < 1 ∨ 16 ≤ i
    · exact iHas_out st i h3
    · exact iHas_none st i (by omega) (by omega) (G.none i (by omega) (by omega))
theorem GT.has_in (G : GT st m K R par) {i : Int} (h1 : 1 ≤ i) (h2 : i ≤ m) : iHas st i = true := by rw [G.has, decide_eq_true h1, decide_eq_true h2]; rfl
/-- Is an inode a directory? -/
def isD (m : Nat) (K : Int → Bool) (i : Int) : Bool := decide (1 ≤ i) && decide (i ≤ (m : Int)) && K i
theorem GT.type (G : GT st m K R par) (i : Int) : ((iVal st i).n 0 == 1) = isD m K i := by
  unfold isD
  by_cases h1 : 1 ≤ i ∧ i ≤ m
  · rw [decide_eq_true h1.1, decide_eq_true h1.2]
    cases hk : K i with
    | true => rw [(dirAt_val (G.dir i h1.1 h1.2 hk).1 h1.1 (by have := G.le; omega)).1]; rfl
    | false => rw [(holds_val (G.file i h1.1 h1.2 hk) (by decide) h1.1 (by have := G.le; omega)).2.1]; rfl
  · have h2 : (decide (1 ≤ i) && decide (i ≤ (m : Int))) = false := by
      cases h : (decide (1 ≤ i) && decide (i ≤ (m : Int))) with
      | false => rfl
      | true => simp at h; exact absurd h h1
    rw [h2]
    by_cases h3 : i < 1 ∨ 16 ≤ i
    · rw [iVal_out st i h3]; rfl
    · rw [iVal_none st i (by omega) (by omega) (G.none i (by omega) (by omega))]; rfl
theorem isD_in {i : Int} (h : isD m K i = true) : 1 ≤ i ∧ i ≤ (m : Int) ∧ K i = true := by
  unfold isD at h; simpa [and_assoc] using h
theorem GT.ents (G : GT st m K R par) (i : Int) : dEnts st i = if isD m K i = true then dirE i (par i) (R i) else [] := by
  by_cases h : isD m K i = true
  · rw [if_pos h]
    obtain ⟨a, b, c⟩ := isD_in h
    exact (dirAt_val (G.dir i a b c).1 a (by have := G.le; omega)).2.2.2.1
  · rw [if_neg h]
    unfold dEnts
    rw [if_neg]
    intro q
    have := G.type i
    rw [q] at this
    exact h this.symm
/-- One step of a walk: a letter's name. -/
theorem GT.step (G : GT st m K R par) {a : Int} {s : ByteArray} (hs : isLet s) (h : fndB (dEnts st a) s = true) :
    isD m K a = true ∧ 1 ≤ fndN (dEnts st a) s ∧ fndN (dEnts st a) s ≤ m ∧ (isD m K (fndN (dEnts st a) s) = true → par (fndN (dEnts st a) s) = a) := by
  rw [G.ents] at h ⊢
  by_cases hd : isD m K a = true
  · rw [if_pos hd] at h ⊢
    obtain ⟨i1, i2, i3⟩ := isD_in hd
    obtain ⟨e, he, hes, hn⟩ := fnd_let hs h
    obtain ⟨_, k1, k2, k3⟩ := G.kids a i1 i2 i3 e he
    rw [hn]
    exact ⟨hd, k1, k2, fun q => k3 (isD_in q).2.2⟩
  · rw [if_neg hd] at h
    exact absurd h (by simp [fndB, placeE, findI])
theorem GT.dot (G : GT st m K R par) {a : Int} (hd : isD m K a = true) : fndB (dEnts st a) dotB = true ∧ fndN (dEnts st a) dotB = a ∧ fndB (dEnts st a) dotsB = true ∧ fndN (dEnts st a) dotsB = par a ∧ 1 ≤ par a ∧ par a ≤ m ∧ isD m K (par a) = true := by
  obtain ⟨i1, i2, i3⟩ := isD_in hd
  obtain ⟨_, p1, p2, p3⟩ := G.dir a i1 i2 i3
  have hle := G.le
  rw [G.ents, if_pos hd]
  obtain ⟨x1, x2⟩ := fnd_dot a (par a) (R a) i1 (by omega)
  obtain ⟨y1, y2⟩ := fnd_dots a (par a) (R a) p1 (by omega)
  refine ⟨x1, x2, y1, y2, p1, p2, ?_⟩
  unfold isD
  rw [decide_eq_true p1, decide_eq_true p2, p3]; rfl
theorem GT.nodir (G : GT st m K R par) {a : Int} (hd : isD m K a = false) (s : ByteArray) : fndB (dEnts st a) s = false := by
  rw [G.ents, if_neg (by rw [hd]; decide)]
  exact fnd_none (fun e he => by simp at he)

/-! ### walks in a tree -/
theorem walk_app (l1 l2 : List ByteArray) : ∀ a, walkE st a (l1 ++ l2) = match walkE st a l1 with | .none => .none | some b => walkE st b l2 := by
  induction l1 with
  | nil => intro a; rfl
  | cons s l ih =>
    intro a
    rw [List.cons_append, walkE, walkE]
    split
    · exact ih _
    · rfl
theorem walk_one (a : Int) (s : ByteArray) : walkE st a [s] = if fndB (dEnts st a) s = true ∧ iHas st (fndN (dEnts st a) s) = true then some (fndN (dEnts st a) s) else none := by
  rw [walkE]; split <;> rfl
/-- What a letter's name leads to. -/
def stepE (st : VSt) (a : Int) (s : ByteArray) : Option Int := if fndB (dEnts st a) s = true then some (fndN (dEnts st a) s) else none
theorem GT.walk_let (G : GT st m K R par) (a : Int) {s : ByteArray} (hs : isLet s) : walkE st a [s] = stepE st a s := by
  rw [walk_one]; unfold stepE
  by_cases h : fndB (dEnts st a) s = true
  · obtain ⟨_, h1, h2, _⟩ := G.step hs h
    rw [if_pos ⟨h, G.has_in h1 h2⟩, if_pos h]
  · rw [if_neg (fun q => h q.1), if_neg h]
theorem GT.walk_dot (G : GT st m K R par) (a : Int) : walkE st a [dotB] = if isD m K a = true then some a else Option.none := by
  rw [walk_one]
  cases hd : isD m K a with
  | true =>
    obtain ⟨h1, h2, _⟩ := G.dot hd
    obtain ⟨i1, i2, _⟩ := isD_in hd
    rw [h2, if_pos ⟨h1, G.has_in i1 i2⟩]; rfl
  | false => rw [G.nodir hd, if_neg (by simp)]; rfl
theorem GT.walk_dots (G : GT st m K R par) (a : Int) : walkE st a [dotsB] = if isD m K a = true then some (par a) else Option.none := by
  rw [walk_one]
  cases hd : isD m K a with
  | true =>
    obtain ⟨_, _, h1, h2, p1, p2, _⟩ := G.dot hd
    rw [h2, if_pos ⟨h1, G.has_in p1 p2⟩]; rfl
  | false => rw [G.nodir hd, if_neg (by simp)]; rfl
end
end Go.Proofs.YtcefigpdodlonaaDoor.St
