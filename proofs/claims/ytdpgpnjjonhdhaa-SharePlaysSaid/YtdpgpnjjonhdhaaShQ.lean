/- SharePlays: any calls, any floats: each pick, each weight, what each used are the document's. No condition but those written in each statement. -/
import Derived.Test.YtdpgpnjjonhdhaaShO
import Derived.Test.YtdpgpnjjonhdhaaFpEnd
import Derived.Laws.AppendOwnNone
namespace Go.Proofs.Ytdpgpnjjonhdhaa.St
open Go.RowKit Go.Proofs.Ytdpgpnjjonhdhaa.Fp Ieee
set_option linter.unusedVariables false

def setG (v : Nat → One) (k : Nat) (i : Int) (x : Nat) : Nat → One := if 0 ≤ i ∧ i < k then putW v i.toNat (sclean x) else v
def runG (v : Nat → One) (k : Nat) (i : Int) : Nat → One := if 0 ≤ i ∧ i < k then St.putU v i.toNat (more (v i.toNat).u) else v

/-- Both Shares, and where a law's own memory begins. -/
structure Pl (w0 W : World) (R X k B R2 Xw Xu Xp : Nat) (va vb : Nat → One) : Prop where
  a : Sd w0 W R X k B va
  b : Rf W R2 Xw Xu Xp k vb
  lo : w0.heap.size ≤ R2 ∧ w0.heap.size ≤ Xw ∧ w0.heap.size ≤ Xu ∧ w0.heap.size ≤ Xp
  hi : R2 < B ∧ Xw < B ∧ Xu < B ∧ Xp < B
  n1 : R2 ≠ X ∧ Xw ≠ X ∧ Xu ≠ X ∧ Xp ≠ X
  n2 : Xw ≠ R ∧ Xu ≠ R ∧ Xp ≠ R
section
variable {w0 W W' : World} {R X k B R2 Xw Xu Xp : Nat} {va vb v' : Nat → One}
theorem Pl.stepA (h : Pl w0 W R X k B R2 Xw Xu Xp va vb) (hs : Sh W' R X k v') (ht : Turn (· = X) W W') : Pl w0 W' R X k B R2 Xw Xu Xp v' vb :=
  ⟨h.a.step hs ht, h.b.keep fun b q => ht.block b (h.b.lt b q) (by
    have := h.n1
    rcases q with rfl | rfl | rfl | rfl <;> omega), h.lo, h.hi, h.n1, h.n2⟩
theorem Pl.stepB (h : Pl w0 W R X k B R2 Xw Xu Xp va vb) (hs : Rf W' R2 Xw Xu Xp k v') (ht : Turn (RB Xw Xu Xp) W W') : Pl w0 W' R X k B R2 Xw Xu Xp va v' := by
  have n1 := h.n1
  have n2 := h.n2
  have lo := h.lo
  have hRR : ¬ RB Xw Xu Xp R := by unfold RB; omega
  have hXX : ¬ RB Xw Xu Xp X := by unfold RB; omega
  refine ⟨⟨⟨cell_blk h.a.sh.root (ht.block R h.a.sh.lt.1 hRR), row_blk h.a.sh.row (ht.block X h.a.sh.lt.2 hXX), h.a.sh.ne, h.a.sh.le, h.a.sh.w, h.a.sh.u, h.a.sh.p⟩, h.a.r0, h.a.x0, h.a.rb, h.a.xb, Nat.le_trans h.a.bw ht.size, h.a.bel.trans (ht.below h.a.bel.size fun i hi => ?_)⟩, hs, h.lo, h.hi, h.n1, h.n2⟩
  unfold RB at hi
  omega
theorem Pl.below (h : Pl w0 W R X k B R2 Xw Xu Xp va vb) (hb : Below B W W') : Pl w0 W' R X k B R2 Xw Xu Xp va vb :=
  ⟨h.a.below hb, h.b.keep fun b q => hb.block b (by
    have := h.hi
    rcases q with rfl | rfl | rfl | rfl <;> omega), h.lo, h.hi, h.n1, h.n2⟩
theorem Pl.alloc (h : Pl w0 W R X k B R2 Xw Xu Xp va vb) (o : Obj) : Pl w0 (W.alloc o) R X k B R2 Xw Xu Xp va vb := h.below ((Below.refl _ _).alloc h.a.bw o)
theorem Pl.drewN (h : Pl w0 W R X k B R2 Xw Xu Xp va vb) (n : Nat) : Pl w0 (W.drewN n) R X k B R2 Xw Xu Xp va vb := h.below (below_drewN (Below.refl _ _) n)

/-- What lies from B on is kept by a call on either. -/
structure Kp (B : Nat) (W W' : World) : Prop where
  size : W.heap.size ≤ W'.heap.size
  block : ∀ b, B ≤ b → b < W.heap.size → W'.heap[b]? = W.heap[b]?
theorem Kp.ofA (h : Pl w0 W R X k B R2 Xw Xu Xp va vb) (ht : Turn (· = X) W W') : Kp B W W' := ⟨ht.size, fun b h1 h2 => ht.block b h2 (by have := h.a.xb; omega)⟩
theorem Kp.ofB (h : Pl w0 W R X k B R2 Xw Xu Xp va vb) (ht : Turn (RB Xw Xu Xp) W W') : Kp B W W' := ⟨ht.size, fun b h1 h2 => ht.block b h2 (by have := h.hi; unfold RB; omega)⟩
theorem Kp.cell {b i : Nat} {x : Value} (h : Kp B W W') (hb : B ≤ b) (hc : W.cell? ⟨b, i, none⟩ = some x) : W'.cell? ⟨b, i, none⟩ = some x := cell_blk hc (h.block b hb (cell_block_lt hc))
theorem Kp.ir {a : Option Addr} {n : Nat} {z : Nat → Int} (h : Kp B W W') (ha : IR W a n z) (hb : ∀ x, a = some x → B ≤ x.block) : IR W' a n z := fun i hi => by
  obtain ⟨x, e, c0⟩ := ha i hi
  refine ⟨x, e, ?_⟩
  have hbl : (x.add i).block = x.block := by unfold Addr.add; split <;> rfl
  have := h.block (x.add i).block (by rw [hbl]; exact hb x e) (cell_block_lt c0)
  unfold World.cell? at c0 ⊢
  rw [this]; exact c0
end

theorem set_gen (w0 W : World) (R X k B R2 Xw Xu Xp : Nat) (va vb : Nat → One) (i : Int) (x : Nat) (hx : x < 18446744073709551616) (h : Pl w0 W R X k B R2 Xw Xu Xp va vb) :
    Calls Try.prog 10 #[.pointer (some ⟨R, 0, none⟩), .int .i64 i, .int .u64 (x : Int)] W fun e W' => e = .returned (.tuple #[]) ∧ Pl w0 W' R X k B R2 Xw Xu Xp (setG va k i x) vb ∧ Kp B W W' := by
  by_cases c : 0 ≤ i ∧ i < k
  · obtain ⟨n, rfl⟩ : ∃ n : Nat, i = n := ⟨i.toNat, by omega⟩
    have e1 : setG va k n x = putW va n (sclean x) := by unfold setG; rw [if_pos c]; rfl
    rw [e1]
    exact (set_in R X k va n (by omega) x hx W h.a.sh).mono fun e W' ⟨p, q, r⟩ => ⟨p, h.stepA q r, Kp.ofA h r⟩
  · have e1 : setG va k i x = va := by unfold setG; rw [if_neg c]
    rw [e1]
    exact (set_out R X k va i c x W h.a.sh).mono fun e W' ⟨p, q⟩ => by subst q; exact ⟨p, h, Nat.le_refl _, fun _ _ _ => rfl⟩
theorem rset_gen (w0 W : World) (R X k B R2 Xw Xu Xp : Nat) (va vb : Nat → One) (i : Int) (x : Nat) (hx : x < 18446744073709551616) (h : Pl w0 W R X k B R2 Xw Xu Xp va vb) :
    Calls Try.prog 22 #[.pointer (some ⟨R2, 0, none⟩), .int .i64 i, .int .u64 (x : Int)] W fun e W' => e = .returned (.tuple #[]) ∧ Pl w0 W' R X k B R2 Xw Xu Xp va (setG vb k i x) ∧ Kp B W W' := by
  by_cases c : 0 ≤ i ∧ i < k
  · obtain ⟨n, rfl⟩ : ∃ n : Nat, i = n := ⟨i.toNat, by omega⟩
    have e1 : setG vb k n x = putW vb n (sclean x) := by unfold setG; rw [if_pos c]; rfl
    rw [e1]
    exact (rset_in R2 Xw Xu Xp k vb n (by omega) x hx W h.b).mono fun e W' ⟨p, q, r⟩ => ⟨p, h.stepB q r, Kp.ofB h r⟩
  · have e1 : setG vb k i x = vb := by unfold setG; rw [if_neg c]
    rw [e1]
    exact (rset_out R2 Xw Xu Xp k vb i c x W h.b).mono fun e W' ⟨p, q⟩ => by subst q; exact ⟨p, h, Nat.le_refl _, fun _ _ _ => rfl⟩
theorem run_gen (w0 W : World) (R X k B R2 Xw Xu Xp : Nat) (va vb : Nat → One) (i : Int) (h : Pl w0 W R X k B R2 Xw Xu Xp va vb) :
    Calls Try.prog 13 #[.pointer (some ⟨R, 0, none⟩), .int .i64 i] W fun e W' => e = .returned (.tuple #[]) ∧ Pl w0 W' R X k B R2 Xw Xu Xp (runG va k i) vb ∧ Kp B W W' := by
  by_cases c : 0 ≤ i ∧ i < k
  · obtain ⟨n, rfl⟩ : ∃ n : Nat, i = n := ⟨i.toNat, by omega⟩
    have e1 : runG va k n = St.putU va n (more (va n).u) := by unfold runG; rw [if_pos c]; rfl
    rw [e1]
    exact (run_in R X k va n (by omega) W h.a.sh).mono fun e W' ⟨p, q, r⟩ => ⟨p, h.stepA q r, Kp.ofA h r⟩
  · have e1 : runG va k i = va := by unfold runG; rw [if_neg c]
    rw [e1]
    exact (run_out R X k va i c W h.a.sh).mono fun e W' ⟨p, q⟩ => by subst q; exact ⟨p, h, Nat.le_refl _, fun _ _ _ => rfl⟩
theorem rrun_gen (w0 W : World) (R X k B R2 Xw Xu Xp : Nat) (va vb : Nat → One) (i : Int) (h : Pl w0 W R X k B R2 Xw Xu Xp va vb) :
    Calls Try.prog 23 #[.pointer (some ⟨R2, 0, none⟩), .int .i64 i] W fun e W' => e = .returned (.tuple #[]) ∧ Pl w0 W' R X k B R2 Xw Xu Xp va (runG vb k i) ∧ Kp B W W' := by
  by_cases c : 0 ≤ i ∧ i < k
  · obtain ⟨n, rfl⟩ : ∃ n : Nat, i = n := ⟨i.toNat, by omega⟩
    have e1 : runG vb k n = St.putU vb n (more (vb n).u) := by unfold runG; rw [if_pos c]; rfl
    rw [e1]
    exact (rrun_in R2 Xw Xu Xp k vb n (by omega) W h.b).mono fun e W' ⟨p, q, r⟩ => ⟨p, h.stepB q r, Kp.ofB h r⟩
  · have e1 : runG vb k i = vb := by unfold runG; rw [if_neg c]
    rw [e1]
    exact (rrun_out R2 Xw Xu Xp k vb i c W h.b).mono fun e W' ⟨p, q⟩ => by subst q; exact ⟨p, h, Nat.le_refl _, fun _ _ _ => rfl⟩
theorem pick_gen (w0 W : World) (R X k B R2 Xw Xu Xp : Nat) (va vb : Nat → One) (a : Option Addr) (n c : Nat) (z : Nat → Int) (hn : n ≤ 1000000) (h : Pl w0 W R X k B R2 Xw Xu Xp va vb) (ha : IR W a n z) (hb : ∀ x, a = some x → B ≤ x.block) :
    Calls Try.prog 12 #[.pointer (some ⟨R, 0, none⟩), .slice a n c] W fun e W' => e = .returned (.int .i64 (obI (bst (fun i => decide (iHas z n (i : Int))) va k))) ∧ Pl w0 W' R X k B R2 Xw Xu Xp (pickV va (fun i => decide (iHas z n (i : Int))) k) vb ∧ Kp B W W' :=
  (pick_any R X k va a n c z W hn h.a.sh ha (fun x hx => by have := hb x hx; have := h.a.xb; omega)).mono fun e W' ⟨p, q, r⟩ => ⟨p, h.stepA q r, Kp.ofA h r⟩
theorem rpick_gen (w0 W : World) (R X k B R2 Xw Xu Xp : Nat) (va vb : Nat → One) (a : Option Addr) (n c : Nat) (z : Nat → Int) (hn : n ≤ 1000000) (h : Pl w0 W R X k B R2 Xw Xu Xp va vb) (ha : IR W a n z) :
    Calls Try.prog 26 #[.pointer (some ⟨R2, 0, none⟩), .slice a n c] W fun e W' => e = .returned (.int .i64 (obI (bst (fun i => decide (iHas z n (i : Int))) vb k))) ∧ Pl w0 W' R X k B R2 Xw Xu Xp va (pickV vb (fun i => decide (iHas z n (i : Int))) k) ∧ Kp B W W' :=
  (rpick_any R2 Xw Xu Xp k vb a n c z W hn h.b ha).mono fun e W' ⟨p, q, r⟩ => ⟨p, h.stepB q r, Kp.ofB h r⟩
theorem halve_gen (w0 W : World) (R X k B R2 Xw Xu Xp : Nat) (va vb : Nat → One) (h : Pl w0 W R X k B R2 Xw Xu Xp va vb) :
    Calls Try.prog 24 #[.pointer (some ⟨R, 0, none⟩)] W fun e W' => e = .returned (.tuple #[]) ∧ Pl w0 W' R X k B R2 Xw Xu Xp (halved va k) vb ∧ Kp B W W' :=
  (halve_any R X k va W h.a.sh).mono fun e W' ⟨p, q, r⟩ => ⟨p, h.stepA q r, Kp.ofA h r⟩
theorem rhalve_gen (w0 W : World) (R X k B R2 Xw Xu Xp : Nat) (va vb : Nat → One) (h : Pl w0 W R X k B R2 Xw Xu Xp va vb) :
    Calls Try.prog 25 #[.pointer (some ⟨R2, 0, none⟩)] W fun e W' => e = .returned (.tuple #[]) ∧ Pl w0 W' R X k B R2 Xw Xu Xp va (halved vb k) ∧ Kp B W W' :=
  (rhalve_any R2 Xw Xu Xp k vb W h.b).mono fun e W' ⟨p, q, r⟩ => ⟨p, h.stepB q r, Kp.ofB h r⟩
end Go.Proofs.Ytdpgpnjjonhdhaa.St
