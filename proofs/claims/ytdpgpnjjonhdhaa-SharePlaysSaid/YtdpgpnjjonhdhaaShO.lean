/- The contract of the document's NewShare (cloisterref21). No condition but those written in the statement. -/
import Derived.Test.YtdpgpnjjonhdhaaShM
namespace Go.Proofs.Ytdpgpnjjonhdhaa.St
open Go.RowKit Go.Proofs.Ytdpgpnjjonhdhaa.Fp Ieee
set_option linter.unusedVariables false

theorem info_u64 : (Try.prog.info? 25).map (fun i => (i.zero, i.size, i.bytes)) = some (some (.int .u64 0), 1, 8) := by kernel_rfl
theorem rowIs_old {W : World} {b : Nat} {t : TypeId} {n : Nat} {f : Nat → Value} (h : W.rowIs b t n f) (o : Obj) : (W.alloc o).rowIs b t n f := row_blk h (Below.heap_alloc W o b (row_lt h))
theorem rowIs_new (W : World) (z : Value) (n : Nat) (t : TypeId) (b : Nat) (hb : b = W.heap.size) : (W.alloc (.cells (madeCells #[z] n) t)).rowIs b t n (fun _ => z) := by subst hb; exact World.rowIs_made W z n t

theorem alloc_cell_d (W : World) (cs : Array Value) (t : TypeId) (b i : Nat) (v : Value) (hb : b = W.heap.size) (h : cs[i]? = some v) : (W.alloc (.cells cs t)).drew.cell? ⟨b, i, none⟩ = some v := by
  subst hb; exact alloc_cell W cs t i v h
theorem rowIs_dr {W : World} {b : Nat} {t : TypeId} {n : Nat} {f : Nat → Value} (h : W.rowIs b t n f) : W.drew.rowIs b t n f := h
theorem below4 (w : World) (a b c d : Obj) : Below w.heap.size w ((((w.alloc a).alloc b).alloc c).alloc d).drew := by
  have h1 := (Below.refl w.heap.size w).alloc (Nat.le_refl _) a
  have h2 := h1.alloc h1.size b
  have h3 := h2.alloc h2.size c
  have h4 := h3.alloc h3.size d
  exact below_drewN h4 1

attribute [local irreducible] Int.lt Int.le less more quo sclean opN cmpN orderN aheadI madeCells
set_option maxRecDepth 100000 in
set_option maxHeartbeats 8000000 in
theorem rnew_any (k : Nat) (hk : k ≤ 64) (w : World) :
    Calls Try.prog 21 #[.int .i64 (k : Int)] w fun e w' => ∃ R Xw Xu Xp, e = .returned (.pointer (some ⟨R, 0, none⟩)) ∧ (w.heap.size ≤ R ∧ w.heap.size ≤ Xw ∧ w.heap.size ≤ Xu ∧ w.heap.size ≤ Xp) ∧ Rf w' R Xw Xu Xp k one0 ∧ Below w.heap.size w w' := by
  have hm1 := fun W => run_make_row' (P := Try.prog) 33 25 (.int .u64 0) 8 Try.underlying33 info_u64 rfl .i64 .i64 k (by omega) (by omega) W
  have hm2 := fun W => run_make_row' (P := Try.prog) 27 3 (.int .i64 0) 8 Try.underlying27 info_int rfl .i64 .i64 k (by omega) (by omega) W
  go_enter Try.func21, Try.ntmps21
  go_wp2_with fail
  rename_i K aK
  have hrest : ∀ (R Xw Xu Xp : Nat) (W : World), W.cell? ⟨R, 0, none⟩ = some (.slice (some ⟨Xw, 0, none⟩) k k) → W.cell? ⟨R, 1, none⟩ = some (.slice (some ⟨Xu, 0, none⟩) k k) → W.cell? ⟨R, 2, none⟩ = some (.slice (some ⟨Xp, 0, none⟩) k k) →
      W.rowIs Xw 25 k (fun _ => .int .u64 0) → W.rowIs Xu 25 k (fun _ => .int .u64 0) → W.rowIs Xp 3 k (fun _ => .int .i64 0) → (R ≠ Xw ∧ R ≠ Xu ∧ R ≠ Xp ∧ Xw ≠ Xu ∧ Xw ≠ Xp ∧ Xu ≠ Xp) → (w.heap.size ≤ R ∧ w.heap.size ≤ Xw ∧ w.heap.size ≤ Xu ∧ w.heap.size ≤ Xp) → Below w.heap.size w W →
      K { tmps := #[.int .i64 (k : Int), undef, .pointer none, .pointer (some ⟨R, 0, none⟩), undef, .int .i64 (k : Int), .slice (some ⟨Xw, 0, none⟩) k k, .int .i64 (k : Int), .slice (some ⟨Xu, 0, none⟩) k k, .int .i64 (k : Int), .slice (some ⟨Xp, 0, none⟩) k k,
        .agg #[.slice (some ⟨Xw, 0, none⟩) k k, .slice (some ⟨Xu, 0, none⟩) k k, .slice (some ⟨Xp, 0, none⟩) k k], .pointer (some ⟨R, 0, none⟩), undef, undef, undef, undef, undef, undef, undef, undef, undef, undef, undef, undef, undef, undef, undef, undef], defers := [] } W := by
    intro R Xw Xu Xp W r0 r1 r2 q1 q2 q3 hn hlo hb
    apply aK
    clear aK hm1 hm2
    go_wp2_with fail
    have hqw : W.rowIs Xw 25 k (fun i => .int .u64 (if i < 0 then 4607182418800017408 else 0)) := q1.congr fun i _ => by rw [if_neg (by omega)]
    go_loopw [18] (fun i wr => ∃ j : Nat, j ≤ k ∧ i = .int .i64 (j : Int) ∧ wr.rowIs Xw 25 k (fun i => .int .u64 (if i < j then 4607182418800017408 else 0)) ∧ Turn (· = Xw) W wr) (fun i _ => k - (intOf i).toNat)
    case atStart => exact ⟨0, Nat.zero_le _, rfl, hqw, Turn.refl _ _⟩
    case round =>
      clear hqw
      obtain ⟨j, hj, rfl, hq, ht⟩ := hrel
      have hb0 : wr.heap[R]? = W.heap[R]? := ht.block R (cell_block_lt r0) hn.1
      have s0 := cell_blk r0 hb0
      by_cases hlt : j < k
      · have l1 : (j : Int) < (k : Int) := by omega
        have l0 : (0 : Int) ≤ (j : Int) := by omega
        have c0 := hq.cell hlt
        have f0 := hq.frozen j
        have hq2 : (wr.setCell ⟨Xw, j, none⟩ (.int .u64 4607182418800017408)).rowIs Xw 25 k (fun i => .int .u64 (if i < j + 1 then 4607182418800017408 else 0)) := (hq.set j (.int .u64 4607182418800017408)).congr fun i _ => by
          by_cases e : i = j
          · subst e; rw [if_pos rfl, if_pos (by omega)]
          · rw [if_neg e]
            by_cases c : i < j
            · rw [if_pos c, if_pos (by omega)]
            · rw [if_neg c, if_neg (by omega)]
        have ht2 := ht.setCell (p := ⟨Xw, j, none⟩) (Or.inl rfl) (.int .u64 4607182418800017408)
        have H := Lib.hid (And.intro hq2 ht2)
        clear hq hq2 ht ht2 q1 q2 q3 r0 r1 r2 hb
        go_wp2_with fail
        exact ⟨⟨j + 1, by omega, by go_num, H.out.1, H.out.2⟩, by simp [intOf]; omega⟩
      · obtain rfl : j = k := by omega
        have hf : Rf wr R Xw Xu Xp j one0 := ⟨s0, cell_blk r1 hb0, cell_blk r2 hb0, hq.congr fun i hi => by rw [if_pos hi]; rfl, row_blk q2 (ht.block Xu (row_lt q2) (Ne.symm hn.2.2.2.1)), row_blk q3 (ht.block Xp (row_lt q3) (Ne.symm hn.2.2.2.2.1)), hn.1, hn.2.1, hn.2.2.1, hn.2.2.2.1, hn.2.2.2.2.1, hn.2.2.2.2.2, hk,
          fun i => ⟨by show 0 < 4607182418800017408; omega, by show 4607182418800017408 < _; omega⟩, fun i => ⟨by show 0 < _; omega, by show nanN 0 = false; decide⟩, fun i => by show (0 : Int) ≤ 0 ∧ (0 : Int) ≤ 21; omega⟩
        have hbF := hb.trans (ht.below hb.size (fun i hi => by rw [hi]; exact hlo.2.1))
        clear hq ht q1 q2 q3 r0 r1 r2 hb s0 hb0
        go_wp2_with fail
        go_ret
        exact ⟨R, Xw, Xu, Xp, rfl, hlo, hf, hbF⟩
  clear aK
  go_region
  all_goals
    refine hrest _ _ _ _ _ ?_ ?_ ?_ ?_ ?_ ?_ ?_ ?_ (below4 _ _ _ _ _)
    · exact alloc_cell_d _ _ _ _ 0 _ (by simp) rfl
    · exact alloc_cell_d _ _ _ _ 1 _ (by simp) rfl
    · exact alloc_cell_d _ _ _ _ 2 _ (by simp) rfl
    iterate 3
      · refine rowIs_dr (rowIs_old ?_ _)
        first
        | (refine rowIs_new _ _ _ _ _ ?_; simp; done)
        | (refine rowIs_old (rowIs_new _ _ _ _ _ ?_) _; simp; done)
        | (refine rowIs_old (rowIs_old (rowIs_new _ _ _ _ _ ?_) _) _; simp; done)
        | (refine rowIs_old (rowIs_old (rowIs_new _ _ _ _ _ rfl) _) _)
    · omega
    · omega
end Go.Proofs.Ytdpgpnjjonhdhaa.St
