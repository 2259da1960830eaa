/- The contract of cloisterlaw10.InodeRuns: it answers true; what was in memory stands. No condition. -/
import Derived.Test.YtfcgkjbifnhjjaaInoF
namespace Go.Proofs.Ytfcgkjbifnhjjaa.St
open Go.RowKit
set_option linter.unusedVariables false

def zst : VSt := VSt.fresh (fun _ => Val.zero)
def rs1 : VSt := iAlloc zst 2
def rs2 : VSt := iWrite rs1 1 0 ⟨#[97, 98, 99]⟩
def rs3 : VSt := iWrite rs2 1 1 ⟨#[120, 121, 122]⟩
def rs4 : VSt := iSaw rs3 1
def rs5 : VSt := iChange rs4 1 0 0
def rs6 : VSt := iSaw rs5 1
def rs7 : VSt := iAlloc rs6 1

theorem irun1 (L : Lay) (w : World) (hV : ViewAt w L zst) : Calls Try.prog 6 #[.pointer (some ⟨L.v, 0, none⟩), .int .i64 2] w fun e w' => e = .returned (.tuple #[.int .i64 1, .bool true]) ∧ ViewAt w' L rs1 ∧ Turn (fun k => k = L.r ∨ k = L.m) w w' := by
  have h := ialloc_any L zst 2 w hV
  rw [show iGot zst = 1 by kernel_rfl, show decide (iFree zst < 16) = true by kernel_rfl] at h
  exact h
theorem irun2 (L : Lay) (w : World) (hV : ViewAt w L rs1) : Calls Try.prog 14 #[.pointer (some ⟨L.v, 0, none⟩), .int .i64 1, .int .i64 0, .string ⟨#[97, 98, 99]⟩] w fun e w' => e = .returned (.int .i64 3) ∧ ViewAt w' L rs2 ∧ Turn (fun k => k = L.r ∨ k = L.m) w w' := by
  have h := iwrite_any L rs1 1 0 ⟨#[97, 98, 99]⟩ (by rw [show (iVal rs1 1).s.size = 0 by kernel_rfl]; decide) (by decide) w hV
  rw [show iWrote rs1 1 0 ⟨#[97, 98, 99]⟩ = 3 by kernel_rfl] at h
  exact h
theorem irun3 (L : Lay) (w : World) (hV : ViewAt w L rs2) : Calls Try.prog 14 #[.pointer (some ⟨L.v, 0, none⟩), .int .i64 1, .int .i64 1, .string ⟨#[120, 121, 122]⟩] w fun e w' => e = .returned (.int .i64 3) ∧ ViewAt w' L rs3 ∧ Turn (fun k => k = L.r ∨ k = L.m) w w' := by
  have h := iwrite_any L rs2 1 1 ⟨#[120, 121, 122]⟩ (by rw [show (iVal rs2 1).s.size = 3 by kernel_rfl]; decide) (by decide) w hV
  rw [show iWrote rs2 1 1 ⟨#[120, 121, 122]⟩ = 3 by kernel_rfl] at h
  exact h
theorem irun4 (L : Lay) (w : World) (hV : ViewAt w L rs3) : Calls Try.prog 10 #[.pointer (some ⟨L.v, 0, none⟩), .int .i64 1, .int .i64 0, .int .i64 9] w fun e w' => e = .returned (.string ⟨#[97, 120, 121, 122]⟩) ∧ ViewAt w' L rs4 ∧ Turn (· = L.r) w w' := by
  have h := iread_any L rs3 1 0 9 (by rw [show (iVal rs3 1).s.size = 4 by kernel_rfl]; decide) w hV
  rw [show iRead rs3 1 0 9 = ⟨#[97, 120, 121, 122]⟩ by kernel_rfl] at h
  exact h
theorem irun5 (L : Lay) (w : World) (hV : ViewAt w L rs4) : Calls Try.prog 8 #[.pointer (some ⟨L.v, 0, none⟩), .int .i64 1, .int .i64 0, .int .i64 0] w fun e w' => e = .returned (.bool true) ∧ ViewAt w' L rs5 ∧ Turn (fun k => k = L.r ∨ k = L.m) w w' := by
  have h := ichange_any L rs4 1 0 0 w hV
  rw [show iHas rs4 1 = true by kernel_rfl] at h
  exact h
theorem irun6 (L : Lay) (w : World) (hV : ViewAt w L rs5) : Calls Try.prog 19 #[.pointer (some ⟨L.v, 0, none⟩), .int .i64 1] w fun e w' => e = .returned (.bool false) ∧ ViewAt w' L rs6 ∧ Turn (· = L.r) w w' := by
  have h := iis_any L rs5 1 w hV
  rw [show iHas rs5 1 = false by kernel_rfl] at h
  exact h
theorem irun7 (L : Lay) (w : World) (hV : ViewAt w L rs6) : Calls Try.prog 6 #[.pointer (some ⟨L.v, 0, none⟩), .int .i64 1] w fun e w' => e = .returned (.tuple #[.int .i64 1, .bool true]) ∧ ViewAt w' L rs7 ∧ Turn (fun k => k = L.r ∨ k = L.m) w w' := by
  have h := ialloc_any L rs6 1 w hV
  rw [show iGot rs6 = 1 by kernel_rfl, show decide (iFree rs6 < 16) = true by kernel_rfl] at h
  exact h

set_option maxRecDepth 100000 in
theorem iruns_any (w : World) : Calls Try.prog 25 #[] w fun e w' => e = .returned (.bool true) ∧ Below w.heap.size w w' := by
  go_enter Try.func25, Try.ntmps25
  go_wp2_with fail
  refine (new_any _).mono ?_; rintro e w1 ⟨s, l, rfl, hS, t1, gs, gl⟩
  go_wp2_with fail
  refine (look_any s l _ _ hS).mono ?_; rintro e w2 ⟨L, rfl, rfl, rfl, hv2, t2, gv, gr, gm⟩
  have z1 := t1.size
  have T2 : Turn (fun k => k = L.r ∨ k = L.m) w w2 := Turn.of_below (t1.trans (t2.mono z1)) _
  clear hS t1 t2
  go_wp2_with fail
  refine (irun1 L _ hv2).mono ?_; rintro e w3 ⟨rfl, hv3, t3⟩
  have T3 := T2.trans t3
  clear hv2 T2 t3
  go_wp2_with fail
  refine (irun2 L _ hv3).mono ?_; rintro e w4 ⟨rfl, hv4, t4⟩
  have T4 := T3.trans t4
  clear hv3 T3 t4
  go_wp2_with fail
  refine (irun3 L _ hv4).mono ?_; rintro e w5 ⟨rfl, hv5, t5⟩
  have T5 := T4.trans t5
  clear hv4 T4 t5
  go_wp2_with fail
  refine (irun4 L _ hv5).mono ?_; rintro e w6 ⟨rfl, hv6, t6⟩
  have T6 := T5.trans (t6.mono fun _ _ => Or.inl)
  clear hv5 T5 t6
  go_wp2_with fail
  refine (irun5 L _ hv6).mono ?_; rintro e w7 ⟨rfl, hv7, t7⟩
  have T7 := T6.trans t7
  clear hv6 T6 t7
  go_wp2_with fail
  refine (irun6 L _ hv7).mono ?_; rintro e w8 ⟨rfl, hv8, t8⟩
  have T8 := T7.trans (t8.mono fun _ _ => Or.inl)
  clear hv7 T7 t8
  go_wp2_with fail
  refine (irun7 L _ hv8).mono ?_; rintro e w9 ⟨rfl, hv9, t9⟩
  have T9 := T8.trans t9
  clear hv8 T8 t9
  go_wp2_with fail
  go_ret
  exact ⟨rfl, T9.below (Nat.le_refl _) (fun i q => by omega)⟩

end Go.Proofs.Ytfcgkjbifnhjjaa.St
