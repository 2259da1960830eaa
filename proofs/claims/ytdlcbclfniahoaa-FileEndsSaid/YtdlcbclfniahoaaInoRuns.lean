/- The contract of cloisterlaw10.InodeRuns: it answers true; what was in memory stands. No condition. -/
import Derived.Test.YtdlcbclfniahoaaInoF
namespace Go.Proofs.Ytdlcbclfniahoaa.St
open Go.RowKit
set_option linter.unusedVariables false

def zst : VSt := VSt.fresh (fun _ => Val.zero)
def rs1 : VSt := iAlloc zst 2
def rs2 : VSt := iWrite rs1 1 0 ⟨#[97, 98, 99]⟩
def rs3 : VSt := iWrite rs2 1 1 ⟨#[120, 121, 122]⟩
def rs4 : VSt := iSaw rs3 1
def rs5 : VSt := iChange rs4 1 0 0
def rs6 : VSt := iSaw rs5 1
def rs7 : VSt := iAlloc rs6 1

theorem irun1 (L : Lay) (w : World) (hV : ViewAt w L zst) : Calls Try.prog 8 #[.pointer (some ⟨L.v, 0, none⟩), .int .i64 2] w fun e w' => e = .returned (.tuple #[.int .i64 1, .bool true]) ∧ ViewAt w' L rs1 ∧ Turn (fun k => k = L.r ∨ k = L.m) w w' := by
  have h := ialloc_any L zst 2 w hV
  rw [show iGot zst = 1 by kernel_rfl, show decide (iFree zst < 16) = true by kernel_rfl] at h
  exact h
theorem irun2 (L : Lay) (w : World) (hV : ViewAt w L rs1) : Calls Try.prog 9 #[.pointer (some ⟨L.v, 0, none⟩), .int .i64 1, .int .i64 0, .string ⟨#[97, 98, 99]⟩] w fun e w' => e = .returned (.int .i64 3) ∧ ViewAt w' L rs2 ∧ Turn (fun k => k = L.r ∨ k = L.m) w w' := by
  have h := iwrite_any L rs1 1 0 ⟨#[97, 98, 99]⟩ (by rw [show (iVal rs1 1).s.size = 0 by kernel_rfl]; decide) (by decide) w hV
  rw [show iWrote rs1 1 0 ⟨#[97, 98, 99]⟩ = 3 by kernel_rfl] at h
  exact h
theorem irun3 (L : Lay) (w : World) (hV : ViewAt w L rs2) : Calls Try.prog 9 #[.pointer (some ⟨L.v, 0, none⟩), .int .i64 1, .int .i64 1, .string ⟨#[120, 121, 122]⟩] w fun e w' => e = .returned (.int .i64 3) ∧ ViewAt w' L rs3 ∧ Turn (fun k => k = L.r ∨ k = L.m) w w' := by
  have h := iwrite_any L rs2 1 1 ⟨#[120, 121, 122]⟩ (by rw [show (iVal rs2 1).s.size = 3 by kernel_rfl]; decide) (by decide) w hV
  rw [show iWrote rs2 1 1 ⟨#[120, 121, 122]⟩ = 3 by kernel_rfl] at h
  exact h
theorem irun4 (L : Lay) (w : World) (hV : ViewAt w L rs3) : Calls Try.prog 39 #[.pointer (some ⟨L.v, 0, none⟩), .int .i64 1, .int .i64 0, .int .i64 9] w fun e w' => e = .returned (.string ⟨#[97, 120, 121, 122]⟩) ∧ ViewAt w' L rs4 ∧ Turn (· = L.r) w w' := by
  have h := iread_any L rs3 1 0 9 (by rw [show (iVal rs3 1).s.size = 4 by kernel_rfl]; decide) w hV
  rw [show iRead rs3 1 0 9 = ⟨#[97, 120, 121, 122]⟩ by kernel_rfl] at h
  exact h
theorem irun5 (L : Lay) (w : World) (hV : ViewAt w L rs4) : Calls Try.prog 10 #[.pointer (some ⟨L.v, 0, none⟩), .int .i64 1, .int .i64 0, .int .i64 0] w fun e w' => e = .returned (.bool true) ∧ ViewAt w' L rs5 ∧ Turn (fun k => k = L.r ∨ k = L.m) w w' := by
  have h := ichange_any L rs4 1 0 0 w hV
  rw [show iHas rs4 1 = true by kernel_rfl] at h
  exact h
theorem irun6 (L : Lay) (w : World) (hV : ViewAt w L rs5) : Calls Try.prog 17 #[.pointer (some ⟨L.v, 0, none⟩), .int .i64 1] w fun e w' => e = .returned (.bool false) ∧ ViewAt w' L rs6 ∧ Turn (· = L.r) w w' := by
  have h := iis_any L rs5 1 w hV
  rw [show iHas rs5 1 = false by kernel_rfl] at h
  exact h
theorem irun7 (L : Lay) (w : World) (hV : ViewAt w L rs6) : Calls Try.prog 8 #[.pointer (some ⟨L.v, 0, none⟩), .int .i64 1] w fun e w' => e = .returned (.tuple #[.int .i64 1, .bool true]) ∧ ViewAt w' L rs7 ∧ Turn (fun k => k = L.r ∨ k = L.m) w w' := by
  have h := ialloc_any L rs6 1 w hV
  rw [show iGot rs6 = 1 by kernel_rfl, show decide (iFree rs6 < 16) = true by kernel_rfl] at h
  exact h

end Go.Proofs.Ytdlcbclfniahoaa.St
