/- The contract of cloisterlaw10.InodeRuns: it answers true; what was in memory stands. No condition. -/
import Derived.Test.YtdlcbclfniahoaaDoorInoF
namespace Go.Proofs.YtdlcbclfniahoaaDoor.St
open Go.RowKit
set_option linter.unusedVariables false

def zst : VSt := VSt.fresh (fun _ => Val.zero)
def rs1 : VSt := iAlloc zst 2
def rs2 : VSt := iWrite rs1 1 0 ⟨#[97, 98, 99]⟩
def rs3 : VSt := iWrite rs2 1 1 ⟨#[120, 121, 122]⟩
def rs4 : VSt := iSaw rs3 1
def rs5 : VSt := iChange rs4 1 0 0
def rs6 : VSt := iSaw rs5 1
def rs7 : VSt := iAlloc rs6 1

end Go.Proofs.YtdlcbclfniahoaaDoor.St
