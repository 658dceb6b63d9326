/- The closed facts of the row, part A. -/
import Derived.Test.YtfloogndmfkimaaGreatDoorRows
import Derived.Stop.Joined
import Derived.ProofKit
import Derived.KernelRfl

namespace Go.Proofs.YtfloogndmfkimaaGreatDoor
open Go
set_option maxRecDepth 100000

theorem j0 : Rows.algebraPlainRow.wf (OpenSpec.ofChange Rows.algebraPlainSpec) = true := by kernel_rfl
theorem j1 : laidOutB Tryz.prog = true := by kernel_rfl
theorem j2 : mapsRowed Tryz.prog = true := by kernel_rfl
theorem j3 : Tryz.f3.params.all (Tryz.prog.readableRec ·) = true := by kernel_rfl
theorem j4 : namedTie Tryz.prog Rows.algebraPlainRow.named Rows.algebraPlainSpec.vars = true := by kernel_rfl
end Go.Proofs.YtfloogndmfkimaaGreatDoor
