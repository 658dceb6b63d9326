/- The closed facts of the row, part C. -/
import Derived.Test.YtfloogndmfkimaaGreatDoorRows
import Derived.Stop.Joined
import Derived.ProofKit
import Derived.KernelRfl

namespace Go.Proofs.YtfloogndmfkimaaGreatDoor
open Go
set_option maxRecDepth 100000

theorem j11 : (Rows.algebraPlainRow.recurses == Tryz.prog.recurses 3) = true := by kernel_rfl
theorem j12 : (Rows.algebraPlainRow.named == Tryz.prog.varsNamed 3) = true := by kernel_rfl
theorem j13 : (Rows.algebraPlainRow.maps == (Tryz.f3.params.toList ++ Rows.algebraPlainSpec.plain.varTypes Tryz.prog).any (Tryz.prog.mapsRec ·)) = true := by kernel_rfl
theorem j14 : (Rows.algebraPlainRow.ifaces == (Tryz.f3.params.toList ++ Rows.algebraPlainSpec.plain.varTypes Tryz.prog).any (Tryz.prog.ifacesRec ·)) = true := by kernel_rfl
theorem j15 : (Rows.algebraPlainRow.mapsOut == Tryz.prog.mapsAmong Tryz.f3.resultTypes.toList) = true := by kernel_rfl
theorem j16 : (Rows.algebraPlainRow.loops == (Tryz.f3.params.toList ++ Rows.algebraPlainSpec.plain.varTypes Tryz.prog).any (Tryz.prog.loopsFrom ·)) = true := by kernel_rfl
theorem j17 : (Rows.algebraPlainRow.wideKeys == (Tryz.f3.params.toList ++ Rows.algebraPlainSpec.plain.varTypes Tryz.prog ++ Tryz.f3.resultTypes.toList).any (Tryz.prog.wideKeysFrom ·)) = true := by kernel_rfl
theorem j18 : Rows.algebraPlainSpec.vars.all (Tryz.prog.varReadable ·) = true := by kernel_rfl
end Go.Proofs.YtfloogndmfkimaaGreatDoor
