/- The closed facts of the row, part D. -/
import Derived.Test.YtfloogndmfkimaaGreatDoorRows
import Derived.Stop.Joined
import Derived.ProofKit
import Derived.KernelRfl

namespace Go.Proofs.YtfloogndmfkimaaGreatDoor
open Go
set_option maxRecDepth 100000

theorem j19 : Tryz.f3.resultTypes.all (fun t => Tryz.prog.readableRec t && decide (t < Tryz.prog.types.size)) = true := by kernel_rfl
theorem j20 : (Rows.algebraPlainRow.ifacesOut == Tryz.f3.resultTypes.toList.any (Tryz.prog.ifacesRec ·)) = true := by kernel_rfl
theorem j21 : (Rows.algebraPlainRow.loopsOut == Tryz.f3.resultTypes.toList.any (Tryz.prog.loopsFrom ·)) = true := by kernel_rfl
theorem j22 : (Rows.algebraPlainRow.plainKeys == Tryz.prog.plainKeys) = true := by kernel_rfl
theorem j23 : Rows.algebraPlainRow.shortTexts.isNone = true := by kernel_rfl
theorem j24 : Tryz.prog.stopsHeard = true := by kernel_rfl
theorem j25 : Tryz.prog.mayEnter = true := by kernel_rfl
theorem j26 : (Rows.algebraPlainRow.lifted == Tryz.prog.liftsFinal) = true := by kernel_rfl
theorem j27 : (Tryz.prog.make == some Rows.algebraPlainRow.make) = true := by kernel_rfl
theorem j28 : (Rows.algebraPlainRow.kinds == (if Rows.algebraPlainRow.domain.isEmpty then [] else Tryz.f3.params.toList.map fun t => match Tryz.prog.underlying t with | some (.int k) => some k | _ => none)) = true := by kernel_rfl
theorem j29 : (Rows.algebraPlainRow.pinned == Rows.algebraPlainRow.pinnedBy) = true := by kernel_rfl
theorem j30 : (Rows.algebraPlainRow.veiled == (Tryz.f3.params.toList ++ Rows.algebraPlainSpec.plain.varTypes Tryz.prog ++ Tryz.f3.resultTypes.toList).any (Tryz.prog.veiledRec ·)) = true := by kernel_rfl
theorem j31 : Rows.algebraPlainRow.veiledFits Tryz.prog Tryz.f3.params.toList (Tryz.f3.params.toList ++ Rows.algebraPlainSpec.plain.varTypes Tryz.prog ++ Tryz.f3.resultTypes.toList) = true := by kernel_rfl
end Go.Proofs.YtfloogndmfkimaaGreatDoor
