/- The closed facts of the row, part B. -/
import Derived.Test.YtfloogndmfkimaaGreatDoorRows
import Derived.Stop.Joined
import Derived.ProofKit
import Derived.KernelRfl

namespace Go.Proofs.YtfloogndmfkimaaGreatDoor
open Go
set_option maxRecDepth 100000

theorem j5 : (Rows.algebraPlainRow.stops == []) = true := by kernel_rfl
theorem j6 : (Tryz.prog.stops == []) = true := by kernel_rfl
theorem j7 : (Rows.algebraPlainRow.knobs == []) = true := by kernel_rfl
theorem j8 : (Tryz.prog.stopKnobs == []) = true := by kernel_rfl
theorem j9 : (Rows.algebraPlainRow.inPlace == Tryz.prog.inPlace 3) = true := by kernel_rfl
theorem j10 : (Rows.algebraPlainRow.unfollowed == Tryz.prog.unfollowed 3) = true := by kernel_rfl
end Go.Proofs.YtfloogndmfkimaaGreatDoor
