/- The run of known, part 7. -/
import Derived.Test.YtfloogndmfkimaaGreatDoorKd

namespace Go.Proofs.YtfloogndmfkimaaGreatDoor
open Go Go.AM Go.Proofs
set_option maxRecDepth 1000000

theorem part7 : execQ E9 3000 3 (partAt 7 code7) kT6 kH6 [] = some ⟨.normal, kT7, kH7, []⟩ := by kernel_rfl

end Go.Proofs.YtfloogndmfkimaaGreatDoor
