/- The run of known, part 5. -/
import Derived.Test.YtfloogndmfkimaaGreatDoorKd

namespace Go.Proofs.YtfloogndmfkimaaGreatDoor
open Go Go.AM Go.Proofs
set_option maxRecDepth 1000000

theorem part5 : execQ E9 3000 3 (partAt 5 code7) kT4 kH4 [] = some ⟨.normal, kT5, kH5, []⟩ := by kernel_rfl

end Go.Proofs.YtfloogndmfkimaaGreatDoor
