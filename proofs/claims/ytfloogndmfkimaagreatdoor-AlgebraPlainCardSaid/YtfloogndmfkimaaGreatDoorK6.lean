/- The run of known, part 6. -/
import Derived.Test.YtfloogndmfkimaaGreatDoorKd

namespace Go.Proofs.YtfloogndmfkimaaGreatDoor
open Go Go.AM Go.Proofs
set_option maxRecDepth 1000000

theorem part6 : execQ E9 3000 3 (partAt 6 code7) kT5 kH5 [] = some ⟨.normal, kT6, kH6, []⟩ := by kernel_rfl

end Go.Proofs.YtfloogndmfkimaaGreatDoor
