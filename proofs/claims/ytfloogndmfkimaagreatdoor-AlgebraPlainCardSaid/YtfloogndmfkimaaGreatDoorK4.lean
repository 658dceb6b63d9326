/- The run of known, part 4. -/
import Derived.Test.YtfloogndmfkimaaGreatDoorKd

namespace Go.Proofs.YtfloogndmfkimaaGreatDoor
open Go Go.AM Go.Proofs
set_option maxRecDepth 1000000

theorem part4 : execQ E9 3000 3 (partAt 4 code7) kT3 kH3 [] = some ⟨.normal, kT4, kH4, []⟩ := by kernel_rfl

end Go.Proofs.YtfloogndmfkimaaGreatDoor
