/- The run of known, parts 0 to 3 and 8. -/
import Derived.Test.YtfloogndmfkimaaGreatDoorKd

namespace Go.Proofs.YtfloogndmfkimaaGreatDoor
open Go Go.AM Go.Proofs
set_option maxRecDepth 1000000

theorem part0 : execQ E9 3000 3 (partAt 0 code7) .leaf (bare 3) [] = some ⟨.normal, kT0, kH0, []⟩ := by kernel_rfl
theorem part1 : execQ E9 3000 3 (partAt 1 code7) kT0 kH0 [] = some ⟨.normal, kT1, kH1, []⟩ := by kernel_rfl

end Go.Proofs.YtfloogndmfkimaaGreatDoor

namespace Go.Proofs.YtfloogndmfkimaaGreatDoor
open Go Go.AM Go.Proofs
set_option maxRecDepth 1000000

theorem part2 : execQ E9 3000 3 (partAt 2 code7) kT1 kH1 [] = some ⟨.normal, kT2, kH2, []⟩ := by kernel_rfl
theorem part3 : execQ E9 3000 3 (partAt 3 code7) kT2 kH2 [] = some ⟨.normal, kT3, kH3, []⟩ := by kernel_rfl

end Go.Proofs.YtfloogndmfkimaaGreatDoor

namespace Go.Proofs.YtfloogndmfkimaaGreatDoor
open Go Go.AM Go.Proofs
set_option maxRecDepth 1000000

theorem part8 : execQ E9 3000 3 (partAt 8 code7) kT7 kH7 [] = some ⟨.normal, kT8, kH8, []⟩ := by kernel_rfl

end Go.Proofs.YtfloogndmfkimaaGreatDoor
