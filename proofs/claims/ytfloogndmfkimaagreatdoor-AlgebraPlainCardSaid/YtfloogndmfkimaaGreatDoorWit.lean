/- The witness of the row. -/
import Derived.Test.YtfloogndmfkimaaGreatDoorRows
import Derived.ProofKit
import Derived.OpenShut
import Derived.LaidMore
import Derived.Lay
import Derived.SevenTiedAt
import Derived.Stop.Joined

namespace Go.Proofs.YtfloogndmfkimaaGreatDoor
open Go
set_option maxRecDepth 1000000

abbrev laidL : List (String × DataW Unit) := [("unicode/utf8.acceptRanges", Rows.laid_unicode_utf8_acceptRanges), ("unicode/utf8.first", Rows.laid_unicode_utf8_first)]
noncomputable abbrev W0 (os : Os) : World := World.laidAll Tryz.prog os laidL
abbrev wArgs : Array Value := #[.int .i64 0, .bool false, .int .i16 0]

theorem w8 : (laidL.all fun x => x.2.handleName?.isNone) = true := by kernel_rfl
theorem w6 (os : Os) : (World.holding Tryz.prog os ⟨#[], #[], []⟩).layFits Tryz.prog laidL [] = true := by kernel_rfl
theorem w7 (os : Os) : (World.holding Tryz.prog os ⟨#[], #[], []⟩).layIfaces Tryz.prog laidL (World.laidAll Tryz.prog os laidL) = true := by kernel_rfl
theorem w1 (os : Os) : ((W0 os).forCall (fun _ _ => 0) ⟨#[], wArgs, []⟩).variablesZipB Tryz.prog = true := by kernel_rfl
theorem w2 (os : Os) : (((W0 os).forCall (fun _ _ => 0) ⟨#[], wArgs, []⟩).heap.toList.drop Tryz.prog.globals.size).take ((begin Tryz.prog (fun _ _ => 0) default).world.heap.size - Tryz.prog.globals.size) =
    (begin Tryz.prog (fun _ _ => 0) default).world.heap.toList.drop Tryz.prog.globals.size := by kernel_rfl
theorem w3 (os : Os) : Input.okWideB Tryz.checked.prog ((W0 os).forCall (fun _ _ => 0) ⟨#[], wArgs, []⟩) 3 ⟨#[], wArgs, []⟩ = true := by kernel_rfl
theorem w4 (os : Os) (H : Type) (enc : TypeId × Value → H) : Rows.algebraPlainSpec.preB enc Tryz.checked.prog Tryz.f3 [] false ((W0 os).forCall (fun _ _ => 0) ⟨#[], wArgs, []⟩).memory wArgs 8 = true := by kernel_rfl
theorem w5 (os : Os) (H : Type) (enc : TypeId × Value → H) : Rows.algebraPlainSpec.sizedB enc Tryz.checked.prog Tryz.f3 false ((W0 os).forCall (fun _ _ => 0) ⟨#[], wArgs, []⟩).memory wArgs 8 = true := by kernel_rfl

end Go.Proofs.YtfloogndmfkimaaGreatDoor
