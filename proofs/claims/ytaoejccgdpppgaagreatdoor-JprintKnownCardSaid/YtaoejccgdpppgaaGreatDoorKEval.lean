/-
JprintKnown: evaluated.
-/
import Derived.Test.YtaoejccgdpppgaaGreatDoorKMach

section
namespace Go.Proofs.YtaoejccgdpppgaaGreatDoor
open Go Go.Am
theorem known_run : isT (exJ 60 3 [] []) = true := by decide +kernel
end Go.Proofs.YtaoejccgdpppgaaGreatDoor
end
