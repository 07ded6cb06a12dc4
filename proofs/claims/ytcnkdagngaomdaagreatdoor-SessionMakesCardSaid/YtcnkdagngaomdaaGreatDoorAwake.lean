/-
  The document's example of layer 26 answers true: reckoned by the evaluator in the kernel. No condition.
-/
import Derived.Test.YtcnkdagngaomdaaGreatDoorEvT
import Derived.Test.YtcnkdagngaomdaaGreatDoorProg
import Derived.KernelRfl
namespace Go.Proofs.YtcnkdagngaomdaaGreatDoor
open Go.Ev
theorem awake_run : isTrue (run0 Tryz.prog 12 12 100 17 (some 291) 100 4) = true := by kernel_rfl
end Go.Proofs.YtcnkdagngaomdaaGreatDoor
