/-
  The row's closed facts, joined. No condition.
-/
import Derived.Test.YtcnkdagngaomdaaGreatDoorMakesFacts
import Derived.Test.YtcnkdagngaomdaaGreatDoorMakesClos
import Derived.Test.YtcnkdagngaomdaaGreatDoorMakesLaid
namespace Go.Proofs.YtcnkdagngaomdaaGreatDoor
open Go
theorem facts : joinedFacts Tryz.prog 3 Tryz.f3 Rows.sessionMakesSpec Rows.sessionMakesRow = true := by
  unfold joinedFacts
  rw [fact1, fact2, fact3, fact4, fact5, fact6, fact7, fact8, fact9, fact10, fact11, fact12, fact13, fact14, fact15, fact16, fact17, fact18, fact19, fact20, fact21, fact22, fact23, fact24, fact25, fact26, fact27, fact28, fact30, fact31, fact32]
  exact fact29
end Go.Proofs.YtcnkdagngaomdaaGreatDoor
