/-
  The tied card of SessionMakes: for all limits and all texts SessionMakes returns true; the package-level variables that its row lists are tied to the program's text. No further condition.
-/
import Derived.Test.YtcnkdagngaomdaaGreatDoorMakesRow
import Derived.Test.YtcnkdagngaomdaaGreatDoorMakesTie
import Derived.Test.YtcnkdagngaomdaaGreatDoorCards
import Derived.Test.YtcnkdagngaomdaaGreatDoorEvGo
import Derived.SevenTiedAt
namespace Go.Proofs.YtcnkdagngaomdaaGreatDoor
open Go

/-- No function of the program starts a goroutine. -/
theorem still : Go.Ev.stillAll Tryz.prog.funcs.toList = true := by kernel_rfl

theorem wordedRow : Rows.sessionMakesRow.wfByText (OpenSpec.ofChange Rows.sessionMakesSpec) = true := by kernel_rfl
theorem mainAt : Tryz.pinned.checked.prog.mainIs = some (true, ("a56f7bfccdcd7c82c683b1134c4b34576323f03f87c57c21f930468430557437" : String).toList) := by kernel_rfl
theorem looksAt : true = Tryz.prog.looks [] := by kernel_rfl
theorem standAll : ([23, 9].all fun u => !Tryz.prog.wantsStandIn u) = true := by kernel_rfl

theorem sessionMakes_card : Rows.SessionMakesCardSaid :=
  Claim7.holds_tied_plain_at .later [] [.sentinel, .sentinel, .data, .data, .data, .pinned, .data] true (true, "a56f7bfccdcd7c82c683b1134c4b34576323f03f87c57c21f930468430557437") true
    sessionMakes_holds (fun _ h => by cases h) wordedRow (fun _ h => by cases h) rowTie rfl ⟨rfl, rfl⟩ mainAt rfl
    (fun f fn hf hfn => by
      obtain rfl : f = 3 := Option.some.inj (named_at.symm.trans hf) |>.symm
      obtain rfl : fn = Tryz.f3 := (Option.some.inj (Tryz.func3.symm.trans hfn)).symm
      exact ⟨looksAt, fun j t ht => by
        rw [Tryz.params3] at ht
        have hm : t ∈ [23, 9] := by simpa using Array.mem_of_getElem? ht
        exact (show Tryz.prog.wantsStandIn t = false by simpa using List.all_eq_true.1 standAll t hm)⟩)
    (Go.Ev.goesBy_none (P := Tryz.prog) still rfl)
#print axioms sessionMakes_card
end Go.Proofs.YtcnkdagngaomdaaGreatDoor
