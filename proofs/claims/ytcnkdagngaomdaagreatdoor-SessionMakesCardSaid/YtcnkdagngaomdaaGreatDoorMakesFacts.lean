/-
  The row's closed facts, one by one. No condition.
-/
import Derived.Test.YtcnkdagngaomdaaGreatDoorRows
import Derived.JoinedOf
import Derived.KernelRfl
namespace Go.Proofs.YtcnkdagngaomdaaGreatDoor
open Go
theorem fact1 : (Rows.sessionMakesRow.wf (OpenSpec.ofChange Rows.sessionMakesSpec)) = true := by kernel_rfl
theorem fact3 : (mapsRowed Tryz.prog) = true := by kernel_rfl
theorem fact4 : (Tryz.f3.params.all (Tryz.prog.readableRec ·)) = true := by kernel_rfl
theorem fact5 : (namedTie Tryz.prog Rows.sessionMakesRow.named Rows.sessionMakesSpec.vars) = true := by kernel_rfl
theorem fact6 : ((Rows.sessionMakesRow.stops == [])) = true := by kernel_rfl
theorem fact7 : ((Tryz.prog.stops == [])) = true := by kernel_rfl
theorem fact8 : ((Rows.sessionMakesRow.knobs == [])) = true := by kernel_rfl
theorem fact9 : ((Tryz.prog.stopKnobs == [])) = true := by kernel_rfl
theorem fact14 : ((Rows.sessionMakesRow.maps == (Tryz.f3.params.toList ++ Rows.sessionMakesSpec.plain.varTypes Tryz.prog).any (Tryz.prog.mapsRec ·))) = true := by kernel_rfl
theorem fact15 : ((Rows.sessionMakesRow.ifaces == (Tryz.f3.params.toList ++ Rows.sessionMakesSpec.plain.varTypes Tryz.prog).any (Tryz.prog.ifacesRec ·))) = true := by kernel_rfl
theorem fact16 : ((Rows.sessionMakesRow.mapsOut == Tryz.prog.mapsAmong Tryz.f3.resultTypes.toList)) = true := by kernel_rfl
theorem fact17 : ((Rows.sessionMakesRow.loops == (Tryz.f3.params.toList ++ Rows.sessionMakesSpec.plain.varTypes Tryz.prog).any (Tryz.prog.loopsFrom ·))) = true := by kernel_rfl
theorem fact18 : ((Rows.sessionMakesRow.wideKeys == (Tryz.f3.params.toList ++ Rows.sessionMakesSpec.plain.varTypes Tryz.prog ++ Tryz.f3.resultTypes.toList).any (Tryz.prog.wideKeysFrom ·))) = true := by kernel_rfl
theorem fact19 : (Rows.sessionMakesSpec.vars.all (Tryz.prog.varReadable ·)) = true := by kernel_rfl
theorem fact20 : (Tryz.f3.resultTypes.all (fun t => Tryz.prog.readableRec t && decide (t < Tryz.prog.types.size))) = true := by kernel_rfl
theorem fact21 : ((Rows.sessionMakesRow.ifacesOut == Tryz.f3.resultTypes.toList.any (Tryz.prog.ifacesRec ·))) = true := by kernel_rfl
theorem fact22 : ((Rows.sessionMakesRow.loopsOut == Tryz.f3.resultTypes.toList.any (Tryz.prog.loopsFrom ·))) = true := by kernel_rfl
theorem fact23 : ((Rows.sessionMakesRow.plainKeys == Tryz.prog.plainKeys)) = true := by kernel_rfl
theorem fact24 : (Rows.sessionMakesRow.shortTexts.isNone) = true := by kernel_rfl
theorem fact25 : (Tryz.prog.stopsHeard) = true := by kernel_rfl
theorem fact26 : (Tryz.prog.mayEnter) = true := by kernel_rfl
theorem fact27 : ((Rows.sessionMakesRow.lifted == Tryz.prog.liftsFinal)) = true := by kernel_rfl
theorem fact28 : ((Tryz.prog.make == some Rows.sessionMakesRow.make)) = true := by kernel_rfl
theorem fact29 : ((Rows.sessionMakesRow.kinds == (if Rows.sessionMakesRow.domain.isEmpty then [] else Tryz.f3.params.toList.map fun t => match Tryz.prog.underlying t with | some (.int k) => some k | _ => none))) = true := by kernel_rfl
theorem fact30 : ((Rows.sessionMakesRow.pinned == Rows.sessionMakesRow.pinnedBy)) = true := by kernel_rfl
theorem fact31 : ((Rows.sessionMakesRow.veiled == (Tryz.f3.params.toList ++ Rows.sessionMakesSpec.plain.varTypes Tryz.prog ++ Tryz.f3.resultTypes.toList).any (Tryz.prog.veiledRec ·))) = true := by kernel_rfl
theorem fact32 : (Rows.sessionMakesRow.veiledFits Tryz.prog Tryz.f3.params.toList (Tryz.f3.params.toList ++ Rows.sessionMakesSpec.plain.varTypes Tryz.prog ++ Tryz.f3.resultTypes.toList)) = true := by kernel_rfl
theorem named_at : Tryz.prog.funcNamed "tripwire/tripwirelaw26.SessionMakes" = some 3 := by kernel_rfl
theorem instance_at : Tryz.f3.isInstance Tryz.prog Rows.sessionMakesRow.origin Rows.sessionMakesRow.targs := of_decide_eq_true (by kernel_rfl)
theorem wrapper_at : Tryz.f3.isWrapper Tryz.prog Rows.sessionMakesRow.wrapper Rows.sessionMakesRow.mainSum := by unfold Func.isWrapper; rw [if_neg (of_decide_eq_false (by kernel_rfl))]; exact ⟨rfl, rfl⟩
end Go.Proofs.YtcnkdagngaomdaaGreatDoor
