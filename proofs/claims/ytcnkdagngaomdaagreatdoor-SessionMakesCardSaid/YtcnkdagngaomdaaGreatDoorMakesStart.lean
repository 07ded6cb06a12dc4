/-
  A start that the row allows: the listed variables laid, the least arguments. No condition.
-/
import Derived.Test.YtcnkdagngaomdaaGreatDoorRows
import Derived.ProofKit
import Derived.LaidMore
import Derived.Lay
import Derived.Stop.Joined
import Derived.KernelRfl
namespace Go.Proofs.YtcnkdagngaomdaaGreatDoor
open Go
noncomputable abbrev a0 : Array Value := #[.agg #[.int .i64 0, .int .i64 0, .int .i64 0, .bool false], .string ByteArray.empty]
theorem own : ownKnob Tryz.prog.godebug = none := by kernel_rfl
theorem noInit : Tryz.prog.inits.idxOf? 3 = none := by kernel_rfl
theorem wz (os : Os) : ((World.laidAll Tryz.prog os Rows.sessionMakesRow.laid).forCall (fun _ _ => 0) ⟨#[], a0, []⟩).variablesZipB Tryz.prog = true := by kernel_rfl
theorem wr (os : Os) : (((World.laidAll Tryz.prog os Rows.sessionMakesRow.laid).forCall (fun _ _ => 0) ⟨#[], a0, []⟩).heap.toList.drop Tryz.prog.globals.size).take ((begin Tryz.prog (fun _ _ => 0) default).world.heap.size - Tryz.prog.globals.size) = (begin Tryz.prog (fun _ _ => 0) default).world.heap.toList.drop Tryz.prog.globals.size := by kernel_rfl
theorem wok (os : Os) : Input.okWideB Tryz.prog ((World.laidAll Tryz.prog os Rows.sessionMakesRow.laid).forCall (fun _ _ => 0) ⟨#[], a0, []⟩) 3 ⟨#[], a0, []⟩ = true := by kernel_rfl
theorem wpre (os : Os) (H : Type) (enc : TypeId × Value → H) : Rows.sessionMakesSpec.preB enc Tryz.prog Tryz.f3 [] false ((World.laidAll Tryz.prog os Rows.sessionMakesRow.laid).forCall (fun _ _ => 0) ⟨#[], a0, []⟩).memory a0 8 = true := by kernel_rfl
theorem wsz (os : Os) (H : Type) (enc : TypeId × Value → H) : Rows.sessionMakesSpec.sizedB enc Tryz.prog Tryz.f3 false ((World.laidAll Tryz.prog os Rows.sessionMakesRow.laid).forCall (fun _ _ => 0) ⟨#[], a0, []⟩).memory a0 8 = true := by kernel_rfl
theorem wplain : (Rows.sessionMakesRow.laid.all fun x => x.2.handleName?.isNone) = true := by kernel_rfl
theorem wfit (os : Os) : (World.holding Tryz.prog os ⟨#[], #[], []⟩).layFits Tryz.prog Rows.sessionMakesRow.laid [] = true := by kernel_rfl
theorem wif (os : Os) : (World.holding Tryz.prog os ⟨#[], #[], []⟩).layIfaces Tryz.prog Rows.sessionMakesRow.laid (World.laidAll Tryz.prog os Rows.sessionMakesRow.laid) = true := by kernel_rfl
theorem wmet (os : Os) : laidMetH Tryz.prog Rows.sessionMakesRow.laid ((World.laidAll Tryz.prog os Rows.sessionMakesRow.laid).forCall (fun _ _ => 0) ⟨#[], a0, []⟩).memory := by
  rw [MakeChecks.laidMetH_plain _ _ _ wplain]
  exact laidMet_laidAll _ (wfit os) (wif os)
end Go.Proofs.YtcnkdagngaomdaaGreatDoor
