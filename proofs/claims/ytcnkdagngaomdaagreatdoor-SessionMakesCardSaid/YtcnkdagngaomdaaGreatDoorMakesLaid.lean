/-
  Each row of the table of types is in order, a hundred rows a time. No condition.
-/
import Derived.Test.YtcnkdagngaomdaaGreatDoorRows
import Derived.JoinedOf
import Derived.KernelRfl
namespace Go.Proofs.YtcnkdagngaomdaaGreatDoor
open Go
theorem rows0 : (List.range' 0 100).all (rowFine Tryz.prog) = true := by kernel_rfl
theorem rows1 : (List.range' 100 100).all (rowFine Tryz.prog) = true := by kernel_rfl
theorem rows2 : (List.range' 200 100).all (rowFine Tryz.prog) = true := by kernel_rfl
theorem rows3 : (List.range' 300 100).all (rowFine Tryz.prog) = true := by kernel_rfl
theorem rows4 : (List.range' 400 100).all (rowFine Tryz.prog) = true := by kernel_rfl
theorem rows5 : (List.range' 500 100).all (rowFine Tryz.prog) = true := by kernel_rfl
theorem rows6 : (List.range' 600 100).all (rowFine Tryz.prog) = true := by kernel_rfl
theorem rows7 : (List.range' 700 81).all (rowFine Tryz.prog) = true := by kernel_rfl
theorem rowsSplit : List.range Tryz.prog.types.size = List.range' 0 100 ++ (List.range' 100 100 ++ (List.range' 200 100 ++ (List.range' 300 100 ++ (List.range' 400 100 ++ (List.range' 500 100 ++ (List.range' 600 100 ++ (List.range' 700 81))))))) := by kernel_rfl
theorem globalsFine : Tryz.prog.globals.all (fun g => decide (g.type < Tryz.prog.types.size)) = true := by kernel_rfl
theorem paramsFine : Tryz.prog.funcs.all (fun f => f.params.all fun t => decide (t < Tryz.prog.types.size)) = true := by kernel_rfl
theorem fact2 : (laidOutB Tryz.prog) = true := by
  unfold laidOutB
  rw [rowsSplit, globalsFine, paramsFine]
  simp only [List.all_append, rows0, rows1, rows2, rows3, rows4, rows5, rows6, rows7, Bool.and_self]
end Go.Proofs.YtcnkdagngaomdaaGreatDoor
