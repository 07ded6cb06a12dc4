/-
  What the row lists, tied to the program's text, each closed fact by itself. No condition.
-/
import Derived.Test.YtcnkdagngaomdaaGreatDoorRows
import Derived.LaidByTextLater
import Derived.SevenTiedAt
import Derived.KernelRfl
namespace Go.Proofs.YtcnkdagngaomdaaGreatDoor
open Go
noncomputable abbrev tl : List (String × DataW Unit) := [("strconv.ErrSyntax", Rows.laid_strconv_ErrSyntax), ("strconv.ErrRange", Rows.laid_strconv_ErrRange), ("internal/strconv.uint64pow10", Rows.laid_internal_strconv_uint64pow10), ("math/bits.deBruijn32tab", Rows.laid_math_bits_deBruijn32tab), ("math/bits.deBruijn64tab", Rows.laid_math_bits_deBruijn64tab), ("unicode/utf8.acceptRanges", Rows.laid_unicode_utf8_acceptRanges)]
theorem q1 : Tryz.prog.worded (varsWordLater true) = true := by kernel_rfl
theorem q2 : Tryz.prog.worded (varsWordLater !true) = false := by kernel_rfl
theorem q3 : Tryz.prog.worded rootWordLater = true := by kernel_rfl
theorem vid : Tryz.prog.funcNamed "gosem.cut.vars" = some 727 := by kernel_rfl
theorem vars_at : varsId Tryz.prog = 727 := by unfold varsId; rw [vid]; rfl
theorem q5 : (Tryz.prog.funcNamed "gosem.cut.vars").isSome = true := by rw [vid]; rfl
theorem q6 : varsNamedLaterB Tryz.prog (varsId Tryz.prog) tl = true := by rw [vars_at]; kernel_rfl
theorem q7 (os : Os) (tape : Tape) : varsDone Tryz.prog 400 (varsId Tryz.prog) os tape = true := by rw [vars_at]; kernel_rfl
theorem q8 (os : Os) (tape : Tape) : (DataW.laidRun Tryz.prog (varsWorld Tryz.prog 400 (varsId Tryz.prog) os tape).memory 8 (tl.map (·.1))).map (·.1) = some tl := by rw [vars_at]; kernel_rfl
theorem q9 (os : Os) (tape : Tape) : (DataW.laidRun Tryz.prog (varsWorld Tryz.prog 400 (varsId Tryz.prog) os tape).memory 8 (tl.map (·.1))).map (fun x => decide x.2.Nodup && laidRowsB Tryz.prog (varsWorld Tryz.prog 400 (varsId Tryz.prog) os tape).memory x.2) = some true := by rw [vars_at]; kernel_rfl
theorem q4 : tl.map (fun x => Tryz.prog.kindOfLater x.1) = ([.sentinel, .sentinel, .data, .data, .data, .data] : List LaidKind).map some := by kernel_rfl
theorem ownTie : Tryz.prog.laidByTextLater tl [.sentinel, .sentinel, .data, .data, .data, .data] true :=
  Program.laidByTextLater_by_run 400 8 q1 q2 q3 q4 q5 q6 q7 q8 q9
theorem pinFits : Tryz.pinned.checked.prog.pinnedFits "unicode/utf8.first" = true := by kernel_rfl
theorem noUnsafe : Tryz.pinned.checked.prog.headLifts.contains "ownunsafe" = false := by kernel_rfl
theorem listFits : Tryz.pinned.checked.prog.listedFits Rows.sessionMakesRow.laid = true := by
  unfold Program.listedFits
  rw [noUnsafe]
  kernel_rfl
theorem rowTie : Rows.sessionMakesRow.laidByTextAt .later Tryz.pinned [.sentinel, .sentinel, .data, .data, .data, .pinned, .data] true :=
  OpenClaim.laidByTextAt_pinned rfl rfl ownTie rfl rfl rfl rfl (fun y hy _e => by
    simp only [Rows.sessionMakesRow, List.zip_cons_cons, List.zip_nil_right, List.mem_cons, List.mem_nil_iff, or_false] at hy
    rcases hy with rfl | rfl | rfl | rfl | rfl | rfl | rfl
    · cases _e
    · cases _e
    · cases _e
    · cases _e
    · cases _e
    · exact ⟨pinFits, by kernel_rfl⟩
    · cases _e) listFits
end Go.Proofs.YtcnkdagngaomdaaGreatDoor
