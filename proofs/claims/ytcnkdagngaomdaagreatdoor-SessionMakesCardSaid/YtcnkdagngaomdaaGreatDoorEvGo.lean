/-
  A PROGRAM NONE OF WHOSE FUNCTIONS STARTS A GOROUTINE: told in one pass over its functions.
-/
import GoSem.ClaimGoes
namespace Go.Ev
open Go

/-- No function of a list starts a goroutine. -/
noncomputable def stillAll (l : List Func) : Bool := List.rec (motive := fun _ => Bool) true (fun f _ ih => cond (Func.goes f) false ih) l

theorem stillAll_mem : ∀ {l : List Func}, stillAll l = true → ∀ f ∈ l, Func.goes f = false
  | [], _, f, h => by cases h
  | a :: r, e, f, h => by
    replace e : cond (Func.goes a) false (stillAll r) = true := e
    cases ha : Func.goes a with
    | true => rw [ha] at e; cases e
    | false =>
      rw [ha] at e
      rcases List.mem_cons.1 h with rfl | h
      · exact ha
      · exact stillAll_mem e f h

theorem goes_none {P : Program} (h : stillAll P.funcs.toList = true) (f : FuncId) : P.goes f = false := by
  have all : ∀ fn ∈ P.funcs, Func.goes fn = false := fun fn hm => stillAll_mem h fn (Array.mem_toList_iff.2 hm)
  have one : ∀ g : Nat, (P.funcs[g]?).any Func.goes = false := by
    intro g
    cases hg : P.funcs[g]? with
    | none => rfl
    | some fn => exact all fn (Array.mem_of_getElem? hg)
  unfold Program.goes
  have h1 : ((P.closure f).any fun g => (P.funcs[g]?).any Func.goes) = false := by
    simp [one]
  have h2 : P.funcs.any Func.goes = false := by
    rw [Array.any_eq_false]
    intro i hi
    simpa using all _ (Array.getElem_mem hi)
  rw [h1, h2]
  simp

theorem goesBy_none {P : Program} (h : stillAll P.funcs.toList = true) {c : OpenClaim} (hs : c.start = .entering) : false = c.goesBy P := by
  unfold OpenClaim.goesBy Program.goesAt Program.goesFrom
  rw [hs]
  cases P.funcNamed c.func with
  | none => rfl
  | some f => simp [goes_none h f]
end Go.Ev
