/-
  THE EVALUATOR, CLOSED: runs from nothing.
-/
import Derived.Test.YtcnkdagngaomdaaGreatDoorEvP
import Derived.Test.YtcnkdagngaomdaaGreatDoorEvD
namespace Go.Ev
open Go
noncomputable section
/-- The functions that may be run, by number. -/
def fnsOf (P : Program) (d : Nat) : T Func := mkT (fun k => match P.funcs.toList[k]? with | some f => cond (fnOk 0 f) (some f) none | none => none) d 1 0

/-- The special functions: one that recovers, and the model's entry for maps.clone. -/
def prims (P : Program) (tt : T TI) (ft : T Func) (K catchId : Nat) (cloneId : Option Nat) (f : Nat) : Option (CallF → List Value → Hp → Option CR) :=
  cond (Nat.beq f catchId)
    (match ft.get f with
     | some fn => some fun call => catchE P tt call (drawF P tt call) K ft fn
     | none => none)
    (match cloneId with | some c => cond (Nat.beq f c) (some xClone) none | none => none)

/-- A run from nothing. -/
def run0 (P : Program) (dt df K catchId : Nat) (cloneId : Option Nat) (depth k : Nat) : Option CR :=
  callE P (mkT (tiOf P) dt 1 0) (fnsOf P df) (prims P (mkT (tiOf P) dt 1 0) (fnsOf P df) K catchId cloneId) (drawF P (mkT (tiOf P) dt 1 0)) K depth k [] ⟨.e, 0, [], []⟩

/-- An example that has been shown to answer true. -/
def pTrue (_ : CallF) (as : List Value) (h : Hp) : Option CR :=
  match as with
  | [] => some (.ret (.bool true) h)
  | _ => none

/-- The special functions, and an example that is known. -/
def primsX (P : Program) (tt : T TI) (ft : T Func) (K catchId : Nat) (cloneId known : Option Nat) (f : Nat) : Option (CallF → List Value → Hp → Option CR) :=
  match known with
  | some a => cond (Nat.beq f a) (some pTrue) (prims P tt ft K catchId cloneId f)
  | none => prims P tt ft K catchId cloneId f

/-- A run with arguments, from nothing. -/
def runA (P : Program) (dt df K catchId : Nat) (cloneId known : Option Nat) (depth k : Nat) (as : List Value) : Option CR :=
  callE P (mkT (tiOf P) dt 1 0) (fnsOf P df) (primsX P (mkT (tiOf P) dt 1 0) (fnsOf P df) K catchId cloneId known) (drawF P (mkT (tiOf P) dt 1 0)) K depth k as ⟨.e, 0, [], []⟩

end
end Go.Ev
