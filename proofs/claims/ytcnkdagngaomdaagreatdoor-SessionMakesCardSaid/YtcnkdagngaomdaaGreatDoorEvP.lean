/-
  THE EVALUATOR, A FUNCTION THAT DEFERS ONE CALL AND RECOVERS IN IT; AND THE MODEL'S OWN ENTRIES.
-/
import Derived.Test.YtcnkdagngaomdaaGreatDoorEvG
namespace Go.Ev
noncomputable section
open Go

section
variable (P : Program) (tt : T TI) (call : CallF) (draw : Nat → List Oper → T Value → Hp → Option RR) (K : Nat)

/-- Code that asks first what it is called for. -/
def recE (n : Nat) (c : Code) (rv : Value) (t : T Value) (h : Hp) : Option CE :=
  match c with
  | .seq (.region _ ops false) rest => match ops.toList with
    | o0 :: r => match o0.op, o0.guard with
      | .call ⟨.builtin .recover, ⟨[]⟩, _⟩, none => match put n t o0.dst rv with
        | some t1 => match seqE P tt call n (o0 :: r) r t1 h with
          | some (.ok t2 h2) => codeE P tt call draw n K rest t2 h2
          | _ => none
        | none => none
      | _, _ => none
    | [] => none
  | _ => none

/-- A deferred call that ends well. -/
def deferredE (gn : Func) (as : List Value) (rv : Value) (h : Hp) : Option Hp :=
  match gn.body with
  | none => none
  | some c => cond (Nat.ble (len as) gn.ntmps)
    (match recE P tt call draw K gn.ntmps c rv (args0 as 0 .e) h with
     | some ⟨.normal, t, h'⟩ => match doneE tt gn t h' with
       | some _ => some h'
       | none => none
     | some ⟨.ret, t, h'⟩ => match doneE tt gn t h' with
       | some _ => some h'
       | none => none
     | _ => none) none

def leaveE (ft : T Func) (fn : Func) (g : Nat) (as : List Value) (rv : Value) (t : T Value) (h : Hp) : Option CR :=
  match ft.get g with
  | none => none
  | some gn => match deferredE P tt call draw K gn as rv h with
    | some h2 => cond (Nat.ble h.c h2.c) (doneE tt fn t h2) none
    | none => none

/-- A function that defers one call ahead of all else. -/
def catchE (ft : T Func) (fn : Func) (as : List Value) (h : Hp) : Option CR :=
  match fn.body with
  | some (.seq c0 (.seq (.region _ ops false) rest)) => match ops.toList with
    | [m, d] => match m.guard, d.guard, d.op with
      | none, none, .defer ⟨.value f, ⟨[]⟩, _⟩ => cond (Nat.ble (len as) fn.ntmps)
        (match codeE P tt call draw fn.ntmps K c0 (args0 as 0 .e) h with
         | some ⟨.normal, t0, h0⟩ => match opE P tt call (aval t0) m h0 with
           | some (.val fv h1) => match put fn.ntmps t0 m.dst fv with
             | some t1 => match aval t1 f with
               | .func (.func g) ⟨fa⟩ ⟨ca⟩ => match put fn.ntmps t1 d.dst undef with
                 | some t2 => cond (Nat.ble h0.c h1.c) (match codeE P tt call draw fn.ntmps K rest t2 h1 with
                   | some ⟨.normal, t, h2⟩ => leaveE P tt call draw K ft fn g (fa ++ ca) .nilIface t h2
                   | some ⟨.ret, t, h2⟩ => leaveE P tt call draw K ft fn g (fa ++ ca) .nilIface t h2
                   | some ⟨.pan v, t, h2⟩ => leaveE P tt call draw K ft fn g (fa ++ ca) v t h2
                   | _ => none) none
                 | none => none
               | _ => none
             | none => none
           | _ => none
         | _ => none) none
      | _, _, _ => none
    | _ => none
  | _ => none
end

/-- The model's entry for maps.clone. -/
def xClone (_ : CallF) (as : List Value) (h : Hp) : Option CR :=
  match as with
  | [.iface t (.map (some r))] => match h.get r with
    | some (.map es c) => match h.new (.map es c) with
      | some (id, h') => some (.ret (.iface t (.map (some id))) h')
      | none => none
    | _ => none
  | _ => none
end
end Go.Ev
