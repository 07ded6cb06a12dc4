/-
  THE EVALUATOR, REGIONS WHOSE ORDER IS DRAWN, QUICKER: what the text alone tells is reckoned from the text alone.
-/
import Derived.Test.YtcnkdagngaomdaaGreatDoorEvG
namespace Go.Ev
open Go
noncomputable section

/-- What the text tells of an operation that came before. -/
structure Tri where
  i : Nat
  o : Oper
  m : Nat

def tri (r : Rec) : Tri := ⟨r.i, r.o, r.m⟩

def maskS (hs : List Tri) (i : Nat) : Option Nat :=
  List.rec (motive := fun _ => Option Nat) none (fun r _ ih => cond (Nat.beq r.i i) (some r.m) ih) hs

def predS (hs : List Tri) (es : List Edge) : Option Nat :=
  List.rec (motive := fun _ => Option Nat) (some 0) (fun e _ ih => cond (Region.binds .any e)
    (oK (maskS hs e.on) fun a => oK ih fun b => some (Nat.lor (Nat.lor a (Nat.shiftLeft 1 e.on)) b)) ih) es

def apartsS (all : List Oper) (m : Nat) (o : Oper) (hs : List Tri) : Bool :=
  List.rec (motive := fun _ => Bool) true (fun r _ ih => cond (cond (Nat.testBit m r.i) true (apartE all r.o o)) ih false) hs

/-- Which of those that came before surely come before. -/
def bitsS (m : Nat) (hs : List Tri) : List Bool :=
  List.rec (motive := fun _ => List Bool) [] (fun r _ ih => Nat.testBit m r.i :: ih) hs

/-- For each operation its mask and bits; none where the text alone forbids the run. -/
def plan (all : List Oper) (l : List Oper) : Nat → List Tri → Option (List (Nat × List Bool)) :=
  List.rec (motive := fun _ => Nat → List Tri → Option (List (Nat × List Bool))) (fun _ _ => some [])
    (fun o _ ih j hs => oK (predS hs o.after.toList) fun m => cond (apartsS all m o hs)
      (oK (ih (Nat.succ j) (⟨j, o, m⟩ :: hs)) fun l => some ((m, bitsS m hs) :: l)) none) l

def hidesF (base : List (Nat × Nat)) (rs : List Rec) : List Bool → List (Nat × Nat) :=
  List.rec (motive := fun _ => List Bool → List (Nat × Nat)) (fun _ => base)
    (fun r _ ih bs => List.rec (motive := fun _ => List (Nat × Nat)) base (fun b bt _ => cond b (ih bt) ((r.pre.c, r.post.c) :: singles r.W (ih bt))) bs) rs

def unseenF (m : Nat) (W : List Nat) (rs : List Rec) : Bool :=
  List.rec (motive := fun _ => Bool) true (fun _ _ _ => unseen m W rs) W

def sightF (o : Op) : (Operand → Value) → Option (List Nat) :=
  Op.rec (motive := fun _ => (Operand → Value) → Option (List Nat))
    (fun _ _ => some []) (fun _ _ => some []) (fun _ _ _ _ => some []) (fun _ _ => some []) (fun _ _ _ => some []) (fun _ _ _ => some []) (fun _ _ _ _ => some [])
    (fun _ x _ _ ρ => some (blk (ρ x))) (fun _ a ρ => some (blk (ρ a))) (fun _ a _ ρ => some (blk (ρ a))) (fun _ _ => some []) (fun _ _ => some []) (fun _ _ => some []) (fun _ _ _ _ _ _ => some [])
    (fun _ _ _ _ => some []) (fun _ _ x ρ => some (blk (ρ x))) (fun _ _ _ => some []) (fun _ _ _ => some []) (fun _ _ _ _ => some []) (fun _ _ _ => some []) (fun _ _ _ => some [])
    (fun _ _ _ _ => some []) (fun _ _ _ _ _ _ => some []) (fun _ _ _ _ => some []) (fun _ _ _ _ => some []) (fun _ _ _ _ => some []) (fun _ _ _ _ => some [])
    (fun _ x _ _ ρ => some (blk (ρ x))) (fun _ x _ _ ρ => some (blk (ρ x))) (fun _ _ _ _ => some []) (fun _ _ _ _ _ => some []) (fun _ x ρ => some (blk (ρ x))) (fun _ _ _ => none) (fun _ _ => none)
    (fun _ _ _ _ _ => some []) (fun _ _ _ => some [])
    (fun c ρ => Callee.rec (motive := fun _ => Option (List Nat)) (fun _ => none) (fun _ _ => none) (fun _ => some (blks (c.args.toList.map ρ))) c.callee)
    (fun _ _ => some []) (fun _ _ => some []) (fun _ _ => some []) (fun _ _ _ => some []) (fun _ _ _ _ => some []) (fun _ _ _ => some []) o

section
variable (P : Program) (tt : T TI) (call : Nat → List Value → Hp → Option CR)

def hidF (hid : List (Nat × Nat)) (o : Oper) (hist : List Rec) (bs : List Bool) (t : T Value) (c : Nat) : List (Nat × Nat) :=
  oE (sightF o.op (aval t)) (hidesF hid hist bs) fun l => gaps c (sorted l) 0 ++ hidesF hid hist bs

def preF (hid : List (Nat × Nat)) (o : Oper) (hist : List Rec) (bs : List Bool) (t : T Value) (h : Hp) : Hp := ⟨h.t, h.c, hidF hid o hist bs t h.c, []⟩

abbrev DrawK := List (Nat × List Bool) → Nat → List Rec → T Value → Hp → Option RR

def drawRun (n : Nat) (hid : List (Nat × Nat)) (o : Oper) (ih : DrawK) (m : Nat) (ps : List (Nat × List Bool)) (j : Nat) (hist : List Rec) (t : T Value) (h pre : Hp) : Option RR :=
  orK (opE P tt call (aval t) o pre) (fun v h' => oK (put n t o.dst v) fun t' => cond (Nat.ble h.c h'.c) (cond (unseenF m (low h.c h'.wr) hist)
    (ih ps (Nat.succ j) (⟨j, o, m, t, pre, v, h', low h.c h'.wr⟩ :: hist) t' ⟨h'.t, h'.c, hid, low h.c h'.wr ++ h.wr⟩) none) none) (fun _ _ => none)

def drawSkip (n : Nat) (o : Oper) (ih : DrawK) (m : Nat) (ps : List (Nat × List Bool)) (j : Nat) (hist : List Rec) (t : T Value) (h pre : Hp) : Option RR :=
  oK (put n t o.dst undef) fun t' => ih ps (Nat.succ j) (⟨j, o, m, t, pre, undef, pre, []⟩ :: hist) t' h

def drawR (n : Nat) (all : List Oper) (hid : List (Nat × Nat)) (l : List Oper) : DrawK :=
  List.rec (motive := fun _ => DrawK) (fun _ _ _ t h => some (.ok t h))
    (fun o _ ih ps j hist t h => List.rec (motive := fun _ => Option RR) none (fun p ps _ =>
      wantK (wantsE all t o) (drawRun P tt call n hid o ih p.1 ps j hist t h (preF hid o hist p.2 t h)) (drawSkip n o ih p.1 ps j hist t h (preF hid o hist p.2 t h))) ps) l

def drawF (n : Nat) (ops : List Oper) (t : T Value) (h : Hp) : Option RR :=
  oK (plan ops ops 0 []) fun ps => drawR P tt call n ops h.hid ops ps 0 [] t h
end
end
end Go.Ev
