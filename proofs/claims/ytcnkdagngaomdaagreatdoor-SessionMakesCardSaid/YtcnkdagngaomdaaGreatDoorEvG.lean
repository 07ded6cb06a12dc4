/-
  THE EVALUATOR, REGIONS WHOSE ORDER IS DRAWN: run in the text's order, each operation on what no operation unordered with it can have touched.
-/
import Derived.Test.YtcnkdagngaomdaaGreatDoorEvE
namespace Go.Ev
noncomputable section
open Go

/-- One operation's run. -/
structure Rec where
  i : Nat
  o : Oper
  m : Nat
  t : T Value
  pre : Hp
  v : Value
  post : Hp
  W : List Nat

def blk : Value → List Nat
  | .pointer (some a) => [a.block]
  | .slice (some a) _ _ => [a.block]
  | .map (some r) => [r]
  | _ => []

def blks : List Value → List Nat
  | [] => []
  | v :: r => blk v ++ blks r

/-- The blocks an operation may look at, where that is known ahead. -/
def sight (ρ : Operand → Value) (o : Oper) : Option (List Nat) :=
  match o.op with
  | .load _ a => some (blk (ρ a))
  | .store _ a _ => some (blk (ρ a))
  | .lookup _ x _ _ => some (blk (ρ x))
  | .mapUpdate _ x _ _ => some (blk (ρ x))
  | .insert _ x _ _ => some (blk (ρ x))
  | .range _ x => some (blk (ρ x))
  | .convert _ _ x => some (blk (ρ x))
  | .next _ _ => none
  | .entry _ => none
  | .call ⟨.builtin _, args, _⟩ => some (blks (args.toList.map ρ))
  | .call _ => none
  | _ => some []

def ins (b : Nat) : List Nat → List Nat
  | [] => [b]
  | a :: r => cond (Nat.ble b a) (b :: a :: r) (a :: ins b r)
def sorted : List Nat → List Nat
  | [] => []
  | b :: r => ins b (sorted r)
/-- All but these. -/
def gaps (c : Nat) : List Nat → Nat → List (Nat × Nat)
  | [], lo => [(lo, c)]
  | b :: r, lo => cond (Nat.ble b c) ((lo, b) :: gaps c r (Nat.succ b)) [(lo, c)]

def singles : List Nat → List (Nat × Nat) → List (Nat × Nat)
  | [], k => k
  | b :: r, k => (b, Nat.succ b) :: singles r k

/-- What operations unordered with this one have laid or changed. -/
def hides (m : Nat) (base : List (Nat × Nat)) : List Rec → List (Nat × Nat)
  | [] => base
  | r :: rs => cond (Nat.testBit m r.i) (hides m base rs) ((r.pre.c, r.post.c) :: singles r.W (hides m base rs))

def low (c : Nat) : List Nat → List Nat
  | [] => []
  | b :: r => cond (Nat.blt b c) (b :: low c r) (low c r)

/-- No operation unordered with this one and ahead of it in the text can see what this one changes. -/
def unseen (m : Nat) (W : List Nat) : List Rec → Bool
  | [] => true
  | r :: rs => cond (cond (Nat.testBit m r.i) true (allB (fun b => cond (Nat.ble r.pre.c b) true (hidden r.pre.hid b)) W)) (unseen m W rs) false

def tmpsOf : List Operand → List Nat
  | [] => []
  | .tmp i :: r => i :: tmpsOf r
  | _ :: r => tmpsOf r

def looksE (all : List Oper) (o : Oper) : List Nat :=
  match o.guard with
  | none => tmpsOf o.op.operands.toList
  | some (j, _) => match nth all j with
    | some g => match g.dst with
      | some d => d :: tmpsOf o.op.operands.toList
      | none => tmpsOf o.op.operands.toList
    | none => tmpsOf o.op.operands.toList

def apartE (all : List Oper) (x y : Oper) : Bool :=
  cond (match x.dst with
    | none => true
    | some d => cond (memN (looksE all y) d) false (match y.dst with | some e => cond (Nat.beq d e) false true | none => true))
   (match y.dst with
    | none => true
    | some d => cond (memN (looksE all x) d) false true) false

def aparts (all : List Oper) (m : Nat) (o : Oper) : List Rec → Bool
  | [] => true
  | r :: rs => cond (cond (Nat.testBit m r.i) true (apartE all r.o o)) (aparts all m o rs) false

def maskOf (hist : List Rec) (i : Nat) : Option Nat :=
  match hist with
  | [] => none
  | r :: rs => cond (Nat.beq r.i i) (some r.m) (maskOf rs i)

/-- The operations that come ahead of one, bit by bit. -/
def predMask (hist : List Rec) : List Edge → Option Nat
  | [] => some 0
  | e :: r => cond (Region.binds .any e)
    (match maskOf hist e.on with
     | some a => match predMask hist r with
       | some b => some (Nat.lor (Nat.lor a (Nat.shiftLeft 1 e.on)) b)
       | none => none
     | none => none)
    (predMask hist r)

section
variable (P : Program) (tt : T TI) (call : Nat → List Value → Hp → Option CR)

def drawGo (n : Nat) (all : List Oper) (hid : List (Nat × Nat)) : List Oper → Nat → List Rec → T Value → Hp → Option RR
  | [], _, _, t, h => some (.ok t h)
  | o :: r, j, hist, t, h => match predMask hist o.after.toList with
    | none => none
    | some m => cond (aparts all m o hist)
      (match wantsE all t o with
       | some true =>
         match opE P tt call (aval t) o (preOf t o m hist h) with
         | some (.val v h') => match put n t o.dst v with
           | some t' => cond (Nat.ble h.c h'.c) (cond (unseen m (low h.c h'.wr) hist)
               (drawGo n all hid r (Nat.succ j) (⟨j, o, m, t, preOf t o m hist h, v, h', low h.c h'.wr⟩ :: hist) t' ⟨h'.t, h'.c, hid, low h.c h'.wr ++ h.wr⟩) none) none
           | none => none
         | _ => none
       | some false => match put n t o.dst undef with
         | some t' => drawGo n all hid r (Nat.succ j) (⟨j, o, m, t, preOf t o m hist h, undef, preOf t o m hist h, []⟩ :: hist) t' h
         | none => none
       | none => none) none
  where
  preOf (t : T Value) (o : Oper) (m : Nat) (hist : List Rec) (h : Hp) : Hp :=
    ⟨h.t, h.c, match sight (aval t) o with
      | some l => gaps h.c (sorted l) 0 ++ hides m hid hist
      | none => hides m hid hist, []⟩

def drawE (n : Nat) (ops : List Oper) (t : T Value) (h : Hp) : Option RR := drawGo P tt call n ops h.hid ops 0 [] t h
end
end
end Go.Ev
