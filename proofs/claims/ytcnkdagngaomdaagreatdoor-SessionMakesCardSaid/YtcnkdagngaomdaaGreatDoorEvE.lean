/-
  THE EVALUATOR, CONTROL: regions, code, bodies, calls. (What EvB says of these is an older draft; this one is proved.)
-/
import Derived.Test.YtcnkdagngaomdaaGreatDoorEvB
namespace Go.Ev
noncomputable section
open Go

def OR.h : OR → Hp
  | .val _ h => h
  | .pan _ h => h
def CR.h : CR → Hp
  | .ret _ h => h
  | .pan _ h => h
def RR.h : RR → Hp
  | .ok _ h => h
  | .pan _ _ h => h

def oK {α β : Type} (x : Option α) (k : α → Option β) : Option β := Option.rec (motive := fun _ => Option β) none k x
def oE {α β : Type} (x : Option α) (d : β) (k : α → β) : β := Option.rec (motive := fun _ => β) d k x

/-- Has the guard yielded what is asked. -/
def wantsG (all : List Oper) (t : T Value) (j : Nat) (want : Bool) : Option Bool :=
  match nth all j with
  | some g => match g.dst with
    | some d => match t.get d with
      | some (.bool b) => some (cond want b (cond b false true))
      | some (.tuple _) => some false
      | none => some false
      | _ => none
    | none => some false
  | none => some false

/-- Is an operation wanted: its guard has yielded what it asks. -/
def wantsE (all : List Oper) (t : T Value) (o : Oper) : Option Bool := oE o.guard (some true) fun p => wantsG all t p.1 p.2

theorem wantsE_eq (all : List Oper) (t : T Value) (o : Oper) : wantsE all t o = (match o.guard with
  | none => some true
  | some (j, want) => match nth all j with
    | some g => match g.dst with
      | some d => match t.get d with
        | some (.bool b) => some (cond want b (cond b false true))
        | some (.tuple _) => some false
        | none => some false
        | _ => none
      | none => some false
    | none => some false) := by
  unfold wantsE
  cases o.guard with
  | none => rfl
  | some p => rfl

/-- Opaque values bear in their number what is known of them: of kind 1 are whole numbers between two bounds; of kind 2 texts whose length is an opaque number. -/
def tlo (k : Nat) : Int := Int.sub (Int.ofNat (Nat.mod (Nat.div k 4) 36893488147419103232)) 18446744073709551616
def thi (k : Nat) : Int := Int.sub (Int.ofNat (Nat.mod (Nat.div (Nat.div k 4) 36893488147419103232) 36893488147419103232)) 18446744073709551616

def cmpTok (op : BinOp) (k : Nat) (c : Int) : Option Bool :=
  cond (Nat.beq (Nat.mod k 4) 1) (cond (decide (tlo k ≤ thi k)) (match op with
    | .lss => cond (decide (thi k < c)) (some true) (cond (decide (c ≤ tlo k)) (some false) none)
    | .leq => cond (decide (thi k ≤ c)) (some true) (cond (decide (c < tlo k)) (some false) none)
    | .gtr => cond (decide (c < tlo k)) (some true) (cond (decide (thi k ≤ c)) (some false) none)
    | .geq => cond (decide (c ≤ tlo k)) (some true) (cond (decide (thi k < c)) (some false) none)
    | _ => none) none) none

def lenTok (k : Nat) : Option Nat :=
  cond (Nat.beq (Nat.mod k 4) 2) (cond (Nat.beq (Nat.mod (Nat.div k 4) 4) 1) (cond (decide (0 ≤ tlo (Nat.div k 4))) (cond (decide (tlo (Nat.div k 4) ≤ thi (Nat.div k 4))) (some (Nat.div k 4)) none) none) none) none

/-- What opaque values may be asked. -/
def tokOp (tt : T TI) (ρ : Operand → Value) (o : Oper) : Option Value :=
  match o.op with
  | .binOp op _ x y _ => match ρ x with
    | .chan (some k) => match ρ y with
      | .int .i64 c => match cmpTok op k c with
        | some b => some (.bool b)
        | none => none
      | _ => none
    | _ => none
  | .call ⟨.builtin .len, ⟨[x]⟩, ⟨t :: _⟩⟩ => match ρ x with
    | .chan (some k) => match tt.get t with
      | some ⟨.string, _, _, _⟩ => match lenTok k with
        | some l => some (.chan (some l))
        | none => none
      | _ => none
    | _ => none
  | _ => none

section
variable (P : Program) (tt : T TI) (call : Nat → List Value → Hp → Option CR)

/-- One operation, a call too: what it is. -/
def opS (ρ : Operand → Value) (o : Oper) (h : Hp) : Option OR :=
  match tokOp tt ρ o with
  | some v => some (.val v h)
  | none => match o.op with
  | .call ⟨.value f, args, _⟩ => match target ρ f (args.toList.map ρ) with
    | some (k, as) => match call k as h with
      | some (.ret v h') => some (.val v h')
      | some (.pan v h') => some (.pan v h')
      | none => none
    | none => none
  | .panic x => match ρ x with
    | .iface t v => some (.pan (.iface t v) h)
    | _ => none
  | _ => match aop P tt ρ o h with
    | some (.val v h') => some (.val v h')
    | _ => none

end

/-- Values told apart, by one table. -/
def vPtr (v : Value) : (Addr → Option OR) → Option OR :=
  Value.rec (motive_1 := fun _ => (Addr → Option OR) → Option OR) (motive_2 := fun _ => Unit) (motive_3 := fun _ => Unit)
    (fun _ _ => none) (fun _ _ _ => none) (fun _ _ _ => none) (fun _ _ _ _ => none) (fun _ _ => none)
    (fun a k => Option.rec (motive := fun _ => Option OR) none k a)
    (fun _ _ _ _ => none) (fun _ _ => none) (fun _ _ => none) (fun _ _ _ _ _ _ => none) (fun _ => none) (fun _ _ _ _ => none) (fun _ => none) (fun _ _ _ => none) (fun _ _ _ => none)
    (fun _ _ => ()) () (fun _ _ _ _ => ()) v

def vBool (v : Value) : (Bool → Option OR) → Option OR :=
  Value.rec (motive_1 := fun _ => (Bool → Option OR) → Option OR) (motive_2 := fun _ => Unit) (motive_3 := fun _ => Unit)
    (fun b k => k b) (fun _ _ _ => none) (fun _ _ _ => none) (fun _ _ _ _ => none) (fun _ _ => none)
    (fun _ _ => none)
    (fun _ _ _ _ => none) (fun _ _ => none) (fun _ _ => none) (fun _ _ _ _ _ _ => none) (fun _ => none) (fun _ _ _ _ => none) (fun _ => none) (fun _ _ _ => none) (fun _ _ _ => none)
    (fun _ _ => ()) () (fun _ _ _ _ => ()) v

/-- Of a number its kind and itself; of a text its bytes. -/
def vIntStr {α : Type} (v : Value) : (IntKind → Int → α) → (ByteArray → α) → α → α :=
  Value.rec (motive_1 := fun _ => (IntKind → Int → α) → (ByteArray → α) → α → α) (motive_2 := fun _ => Unit) (motive_3 := fun _ => Unit)
    (fun _ _ _ d => d) (fun k n f _ _ => f k n) (fun _ _ _ _ d => d) (fun _ _ _ _ _ d => d) (fun s _ g _ => g s)
    (fun _ _ _ d => d)
    (fun _ _ _ _ _ d => d) (fun _ _ _ d => d) (fun _ _ _ d => d) (fun _ _ _ _ _ _ _ d => d) (fun _ _ d => d) (fun _ _ _ _ _ d => d) (fun _ _ d => d) (fun _ _ _ _ d => d) (fun _ _ _ _ d => d)
    (fun _ _ => ()) () (fun _ _ _ _ => ()) v


def kNum (k : IntKind) : Nat := IntKind.rec (motive := fun _ => Nat) 0 1 2 3 4 5 6 7 k
/-- The first number that a kind hasn't. -/
def kLim (k : IntKind) : Nat := IntKind.rec (motive := fun _ => Nat) 128 32768 2147483648 9223372036854775808 256 65536 4294967296 18446744073709551616 k

/-- Two numbers of no sign. -/
def nats {α : Type} (a b : Int) (f : Nat → Nat → α) (d : α) : α :=
  Int.rec (motive := fun _ => α) (fun p => Int.rec (motive := fun _ => α) (fun q => f p q) (fun _ => d) b) (fun _ => d) a

def fitB (k : IntKind) (n : Nat) : Option Value := cond (Nat.blt n (kLim k)) (some (.int k (.ofNat n))) none
def subB (k : IntKind) (p q : Nat) : Option Value := cond (Nat.ble q p) (fitB k (Nat.sub p q)) none

def binN (op : BinOp) : IntKind → Nat → Nat → Option Value :=
  BinOp.rec (motive := fun _ => IntKind → Nat → Nat → Option Value)
    (fun k p q => fitB k (Nat.add p q)) subB (fun _ _ _ => none) (fun _ _ _ => none) (fun _ _ _ => none)
    (fun _ _ _ => none) (fun _ _ _ => none) (fun _ _ _ => none) (fun _ _ _ => none) (fun _ _ _ => none) (fun _ _ _ => none)
    (fun _ p q => some (.bool (Nat.beq p q))) (fun _ p q => some (.bool (cond (Nat.beq p q) false true)))
    (fun _ p q => some (.bool (Nat.blt p q))) (fun _ p q => some (.bool (Nat.ble p q)))
    (fun _ p q => some (.bool (Nat.blt q p))) (fun _ p q => some (.bool (Nat.ble q p))) op

def binT (op : BinOp) : ByteArray → ByteArray → Option Value :=
  BinOp.rec (motive := fun _ => ByteArray → ByteArray → Option Value)
    (fun _ _ => none) (fun _ _ => none) (fun _ _ => none) (fun _ _ => none) (fun _ _ => none)
    (fun _ _ => none) (fun _ _ => none) (fun _ _ => none) (fun _ _ => none) (fun _ _ => none) (fun _ _ => none)
    (fun a b => some (.bool (bytesEq a.data.toList b.data.toList))) (fun a b => some (.bool (cond (bytesEq a.data.toList b.data.toList) false true)))
    (fun _ _ => none) (fun _ _ => none) (fun _ _ => none) (fun _ _ => none) op

/-- What is reckoned at once. -/
def fastBin (op : BinOp) (a b : Value) : Option Value :=
  vIntStr a (fun k m => vIntStr b (fun k' n => cond (Nat.beq (kNum k) (kNum k')) (nats m n (binN op k) none) none) (fun _ => none) none)
    (fun s => vIntStr b (fun _ _ => none) (fun s' => binT op s s') none) none

def only (x : Option OR) : Option OR :=
  match x with
  | some (.val v h) => some (.val v h)
  | _ => none

def tokBin (op : BinOp) (a b : Value) : Option Value :=
  match a with
  | .chan (some k) => match b with
    | .int .i64 c => match cmpTok op k c with
      | some b => some (.bool b)
      | none => none
    | _ => none
  | _ => none

def tokLen (tt : T TI) (t : TypeId) (a : Value) : Option Value :=
  match a with
  | .chan (some k) => match tt.get t with
    | some ⟨.string, _, _, _⟩ => match lenTok k with
      | some l => some (.chan (some l))
      | none => none
    | _ => none
  | _ => none

def slowBin (P : Program) (tt : T TI) (op : BinOp) (xt : TypeId) (x y : Operand) (a b : Value) (h : Hp) : Option OR :=
  match tokBin op a b with
  | some v => some (.val v h)
  | none => only (aBin P tt h op xt x y a b)

abbrev CallG := Nat → List Value → Hp → Option CR
abbrev OpF := Program → T TI → CallG → (Operand → Value) → Oper → Hp → Option OR

def fMove (x : Operand) : OpF := fun _ _ _ ρ _ h => some (.val (ρ x) h)
def fPick (c a b : Operand) : OpF := fun _ _ _ ρ _ h => vBool (ρ c) fun t => some (.val (cond t (ρ a) (ρ b)) h)
/-- The cells of a new variable. -/
def zeroC (tt : T TI) (e : TypeId) : Option (List Value) := oK (zeroL tt e) fun z => cond (flat z) (some (cellsL z)) none
def newP (h : Hp) (c : List Value) : Option OR := cond (Nat.ble h.c 1000000000) (some (.val (ptr0 h.c) ⟨h.t.set 40 h.c (.cells c 0 false), Nat.succ h.c, h.hid, h.wr⟩)) none
def fAlloc (e : TypeId) : OpF := fun _ tt _ _ _ h => oK (zeroC tt e) fun c => newP h c
def fBox (_ : TypeId) (x : Operand) : OpF := fun _ _ _ ρ _ h => newP h (cellsL (ρ x))
def fBuild (t : TypeId) (ps : Array (Nat × Operand)) : OpF := fun _ tt _ ρ _ h => only (aBuild tt h t (ps.toList.map fun p => (p.1, ρ p.2)))
def fBuildSlice (t : TypeId) (n : Nat) (ps : Array (Nat × Operand)) : OpF := fun _ tt _ ρ _ h => only (aBuildSlice tt h t n (ps.toList.map fun p => (p.1, ρ p.2)))
def fInsert (t : TypeId) (m k v : Operand) : OpF := fun _ tt _ ρ _ h => only (aMapUpdate tt h t (ρ m) (ρ k) (ρ v))
def fLoad (t : TypeId) (a : Operand) : OpF := fun _ tt _ ρ _ h => vPtr (ρ a) fun a => oK (loadL tt h t a) fun v => some (.val v h)
def fStore (t : TypeId) (a x : Operand) : OpF := fun _ tt _ ρ _ h => vPtr (ρ a) fun a => oK (storeL tt h t a (ρ x)) fun h' => some (.val undef h')
def fNone : OpF := fun _ _ _ _ _ _ => none
def fSlow : OpF := fun P tt call ρ o h => opS P tt call ρ o h
def nilC (v : Value) (h : Hp) : Option OR :=
  match v with
  | .pointer (some a) => some (.val (.pointer (some a)) h)
  | .iface t v => some (.val (.iface t v) h)
  | .func (.func f) a c => some (.val (.func (.func f) a c) h)
  | _ => none
def fNil (x : Operand) : OpF := fun _ _ _ ρ _ h => nilC (ρ x) h
def fBin (op : BinOp) (xt : TypeId) (x y : Operand) (_ : TypeId) : OpF := fun P tt _ ρ _ h =>
  oE (fastBin op (ρ x) (ρ y)) (slowBin P tt op xt x y (ρ x) (ρ y) h) fun v => some (.val v h)
def notB (op : UnOp) (v : Value) : Option Bool :=
  match op, v with
  | .not, .bool b => some (cond b false true)
  | _, _ => none
def fUn (op : UnOp) (_ : TypeId) (x : Operand) : OpF := fun P _ _ ρ _ h =>
  oE (notB op (ρ x)) (only (cond (flat (ρ x)) (pureNext P h (vNext (Op.unary op (ρ x)))) none)) fun b => some (.val (.bool b) h)
def fConv (s d : TypeId) (x : Operand) : OpF := fun _ tt _ ρ _ h => only (aConvert tt h s d (ρ x))
def mkI (tt : T TI) (t : TypeId) : Bool :=
  match tt.get t with
  | some ⟨.iface, _, _, _⟩ => false
  | some _ => true
  | none => false
def fIface (t : TypeId) (x : Operand) : OpF := fun _ tt _ ρ _ h => cond (mkI tt t) (some (.val (.iface t (ρ x)) h)) none
def fFunc (fn : Fn) (first captured : Array Operand) : OpF := fun _ _ _ ρ _ h => some (.val (.func fn ⟨first.toList.map ρ⟩ ⟨captured.toList.map ρ⟩) h)
def fMakeSlice (t : TypeId) (l c : Operand) : OpF := fun _ tt _ ρ _ h => only (aMakeSlice tt h t (ρ l) (ρ c))
def fSlice (t : TypeId) (x : Operand) (lo hi mx : Option Operand) : OpF := fun _ tt _ ρ _ h => only (aSlice tt h t (ρ x) (lo.map ρ) (hi.map ρ) (mx.map ρ))
/-- Where a field that has cells stands. -/
def fieldAt (tt : T TI) (s f : Nat) : Option Nat :=
  match tt.get s with
  | some ⟨.struct fs, _, _, _⟩ => match nth fs f with
    | some (off, ft) => match sizeL tt ft with
      | some n => cond (Nat.beq n 0) none (some off)
      | none => none
    | none => none
  | _ => none
def fFieldAddr (s : TypeId) (x : Operand) (f : Nat) : OpF := fun _ tt _ ρ _ h => vPtr (ρ x) fun a => oK (fieldAt tt s f) fun off => some (.val (.pointer (some (addA a off none))) h)
def fIndexAddr (t : TypeId) (x i : Operand) : OpF := fun _ tt _ ρ _ h => only (aIndexAddr tt h t (ρ x) (ρ i))
def fIndex (t : TypeId) (x i : Operand) : OpF := fun _ tt _ ρ _ h => only (aIndex tt h t (ρ x) (ρ i))
def fLookup (t : TypeId) (x k : Operand) (ok : Bool) : OpF := fun _ tt _ ρ _ h => only (aLookup tt h t (ρ x) (ρ k) ok)
def extr (v : Value) (i : Nat) (h : Hp) : Option OR :=
  match v with
  | .tuple ⟨l⟩ => ret h (nth l i)
  | _ => none
def fExtract (x : Operand) (i : Nat) : OpF := fun _ _ _ ρ _ h => extr (ρ x) i h
def panO (v : Value) (h : Hp) : Option OR :=
  match v with
  | .iface t v => some (.pan (.iface t v) h)
  | _ => none
def fPanic (x : Operand) : OpF := fun _ _ _ ρ _ h => panO (ρ x) h
def crO (x : Option CR) : Option OR := oK x fun r => CR.rec (motive := fun _ => Option OR) (fun v h => some (.val v h)) (fun v h => some (.pan v h)) r
def cValue (f : Operand) (args : Array Operand) (_ : Array TypeId) : OpF := fun _ _ call ρ _ h =>
  oK (target ρ f (args.toList.map ρ)) fun p => crO (call p.1 p.2 h)
def lenB (tt : T TI) (args : List Operand) (ts : List TypeId) (ρ : Operand → Value) : Option Value :=
  match args with
  | [x] => match ts with
    | t :: _ => tokLen tt t (ρ x)
    | _ => none
  | _ => none
def cLen (args : Array Operand) (ts : Array TypeId) : OpF := fun _ tt _ ρ _ h =>
  oE (lenB tt args.toList ts.toList ρ) (only (aLen tt h ts.toList (args.toList.map ρ))) fun v => some (.val v h)
def cBuiltin (b : Builtin) (args : Array Operand) (ts : Array TypeId) : OpF :=
  match b with
  | .len => cLen args ts
  | .append => fun _ tt _ ρ _ h => only (aAppend tt h ts.toList (args.toList.map ρ))
  | b => fun P tt _ ρ o h => only (aBuiltin P tt h b ts.toList o.type (args.toList.map ρ))
def fCall (c : Call) : OpF :=
  Callee.rec (motive := fun _ => Array Operand → Array TypeId → OpF) cValue (fun _ _ _ _ => fNone) cBuiltin c.callee c.args c.argTypes

/-- One operation, a call too. -/
def opE (P : Program) (tt : T TI) (call : CallG) (ρ : Operand → Value) (o : Oper) (h : Hp) : Option OR :=
  Op.rec (motive := fun _ => OpF)
    fMove fMove fPick fAlloc fBox fBuild fBuildSlice fInsert fLoad fStore (fun _ => fNone) (fun _ => fNone) fNil fBin fUn fConv (fun _ _ => fSlow) fIface fFunc (fun _ _ => fSlow) (fun _ _ => fNone)
    fMakeSlice fSlice fFieldAddr (fun _ _ _ => fSlow) fIndexAddr fIndex fLookup fInsert (fun _ _ _ => fNone) (fun _ _ _ _ => fNone) (fun _ _ => fSlow) (fun _ _ => fSlow) (fun _ => fSlow) (fun _ _ _ _ => fSlow)
    fExtract fCall (fun _ => fNone) (fun _ => fNone) fPanic (fun _ _ => fNone) (fun _ _ _ => fNone) (fun _ _ => fNone) o.op P tt call ρ o h

section
variable (P : Program) (tt : T TI) (call : Nat → List Value → Hp → Option CR)

/-- How an operation may end. -/
def orK (x : Option OR) (f g : Value → Hp → Option RR) : Option RR := oK x fun r => OR.rec (motive := fun _ => Option RR) f g r
def wantK (x : Option Bool) (a b : Option RR) : Option RR := oK x fun w => cond w a b

def seqRun (n : Nat) (o : Oper) (ih : T Value → Hp → Option RR) (t : T Value) (h : Hp) : Option RR :=
  orK (opE P tt call (aval t) o h) (fun v h' => oK (put n t o.dst v) fun t' => cond (Nat.ble h.c h'.c) (ih t' h') none) (fun v h' => cond (Nat.ble h.c h'.c) (some (.pan v t h')) none)

def seqSkip (n : Nat) (o : Oper) (ih : T Value → Hp → Option RR) (t : T Value) (h : Hp) : Option RR :=
  oK (put n t o.dst undef) fun t' => ih t' h

/-- The operations of a region, one behind the other. -/
def seqE (n : Nat) (all : List Oper) (l : List Oper) : T Value → Hp → Option RR :=
  List.rec (motive := fun _ => T Value → Hp → Option RR) (fun t h => some (.ok t h))
    (fun o _ ih t h => wantK (wantsE all t o) (seqRun P tt call n o ih t h) (seqSkip n o ih t h)) l

theorem seqE_nil (n : Nat) (all : List Oper) (t : T Value) (h : Hp) : seqE P tt call n all [] t h = some (.ok t h) := rfl

theorem seqE_cons (n : Nat) (all : List Oper) (o : Oper) (r : List Oper) (t : T Value) (h : Hp) : seqE P tt call n all (o :: r) t h = (match wantsE all t o with
    | some true => match opE P tt call (aval t) o h with
      | some (.val v h') => match put n t o.dst v with
        | some t' => cond (Nat.ble h.c h'.c) (seqE P tt call n all r t' h') none
        | none => none
      | some (.pan v h') => cond (Nat.ble h.c h'.c) (some (.pan v t h')) none
      | none => none
    | some false => match put n t o.dst undef with
      | some t' => seqE P tt call n all r t' h
      | none => none
    | none => none) := by
  show wantK (wantsE all t o) (seqRun P tt call n o (seqE P tt call n all r) t h) (seqSkip n o (seqE P tt call n all r) t h) = _
  cases wantsE all t o with
  | none => rfl
  | some b =>
    cases b with
    | false =>
      show seqSkip n o _ t h = _
      unfold seqSkip
      cases put n t o.dst undef <;> rfl
    | true =>
      show seqRun P tt call n o _ t h = _
      unfold seqRun
      cases opE P tt call (aval t) o h with
      | none => rfl
      | some r' =>
        cases r' with
        | val v h' =>
          show oK (put n t o.dst v) _ = _
          show oK (put n t o.dst v) _ = (match put n t o.dst v with | some t' => cond (Nat.ble h.c h'.c) (seqE P tt call n all r t' h') none | none => none)
          cases put n t o.dst v <;> rfl
        | pan v h' => rfl

def ceOf : Option RR → Option CE
  | some (.ok t' h') => some ⟨.normal, t', h'⟩
  | some (.pan v t' h') => some ⟨.pan v, t', h'⟩
  | none => none

def codeE (draw : Nat → List Oper → T Value → Hp → Option RR) (n K : Nat) : Code → T Value → Hp → Option CE
  | .skip, t, h => some ⟨.normal, t, h⟩
  | .label _, t, h => some ⟨.normal, t, h⟩
  | .region _ ops d, t, h => ceOf (cond d (draw n ops.toList t h) (seqE P tt call n ops.toList ops.toList t h))
  | .seq a b, t, h => match codeE draw n K a t h with
    | some ⟨.normal, t', h'⟩ => codeE draw n K b t' h'
    | x => x
  | .cond c a b, t, h => match aval t c with
    | .bool true => codeE draw n K a t h
    | .bool false => codeE draw n K b t h
    | _ => none
  | .block id c, t, h => match codeE draw n K c t h with
    | some ⟨.exit j, t', h'⟩ => cond (Nat.beq j id) (some ⟨.normal, t', h'⟩) (some ⟨.exit j, t', h'⟩)
    | x => x
  | .loop c, t, h => iter (codeE draw n K c) K t h
  | .exit id, t, h => some ⟨.exit id, t, h⟩
  | .ret, t, h => some ⟨.ret, t, h⟩
  | _, _, _ => none

def doneE (fn : Func) (t : T Value) (h : Hp) : Option CR :=
  match resultL tt h t fn.results.toList with
  | some l => some (.ret (one l) h)
  | none => none

def bodyE (draw : Nat → List Oper → T Value → Hp → Option RR) (K : Nat) (fn : Func) (as : List Value) (h : Hp) : Option CR :=
  match fn.body with
  | none => none
  | some c => cond (Nat.ble (len as) fn.ntmps)
    (match codeE P tt call draw fn.ntmps K c (args0 as 0 .e) h with
     | some ⟨.normal, t, h'⟩ => doneE tt fn t h'
     | some ⟨.ret, t, h'⟩ => doneE tt fn t h'
     | some ⟨.pan v, _, h'⟩ => some (.pan v h')
     | _ => none) none

end

abbrev CallF := Nat → List Value → Hp → Option CR

section
variable (P : Program) (tt : T TI) (ft : T Func) (pr : Nat → Option (CallF → List Value → Hp → Option CR))
  (draw : CallF → Nat → List Oper → T Value → Hp → Option RR) (K : Nat)

/-- A call, no deeper than 'd'. -/
def callE : Nat → CallF
  | 0, _, _, _ => none
  | d + 1, f, as, h => match pr f with
    | some p => p (callE d) as h
    | none => match ft.get f with
      | some fn => bodyE P tt (callE d) (draw (callE d)) K fn as h
      | none => none
end

/-- What is looked at once, before any run: constants bear no address, program-level variables are the program's. -/
def opdOk (ng : Nat) : Operand → Bool
  | .const v => flat v
  | .global g => Nat.blt g ng
  | _ => true
def opOk (ng : Nat) (o : Oper) : Bool := allB (opdOk ng) o.op.operands.toList
def codeOk (ng : Nat) : Code → Bool
  | .region _ ops _ => allB (opOk ng) ops.toList
  | .seq a b => cond (codeOk ng a) (codeOk ng b) false
  | .cond c a b => cond (opdOk ng c) (cond (codeOk ng a) (codeOk ng b) false) false
  | .block _ c => codeOk ng c
  | .loop c => codeOk ng c
  | _ => true
/-- A function may be run: it has a body whose operands are in order, few variables, and its name asks for nothing special. -/
def fnOk (ng : Nat) (fn : Func) : Bool :=
  match fn.body with
  | some c => cond (codeOk ng c) (cond (Nat.ble fn.ntmps 1000000) (cond (fn.name == "runtime.NumGoroutine") false true) false) false
  | none => true

end
end Go.Ev
