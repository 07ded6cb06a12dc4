/-
  THE EVALUATOR, SECOND PART: operations, regions, code, calls.
-/
import Derived.Test.YtcnkdagngaomdaaGreatDoorEvA
namespace Go.Ev
noncomputable section

section
variable (P : Program) (tt : T TI)

def newVal (h : Hp) (b : Blk) (k : Nat → Value) : Option OR :=
  match h.new b with
  | some (id, h') => some (.val (k id) h')
  | none => none

def ptr0 (id : Nat) : Value := .pointer (some ⟨id, 0, none⟩)

/-- All fields' types are in the table. -/
def sized (fs : List (Nat × TypeId)) : Bool := allB (fun p => match sizeL tt p.2 with | some _ => true | none => false) fs

def aBuild (h : Hp) (t : TypeId) (parts : List (Nat × Value)) : Option OR :=
  match tt.get t with
  | some ⟨.struct fs, _, _, some z⟩ => cond (flat z) (cond (sized tt fs) (match fillL (placeS tt fs) parts (cellsL z) with
    | some c => some (.val (.agg ⟨c⟩) h)
    | none => none) none) none
  | some ⟨.array _ e, _, _, some z⟩ => cond (flat z) (match sizeL tt e with
    | some n => match fillL (fun i => some (Nat.mul i n, n)) parts (cellsL z) with
      | some c => some (.val (.agg ⟨c⟩) h)
      | none => none
    | none => none) none
  | _ => none

def aBuildSlice (h : Hp) (t : TypeId) (n : Nat) (parts : List (Nat × Value)) : Option OR :=
  match tt.get t with
  | some ⟨.slice e, _, _, _⟩ => match tt.get e with
    | some ⟨_, sz, _, some z⟩ =>
      cond (flat z) (cond (Nat.ble (Nat.mul n sz) 10000) (cond (Nat.beq (len (cellsL z)) sz)
        (match fillL (fun i => some (Nat.mul i sz, sz)) parts (rep (cellsL z) n) with
         | some c => newVal h (.cells c 0 false) fun id => .slice (some ⟨id, 0, none⟩) n n
         | none => none) none) none) none
    | _ => none
  | _ => none

def aMakeSlice (h : Hp) (t : TypeId) (l c : Value) : Option OR :=
  match natOf l, natOf c with
  | some l, some c => match tt.get t with
    | some ⟨.slice e, _, _, _⟩ => match tt.get e with
      | some ⟨_, sz, by_, some z⟩ =>
        cond (flat z) (cond (Nat.ble l c) (cond (Nat.ble (Nat.mul by_ c) 1000000) (cond (Nat.beq (len (cellsL z)) sz) (cond (Nat.ble c 1000000)
          (newVal h (.cells (rep (cellsL z) c) 0 false) fun id => .slice (some ⟨id, 0, none⟩) l c) none) none) none) none) none
      | _ => none
    | _ => none
  | _, _ => none

/-- A slice expression on a slice that isn't nil, from l to r; its capacity goes on to m ('goes': to the old one's end). -/
def cutAt' (h : Hp) (a : Addr) (sz l r m : Nat) (goes : Bool) : OR :=
  match goes, a.spot with
  | true, some k => cond (Nat.beq m l) (cond (Nat.beq l 0) (.val (.slice (some ⟨a.block, a.off, some k⟩) (Nat.sub r l) (Nat.sub m l)) h) (.val (.slice (some ⟨a.block, a.off, some 1⟩) 0 0) h))
    (.val (.slice (some (addA a (Nat.mul l sz) (some k))) (Nat.sub r l) (Nat.sub m l)) h)
  | _, _ => .val (.slice (some (cond (Nat.beq m l) ⟨a.block, a.off, none⟩ (addA a (Nat.mul l sz) none))) (Nat.sub r l) (Nat.sub m l)) h

/-- Exact, or loose with elements of this size. -/
def spotOk : Option Nat → Nat → Bool
  | none, _ => true
  | some k, sz => Nat.beq k (Nat.add sz 2)

def aSlice (h : Hp) (t : TypeId) (x : Value) (lo hi mx : Option Value) : Option OR :=
  match tt.get t, x with
  | some ⟨.string, _, _, _⟩, .string ⟨⟨s⟩⟩ =>
    cond (isNone mx) (match boundsL (len s) (len s) lo hi none with
      | some (l, r, _) => match sliceN l (Nat.sub r l) s with
        | some u => some (.val (.string ⟨⟨u⟩⟩) h)
        | none => none
      | none => none) none
  | some ⟨.slice e, _, _, _⟩, .slice a n c =>
    match sizeL tt e, boundsL n c lo hi mx with
    | some sz, some (l, r, m) =>
      match a with
      | none => some (.val (.slice none (Nat.sub r l) (Nat.sub m l)) h)
      | some a =>
        cond (spotOk a.spot sz) (some (cutAt' h a sz l r m (isNone mx))) none
    | _, _ => none
  | some ⟨.array n e, _, _, _⟩, .pointer (some a) => arr a n e
  | some ⟨.ptr u, _, _, _⟩, .pointer (some a) => match tt.get u with
    | some ⟨.array n e, _, _, _⟩ => arr a n e
    | _ => none
  | _, _ => none
  where
  arr (a : Addr) (n e : Nat) : Option OR :=
    match sizeL tt e, boundsL n n lo hi mx with
    | some sz, some (l, r, m) => some (.val (.slice (some (cond (Nat.beq m l) ⟨a.block, a.off, none⟩ (addA a (Nat.mul l sz) none))) (Nat.sub r l) (Nat.sub m l)) h)
    | _, _ => none

def aIndexAddr (h : Hp) (t : TypeId) (x i : Value) : Option OR :=
  match natOf i with
  | none => none
  | some i =>
    match tt.get t, x with
    | some ⟨.array n e, _, _, _⟩, .pointer (some a) => match sizeL tt e with
      | some sz => cond (Nat.blt i n) (some (.val (.pointer (some (addA a (Nat.mul i sz) none))) h)) none
      | none => none
    | some ⟨.slice e, _, _, _⟩, .slice (some a) n _ => match sizeL tt e with
      | some sz => cond (Nat.blt i n) (some (.val (.pointer (some (addA a (Nat.mul i sz) none))) h)) none
      | none => none
    | _, _ => none

def aIndex (h : Hp) (t : TypeId) (x i : Value) : Option OR :=
  match natOf i with
  | none => none
  | some i =>
    match tt.get t, x with
    | some ⟨.string, _, _, _⟩, .string ⟨⟨s⟩⟩ => match nth s i with
      | some b => some (.val (.int .u8 (Int.ofNat b.toNat)) h)
      | none => none
    | some ⟨.array n e, _, _, _⟩, .agg ⟨c⟩ => match sizeL tt e with
      | some sz => cond (Nat.blt i n) (ret h (partL tt e c (Nat.mul i sz))) none
      | none => none
    | _, _ => none

/-- The cells that an append or a copy takes from its source: the first 'n' elements of size 'sz'. -/
def srcL (h : Hp) (sz n : Nat) : Value → Option (List Value)
  | .slice none _ _ => some []
  | .slice (some b) _ _ => match b.spot with
    | some 1 => cond (Nat.beq n 0) (some []) none
    | _ => match h.get b.block with
      | some (.cells c _ _) => sliceN b.off (Nat.mul n sz) c
      | _ => none
  | .string ⟨⟨s⟩⟩ => takeN n (s.map fun b => .int .u8 (Int.ofNat b.toNat))
  | _ => none

def lenL : Value → Option Nat
  | .slice _ n _ => some n
  | .string ⟨⟨s⟩⟩ => some (len s)
  | _ => none

def putCells (h : Hp) (b off : Nat) (new : List Value) : Option Hp :=
  match new with
  | [] => some h
  | _ => match h.get b with
    | some (.cells c sz false) => cond (allB cellOk new) (match splice off c new with | some c' => some (h.put b (.cells c' sz false)) | none => none) none
    | _ => none

/-- What is appended: how many elements, and their cells. -/
def newL (h : Hp) (sz by_ : Nat) (z : Value) (xi : TI) (x : Value) : Option (Nat × List Value) :=
  match xi.k with
  | .int _ => match natOf x with
    | some k => cond (Nat.ble (Nat.mul k by_) 1000000) (cond (Nat.ble k 1000000) (cond (Nat.beq (len (cellsL z)) sz) (some (k, rep (cellsL z) k)) none) none) none
    | none => none
  | .slice _ => restL
  | .string => restL
  | _ => none
  where
  restL : Option (Nat × List Value) := match lenL x with
    | some k => match srcL h sz k x with
      | some l => some (k, l)
      | none => none
    | none => none

def growL (h : Hp) (sz n c need : Nat) (new : List Value) : Option Addr → Option OR
  | none => cond (Nat.beq n 0) (newVal h (.cells new 0 false) fun id => .slice (some ⟨id, 0, some (Nat.add sz 2)⟩) need need) none
  | some a => match h.get a.block with
    | some (.cells cs _ ro) => match sliceN a.off (Nat.mul n sz) cs with
      | none => none
      | some old => match a.spot with
        | none => newVal h (.cells (old ++ new) 0 false) fun id => .slice (some ⟨id, 0, some (Nat.add sz 2)⟩) need need
        | some k =>
          cond ro none (cond (Nat.beq k (Nat.add sz 2)) (cond (Nat.ble n c) (cond (allB cellOk new)
            (newVal (h.put a.block .dead) (.cells (old ++ new) 0 false) fun id => .slice (some ⟨id, 0, some (Nat.add sz 2)⟩) need need) none) none) none)
    | _ => none

def roomL (h : Hp) (sz n c need : Nat) (new : List Value) : Option Addr → Option OR
  | none => some (.val (.slice none need c) h)
  | some a => match putCells h a.block (Nat.add a.off (Nat.mul n sz)) new with
    | some h' => some (.val (.slice (some a) need c) h')
    | none => none

def aAppend (h : Hp) (ts : List TypeId) (args : List Value) : Option OR :=
  match ts, args with
  | st :: xt :: _, [.slice base n c, x] => match tt.get st with
    | some ⟨.slice e, _, _, _⟩ => match tt.get e, tt.get xt with
      | some ⟨_, sz, by_, some z⟩, some xi =>
        cond (Nat.beq sz 0) none (cond (flat z) (cond (Nat.beq (len (cellsL z)) sz) (match newL h sz by_ z xi x with
          | none => none
          | some (k, new) => cond (Nat.beq (len new) (Nat.mul k sz)) (cond (Nat.ble (Nat.add n k) c) (roomL h sz n c (Nat.add n k) new base)
              (cond (Nat.ble (Nat.mul (Nat.add n k) (Nat.succ by_)) 100000000) (growL h sz n c (Nat.add n k) new base) none)) none) none) none)
      | _, _ => none
    | _ => none
  | _, _ => none

def aCopy (h : Hp) (ts : List TypeId) (args : List Value) : Option OR :=
  match ts, args with
  | dt :: _, [.slice base dn _, x] => match tt.get dt with
    | some ⟨.slice e, _, _, _⟩ => match sizeL tt e, lenL x with
      | some sz, some k =>
        let n := cond (Nat.ble k dn) k dn
        match srcL h sz n x with
        | none => none
        | some l => match base with
          | none => some (.val (.int .i64 (Int.ofNat n)) h)
          | some a => match putCells h a.block a.off l with
            | some h' => some (.val (.int .i64 (Int.ofNat n)) h')
            | none => none
      | _, _ => none
    | _ => none
  | _, _ => none

def mapAt (h : Hp) : Option Nat → Option (List MapEntry)
  | none => some []
  | some r => match h.get r with
    | some (.map es _) => some es
    | _ => none

def aLookup (h : Hp) (t : TypeId) (m k : Value) (ok : Bool) : Option OR :=
  match tt.get t, m with
  | some ⟨.map kt et, _, _, _⟩, .map r => match tt.get kt with
    | some ki => cond (keyOk ki.k k)
      (match mapAt h r with
       | none => none
       | some es => match findK k es 0 with
         | some (some (_, e)) => some (.val (cond ok (.tuple ⟨[e.val, .bool true]⟩) e.val) h)
         | some none => match zeroL tt et with
           | some z => cond (flat z) (some (.val (cond ok (.tuple ⟨[z, .bool false]⟩) z) h)) none
           | none => none
         | none => none) none
    | none => none
  | _, _ => none

def aMapUpdate (h : Hp) (t : TypeId) (m k v : Value) : Option OR :=
  match tt.get t, m with
  | some ⟨.map kt _, _, _, _⟩, .map (some r) => match tt.get kt with
    | some ki => cond (keyOk ki.k k)
      (match h.get r with
       | some (.map es clock) => match findK k es 0 with
         | some (some (i, e)) => some (.val undef (h.put r (.map (setAt es i ⟨k, v, e.born⟩) clock)))
         | some none => some (.val undef (h.put r (.map (snoc es ⟨k, v, clock⟩) (Nat.succ clock))))
         | none => none
       | _ => none) none
    | none => none
  | _, _ => none

def aDelete (h : Hp) (ts : List TypeId) (args : List Value) : Option OR :=
  match ts, args with
  | mt :: _, [.map r, k] => match tt.get mt with
    | some ⟨.map kt _, _, _, _⟩ => match tt.get kt with
      | some ki => cond (keyOk ki.k k)
        (match r with
         | none => some (.val (.tuple ⟨[]⟩) h)
         | some r => match h.get r with
           | some (.map es clock) => match findK k es 0 with
             | some (some (i, _)) => some (.val (.tuple ⟨[]⟩) (h.put r (.map (cutAt es i) clock)))
             | some none => some (.val (.tuple ⟨[]⟩) (h.put r (.map es clock)))
             | none => none
           | _ => none) none
      | none => none
    | _ => none
  | _, _ => none

def aRange (h : Hp) (t : TypeId) (x : Value) : Option OR :=
  match tt.get t, x with
  | some ⟨.map _ _, _, _, _⟩, .map none => newVal h (.iter none 0 [] 0) ptr0
  | some ⟨.map _ _, _, _, _⟩, .map (some m) => match h.get m with
    | some (.map _ clock) => newVal h (.iter (some m) clock [] clock) ptr0
    | _ => none
  | _, _ => none

def snocN : List Nat → Nat → List Nat
  | [], x => [x]
  | a :: r, x => a :: snocN r x

def aNext (h : Hp) (it : Value) : Option OR :=
  match it with
  | .pointer (some ⟨r, 0, none⟩) => match h.get r with
    | some (.iter none _ _ _) => some (.val (.tuple ⟨[.bool false]⟩) h)
    | some (.iter (some m) since seen last) => match h.get m with
      | some (.map es clock) =>
        cond (allB (fun e => Nat.blt e.born since) es)
          (cond (Nat.beq last since)
            (match keep (fun e => !memN seen e.born) es with
            | [] => some (.val (.tuple ⟨[.bool false]⟩) h)
            | [e] => some (.val (.tuple ⟨[.bool true, e.key, e.val]⟩) (h.put r (.iter (some m) since (snocN seen e.born) clock)))
            | _ => none) none) none
      | _ => none
    | _ => none
  | _ => none

def lastN : List Nat → Option Nat
  | [] => none
  | [a] => some a
  | _ :: r => lastN r

def findBorn (n : Nat) : List MapEntry → Option MapEntry
  | [] => none
  | e :: r => cond (Nat.beq e.born n) (some e) (findBorn n r)

def aEntry (h : Hp) (it : Value) : Option OR :=
  match it with
  | .pointer (some ⟨r, 0, none⟩) => match h.get r with
    | some (.iter (some m) _ seen last) => match lastN seen with
      | some stamp => match h.get m with
        | some (.map es clock) => cond (Nat.beq clock last) (match findBorn stamp es with
          | some e => some (.val (.tuple ⟨[e.key, e.val]⟩) h)
          | none => none) none
        | _ => none
      | none => none
    | _ => none
  | _ => none

def aLen (h : Hp) (ts : List TypeId) (args : List Value) : Option OR :=
  match ts, args with
  | t :: _, [x] => match tt.get t, x with
    | some ⟨.string, _, _, _⟩, .string ⟨⟨s⟩⟩ => some (.val (.int .i64 (Int.ofNat (len s))) h)
    | some ⟨.slice _, _, _, _⟩, .slice _ n _ => some (.val (.int .i64 (Int.ofNat n)) h)
    | some ⟨.array n _, _, _, _⟩, _ => some (.val (.int .i64 (Int.ofNat n)) h)
    | some ⟨.map _ _, _, _, _⟩, .map r => match mapAt h r with
      | some es => some (.val (.int .i64 (Int.ofNat (len es))) h)
      | none => none
    | some ⟨.ptr u, _, _, _⟩, _ => match tt.get u with
      | some ⟨.array n _, _, _, _⟩ => some (.val (.int .i64 (Int.ofNat n)) h)
      | _ => none
    | _, _ => none
  | _, _ => none

def aCap (h : Hp) (ts : List TypeId) (args : List Value) : Option OR :=
  match ts, args with
  | t :: _, [x] => match tt.get t, x with
    | some ⟨.slice _, _, _, _⟩, .slice none _ c => some (.val (.int .i64 (Int.ofNat c)) h)
    | some ⟨.slice _, _, _, _⟩, .slice (some ⟨_, _, none⟩) _ c => some (.val (.int .i64 (Int.ofNat c)) h)
    | _, _ => none
  | _, _ => none

def pureNext (h : Hp) (s : Sem Next) : Option OR :=
  match pureRun P s with
  | some (.value v) => cond (flat v) (some (.val v h)) none
  | _ => none

def aBuiltin (h : Hp) (b : Builtin) (ts : List TypeId) (type : TypeId) (args : List Value) : Option OR :=
  match b with
  | .len => aLen tt h ts args
  | .cap => aCap tt h ts args
  | .append => aAppend tt h ts args
  | .copy => aCopy tt h ts args
  | .delete => aDelete tt h ts args
  | .min => cond (allB flat1 args) (pureNext P h (builtin .min ts.toArray type #[] args.toArray)) none
  | .max => cond (allB flat1 args) (pureNext P h (builtin .max ts.toArray type #[] args.toArray)) none
  | _ => none

def bytesOf : List Value → Option (List UInt8)
  | [] => some []
  | .int .u8 (.ofNat n) :: r => match bytesOf r with
    | some l => some (UInt8.ofNat n :: l)
    | none => none
  | _ => none

def aConvert (h : Hp) (src dst : TypeId) (x : Value) : Option OR :=
  match tt.get src, tt.get dst, x with
  | some ⟨.string, _, _, _⟩, some ⟨.slice e, _, _, _⟩, .string ⟨⟨s⟩⟩ => match tt.get e with
    | some ⟨.int .u8, _, _, _⟩ => newVal h (.cells (s.map fun b => .int .u8 (Int.ofNat b.toNat)) 0 false) fun id => .slice (some ⟨id, 0, some 3⟩) (len s) (len s)
    | _ => none
  | some ⟨.slice e, _, _, _⟩, some ⟨.string, _, _, _⟩, .slice a n _ => match tt.get e with
    | some ⟨.int .u8, _, _, _⟩ => match a with
      | none => some (.val (.string ⟨⟨[]⟩⟩) h)
      | some a => match h.get a.block with
        | some (.cells c _ _) => match sliceN a.off n c with
          | some l => match bytesOf l with
            | some s => some (.val (.string ⟨⟨s⟩⟩) h)
            | none => none
          | none => none
        | _ => none
    | _ => none
  | some ⟨.int _, _, _, _⟩, some ⟨.int k, _, _, _⟩, .int _ n => some (.val (.int k (k.wrap n)) h)
  | _, _, _ => none

def nilEq (h : Hp) (op : BinOp) (xt : TypeId) (a b : Value) : Option OR :=
  match tt.get xt with
  | none => none
  | some ti => match op, eqNil ti.k a b with
    | .eql, some t => some (.val (.bool t) h)
    | .neq, some t => some (.val (.bool (!t)) h)
    | _, _ => none

def vNext (s : Sem Value) : Sem Next := do pure (.value (← s))

def aBin (h : Hp) (op : BinOp) (xt : TypeId) (x y : Operand) (a b : Value) : Option OR :=
  cond (flat a) (cond (flat b) (pureNext P h (vNext (do eqGuard op xt x y a b; binOp op xt a b))) (nilEq tt h op xt a b)) (nilEq tt h op xt a b)

def hintOk : Option Value → Bool
  | none => true
  | some (.int _ _) => true
  | _ => false

def aAssert (h : Hp) (x : Value) (t : TypeId) (ok : Bool) : Option OR :=
  match tt.get t, x with
  | some ⟨.iface, _, _, _⟩, _ => none
  | some ti, .iface u v => cond (Nat.beq u t) (some (.val (cond ok (.tuple ⟨[v, .bool true]⟩) v) h))
    (cond ok (match ti.zero with | some z => cond (flat z) (some (.val (.tuple ⟨[z, .bool false]⟩) h)) none | none => none) none)
  | some ti, .nilIface => cond ok (match ti.zero with | some z => cond (flat z) (some (.val (.tuple ⟨[z, .bool false]⟩) h)) none | none => none) none
  | _, _ => none

/-- An operation that is no call of a Go function. -/
def aop (ρ : Operand → Value) (o : Oper) (h : Hp) : Option OR :=
  match o.op with
  | .move x => some (.val (ρ x) h)
  | .assign x => some (.val (ρ x) h)
  | .pick c a b => match ρ c with
    | .bool t => some (.val (cond t (ρ a) (ρ b)) h)
    | _ => none
  | .alloc e => match zeroL tt e with
    | some z => cond (flat z) (newVal h (.cells (cellsL z) 0 false) ptr0) none
    | none => none
  | .box _ x => newVal h (.cells (cellsL (ρ x)) 0 false) ptr0
  | .build t ps => aBuild tt h t (ps.toList.map fun p => (p.1, ρ p.2))
  | .buildSlice t n ps => aBuildSlice tt h t n (ps.toList.map fun p => (p.1, ρ p.2))
  | .load t a => match ρ a with
    | .pointer (some a) => ret h (loadL tt h t a)
    | _ => none
  | .store t a x => match ρ a with
    | .pointer (some a) => match storeL tt h t a (ρ x) with
      | some h' => some (.val undef h')
      | none => none
    | _ => none
  | .nilCheck x => match ρ x with
    | .pointer (some a) => some (.val (.pointer (some a)) h)
    | .iface t v => some (.val (.iface t v) h)
    | .func (.func f) a c => some (.val (.func (.func f) a c) h)
    | _ => none
  | .binOp op xt x y _ => aBin P tt h op xt x y (ρ x) (ρ y)
  | .unOp op _ x => cond (flat (ρ x)) (pureNext P h (vNext (Op.unary op (ρ x)))) none
  | .convert s d x => aConvert tt h s d (ρ x)
  | .makeInterface t x => match tt.get t with
    | some ⟨.iface, _, _, _⟩ => none
    | some _ => some (.val (.iface t (ρ x)) h)
    | none => none
  | .makeFunc fn first captured => some (.val (.func fn ⟨first.toList.map ρ⟩ ⟨captured.toList.map ρ⟩) h)
  | .makeMap t r => match tt.get t with
    | some ⟨.map _ _, _, _, _⟩ => cond (hintOk (r.map ρ)) (newVal h (.map [] 0) fun id => .map (some id)) none
    | _ => none
  | .makeSlice t l c => aMakeSlice tt h t (ρ l) (ρ c)
  | .slice t x lo hi mx => aSlice tt h t (ρ x) (lo.map ρ) (hi.map ρ) (mx.map ρ)
  | .fieldAddr s x f => match tt.get s, ρ x with
    | some ⟨.struct fs, _, _, _⟩, .pointer (some a) => match nth fs f with
      | some (off, ft) => match sizeL tt ft with
        | some n => cond (Nat.beq n 0) none (some (.val (.pointer (some (addA a off none))) h))
        | none => none
      | none => none
    | _, _ => none
  | .field t x f => match tt.get t, ρ x with
    | some ⟨.struct fs, _, _, _⟩, .agg ⟨c⟩ => match nth fs f with
      | some (off, ft) => ret h (partL tt ft c off)
      | none => none
    | _, _ => none
  | .sliceToArrayPointer t x => match tt.get t, ρ x with
    | some ⟨.array n _, _, _, _⟩, .slice (some a) k _ => cond (Nat.ble n k) (cond (Nat.beq n 0) none (some (.val (.pointer (some ⟨a.block, a.off, none⟩)) h))) none
    | _, _ => none
  | .indexAddr t x i => aIndexAddr tt h t (ρ x) (ρ i)
  | .index t x i => aIndex tt h t (ρ x) (ρ i)
  | .lookup t x k ok => aLookup tt h t (ρ x) (ρ k) ok
  | .mapUpdate t m k v => aMapUpdate tt h t (ρ m) (ρ k) (ρ v)
  | .insert t m k v => aMapUpdate tt h t (ρ m) (ρ k) (ρ v)
  | .range t x => aRange tt h t (ρ x)
  | .next it false => aNext h (ρ it)
  | .entry it => aEntry h (ρ it)
  | .typeAssert x _ t ok => aAssert tt h (ρ x) t ok
  | .extract x i => match ρ x with
    | .tuple ⟨l⟩ => ret h (nth l i)
    | _ => none
  | .panic x => match ρ x with
    | .iface t v => some (.pan (.iface t v) h)
    | _ => none
  | .call ⟨.builtin b, args, ts⟩ => aBuiltin P tt h b ts.toList o.type (args.toList.map ρ)
  | _ => none

end

/-- How a call ends. -/
inductive CR where
  | ret (v : Value) (h : Hp)
  | pan (v : Value) (h : Hp)

inductive RR where
  | ok (t : T Value) (h : Hp)
  | pan (v : Value) (t : T Value) (h : Hp)

inductive Ex where
  | normal
  | exit (id : Nat)
  | ret
  | pan (v : Value)

structure CE where
  e : Ex
  t : T Value
  h : Hp

/-- Constants have no address. -/
def avTmp (i : Nat) (t : T Value) : Value := Option.rec (motive := fun _ => Value) undef (fun v => v) (t.get i)
def aval (t : T Value) (x : Operand) : Value :=
  Operand.rec (motive := fun _ => T Value → Value) avTmp (fun v _ => cond (flat v) v undef) (fun g _ => .pointer (some ⟨g, 0, none⟩)) (fun f _ => .func (.func f) #[] #[]) x t

def put (n : Nat) (t : T Value) (d : Option Tmp) (v : Value) : Option (T Value) :=
  match d with
  | none => some t
  | some i => cond (Nat.blt i n) (some (t.set 40 i v)) none

/-- What is called: the function's number and its arguments. -/
def target (ρ : Operand → Value) (f : Operand) (args : List Value) : Option (Nat × List Value) :=
  match ρ f with
  | .func (.func k) ⟨first⟩ ⟨captured⟩ => some (k, first ++ (args ++ captured))
  | _ => none

section
variable (P : Program) (tt : T TI) (call : Nat → List Value → Hp → Option CR)

/-- One operation, a call too. -/
def evOp (ρ : Operand → Value) (o : Oper) (h : Hp) : Option OR :=
  match o.op with
  | .call ⟨.value f, args, _⟩ => match target ρ f (args.toList.map ρ) with
    | some (k, as) => match call k as h with
      | some (.ret v h') => some (.val v h')
      | some (.pan v h') => some (.pan v h')
      | none => none
    | none => none
  | _ => aop P tt ρ o h

def wants (all : List Oper) (t : T Value) (o : Oper) : Option Bool :=
  match o.guard with
  | none => some true
  | some (j, want) => match nth all j with
    | some g => match g.dst with
      | some d => match t.get d with
        | some (.bool b) => some (cond want b (!b))
        | _ => some false
      | none => none
    | none => none

/-- The operations of a region, one behind the other. -/
def evOps (n : Nat) (all : List Oper) : List Oper → T Value → Hp → Option RR
  | [], t, h => some (.ok t h)
  | o :: r, t, h => match wants all t o with
    | some true => match evOp P tt call (aval t) o h with
      | some (.val v h') => match put n t o.dst v with
        | some t' => evOps n all r t' h'
        | none => none
      | some (.pan v h') => some (.pan v t h')
      | none => none
    | some false => match put n t o.dst undef with
      | some t' => evOps n all r t' h
      | none => none
    | none => none

def iter (body : T Value → Hp → Option CE) : Nat → T Value → Hp → Option CE
  | 0, _, _ => none
  | k + 1, t, h => match body t h with
    | some ⟨.normal, t', h'⟩ => iter body k t' h'
    | x => x

def evC (draw : Nat → List Oper → T Value → Hp → Option RR) (n K : Nat) : Code → T Value → Hp → Option CE
  | .skip, t, h => some ⟨.normal, t, h⟩
  | .label _, t, h => some ⟨.normal, t, h⟩
  | .region _ ops d, t, h => match cond d (draw n ops.toList t h) (evOps P tt call n ops.toList ops.toList t h) with
    | some (.ok t' h') => some ⟨.normal, t', h'⟩
    | some (.pan v t' h') => some ⟨.pan v, t', h'⟩
    | none => none
  | .seq a b, t, h => match evC draw n K a t h with
    | some ⟨.normal, t', h'⟩ => evC draw n K b t' h'
    | x => x
  | .cond c a b, t, h => match aval t c with
    | .bool true => evC draw n K a t h
    | .bool false => evC draw n K b t h
    | _ => none
  | .block id c, t, h => match evC draw n K c t h with
    | some ⟨.exit j, t', h'⟩ => cond (Nat.beq j id) (some ⟨.normal, t', h'⟩) (some ⟨.exit j, t', h'⟩)
    | x => x
  | .loop c, t, h => iter (evC draw n K c) K t h
  | .exit id, t, h => some ⟨.exit id, t, h⟩
  | .ret, t, h => some ⟨.ret, t, h⟩
  | _, _, _ => none

def resultL (h : Hp) (t : T Value) : List ResultVar → Option (List Value)
  | [] => some []
  | .tmp i :: r => match t.get i, resultL h t r with
    | some v, some l => some (v :: l)
    | _, _ => none
  | .cell a ty :: r => match t.get a with
    | some (.pointer (some a)) => match loadL tt h ty a, resultL h t r with
      | some v, some l => some (v :: l)
      | _, _ => none
    | _ => none

def one : List Value → Value
  | [v] => v
  | l => .tuple ⟨l⟩

def args0 : List Value → Nat → T Value → T Value
  | [], _, t => t
  | a :: r, i, t => args0 r (Nat.succ i) (t.set 40 i a)

def evBody (draw : Nat → List Oper → T Value → Hp → Option RR) (K : Nat) (fn : Func) (as : List Value) (h : Hp) : Option CR :=
  match fn.body with
  | none => none
  | some c => cond (Nat.ble (len as) fn.ntmps)
    (match evC P tt call draw fn.ntmps K c (args0 as 0 .e) h with
     | some ⟨.normal, t, h'⟩ => done fn t h'
     | some ⟨.ret, t, h'⟩ => done fn t h'
     | some ⟨.pan v, _, h'⟩ => some (.pan v h')
     | _ => none) none
  where
  done (fn : Func) (t : T Value) (h : Hp) : Option CR :=
    match resultL tt h t fn.results.toList with
    | some l => some (.ret (one l) h)
    | none => none

end

/-- What is known of a program's own special functions. -/
structure Prims where
  pure : Nat → Option (List Value → Hp → Option (Value × Hp))
  catchId : Nat
  faultT : TypeId

section
variable (P : Program) (tt : T TI) (ft : T Func) (pr : Prims)
  (draw : (Nat → List Value → Hp → Option CR) → Nat → List Oper → T Value → Hp → Option RR) (K : Nat)

def ev : Nat → Nat → List Value → Hp → Option CR
  | 0, _, _, _ => none
  | d + 1, f, as, h =>
    cond (Nat.beq f pr.catchId)
      (match as with
       | [.func (.func k) ⟨first⟩ ⟨captured⟩] => match ev d k (first ++ captured) h with
         | some (.ret _ h') => some (.ret (.agg ⟨[.int .i64 0, .int .i64 0]⟩) h')
         | some (.pan (.iface t (.agg ⟨l⟩)) h') => cond (Nat.beq t pr.faultT) (some (.ret (.agg ⟨l⟩) h')) none
         | _ => none
       | _ => none)
      (match pr.pure f with
       | some p => match p as h with
         | some (v, h') => some (.ret v h')
         | none => none
       | none => match ft.get f with
         | some fn => evBody P tt (ev d) (draw (ev d)) K fn as h
         | none => none)
end

end
end Go.Ev
