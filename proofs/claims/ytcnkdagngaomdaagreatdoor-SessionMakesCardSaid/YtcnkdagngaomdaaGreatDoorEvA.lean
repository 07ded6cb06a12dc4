/-
  AN EVALUATOR OF CLOSED CALLS, generic over the program: abstract blocks in a trie, slices of unknown capacity marked 'loose'.
-/
import GoSem.Dispatch
import GoSem.Machine.Frame
namespace Go.Ev
noncomputable section

/-- A trie over natural numbers. -/
inductive T (α : Type) where
  | e
  | n (v : Option α) (l r : T α)

def T.get {α : Type} (t : T α) : Nat → Option α :=
  T.rec (motive := fun _ => Nat → Option α) (fun _ => none)
    (fun v _ _ gl gr k => cond (Nat.beq k 0) v (cond (Nat.beq (Nat.mod k 2) 1) (gl (Nat.div k 2)) (gr (Nat.pred (Nat.div k 2))))) t

/-- What a node is: its value and its two sides. -/
def T.setG {α : Type} (ih : T α → Nat → α → T α) (v : Option α) (l r : T α) (k : Nat) (x : α) : T α :=
  cond (Nat.beq k 0) (.n (some x) l r) (cond (Nat.beq (Nat.mod k 2) 1) (.n v (ih l (Nat.div k 2) x) r) (.n v l (ih r (Nat.pred (Nat.div k 2)) x)))

def T.set {α : Type} (f : Nat) : T α → Nat → α → T α :=
  Nat.rec (motive := fun _ => T α → Nat → α → T α) (fun t _ _ => t)
    (fun _ ih t => T.rec (motive := fun _ => Nat → α → T α) (T.setG ih none .e .e) (fun v l r _ _ => T.setG ih v l r) t) f

/-- A trie of a function's values, laid lazily: the node at 'k' bears 'f k'. -/
def mkT {α : Type} (f : Nat → Option α) : Nat → Nat → Nat → T α
  | 0, _, _ => .e
  | d + 1, m, b => .n (f b) (mkT f d (2 * m) (b + m)) (mkT f d (2 * m) (b + 2 * m))

/-- What a type is, as the evaluator reads it. -/
inductive TK where
  | int (k : IntKind)
  | bool
  | string
  | ptr (e : TypeId)
  | slice (e : TypeId)
  | array (n : Nat) (e : TypeId)
  | map (k e : TypeId)
  | struct (fs : List (Nat × TypeId))
  | iface
  | func
  | other

structure TI where
  k : TK
  size : Nat
  bytes : Nat
  zero : Option Value

def tkOf : TypeDesc → TK
  | .int k => .int k
  | .bool => .bool
  | .string => .string
  | .pointer e => .ptr e
  | .slice e => .slice e
  | .array n e => .array n e
  | .map k e => .map k e
  | .struct fs => .struct (fs.toList.map fun f => (f.offset, f.type))
  | .interface _ => .iface
  | .func _ _ _ => .func
  | _ => .other

/-- The row of a type; none where it isn't in the table. -/
def tiOf (P : Program) (t : TypeId) : Option TI :=
  match P.types.toList[t]? with
  | none => none
  | some i =>
    match i.desc with
    | .named _ u => match P.types.toList[u]? with
      | some j => some ⟨tkOf j.desc, i.size, i.bytes, i.zero⟩
      | none => none
    | d => some ⟨tkOf d, i.size, i.bytes, i.zero⟩

def TK.agg : TK → Bool
  | .struct _ | .array _ _ => true
  | _ => false

/-- A block of the abstract heap. -/
inductive Blk where
  | cells (c : List Value) (sz : Nat) (ro : Bool)
  | map (es : List MapEntry) (clock : Nat)
  | iter (m : Option Nat) (since : Nat) (seen : List Nat) (last : Nat)
  | box0 (v : Value)
  | dead

structure Hp where
  t : T Blk
  c : Nat
  hid : List (Nat × Nat)
  wr : List Nat

def hidden : List (Nat × Nat) → Nat → Bool
  | [], _ => false
  | (a, b) :: r, k => cond (Nat.ble a k) (cond (Nat.blt k b) true (hidden r k)) (hidden r k)

def Hp.get (h : Hp) (k : Nat) : Option Blk := cond (hidden h.hid k) none (h.t.get k)

def Hp.put (h : Hp) (k : Nat) (b : Blk) : Hp := ⟨h.t.set 40 k b, h.c, h.hid, k :: h.wr⟩

/-- A new block; none where the numbers are used up. -/
def Hp.new (h : Hp) (b : Blk) : Option (Nat × Hp) :=
  cond (Nat.ble h.c 1000000000) (some (h.c, ⟨h.t.set 40 h.c b, Nat.succ h.c, h.hid, h.wr⟩)) none

inductive OR where
  | val (v : Value) (h : Hp)
  | pan (v : Value) (h : Hp)

/-- Only pure steps and questions about the program. -/
def pureRun {α : Type} (P : Program) : Sem α → Option α
  | .pure a => some a
  | .program k => pureRun P (k P)
  | _ => none

def flat1 : Value → Bool
  | .bool _ | .int _ _ | .string _ | .nilFunc | .nilIface | .pointer none | .map none | .slice none _ _ => true
  | _ => false

def allB {α : Type} (p : α → Bool) : List α → Bool
  | [] => true
  | a :: r => cond (p a) (allB p r) false

/-- No address anywhere. -/
def flat : Value → Bool
  | .agg ⟨l⟩ => allB flat1 l
  | .tuple ⟨l⟩ => allB flat1 l
  | .iface _ v => flat1 v
  | v => flat1 v

/-- A value that one cell may hold. -/
def cellOk : Value → Bool
  | .agg _ | .tuple _ => false
  | _ => true

def takeN {α : Type} : Nat → List α → Option (List α)
  | 0, _ => some []
  | _ + 1, [] => none
  | n + 1, a :: r => match takeN n r with
    | some l => some (a :: l)
    | none => none

def dropN {α : Type} : Nat → List α → Option (List α)
  | 0, l => some l
  | _ + 1, [] => none
  | n + 1, _ :: r => dropN n r

def sliceN {α : Type} (off n : Nat) (l : List α) : Option (List α) :=
  match dropN off l with
  | some r => takeN n r
  | none => none

def nth {α : Type} : List α → Nat → Option α
  | [], _ => none
  | a :: _, 0 => some a
  | _ :: r, n + 1 => nth r n

/-- 'new' over the elements of a list, from its head on. -/
def over {α : Type} : List α → List α → Option (List α)
  | l, [] => some l
  | [], _ :: _ => none
  | _ :: r, x :: s => match over r s with
    | some l => some (x :: l)
    | none => none

/-- 'new' over the elements from 'off' on. -/
def splice {α : Type} : Nat → List α → List α → Option (List α)
  | 0, l, s => over l s
  | _ + 1, [], _ => none
  | n + 1, a :: r, s => match splice n r s with
    | some l => some (a :: l)
    | none => none

def len {α : Type} : List α → Nat
  | [] => 0
  | _ :: r => Nat.succ (len r)

def cellsL : Value → List Value
  | .agg ⟨l⟩ => l
  | v => [v]

def rep {α : Type} (l : List α) : Nat → List α
  | 0 => []
  | n + 1 => l ++ rep l n

section
variable (tt : T TI)

/-- A part of cells, as a value of a type. -/
def partL (t : TypeId) (c : List Value) (off : Nat) : Option Value :=
  match tt.get t with
  | none => none
  | some ti => cond ti.k.agg
    (match sliceN off ti.size c with | some l => some (.agg ⟨l⟩) | none => none)
    (nth c off)

def loadL (h : Hp) (t : TypeId) (a : Addr) : Option Value :=
  match h.get a.block with
  | some (.cells c _ _) => partL tt t c a.off
  | _ => none

def storeL (h : Hp) (t : TypeId) (a : Addr) (v : Value) : Option Hp :=
  match tt.get t with
  | none => none
  | some ti =>
    match h.get a.block with
    | some (.cells c sz false) =>
      cond (Nat.beq (len (cellsL v)) ti.size)
        (cond (allB cellOk (cellsL v))
          (match splice a.off c (cellsL v) with
           | some c' => some (h.put a.block (.cells c' sz false))
           | none => none) none) none
    | _ => none

/-- Parts laid into cells. -/
def fillL (place : Nat → Option (Nat × Nat)) : List (Nat × Value) → List Value → Option (List Value)
  | [], c => some c
  | (i, v) :: r, c =>
    match place i with
    | none => none
    | some (off, size) => cond (Nat.beq (len (cellsL v)) size)
      (match splice off c (cellsL v) with | some c' => fillL place r c' | none => none) none

def sizeL (t : TypeId) : Option Nat := match tt.get t with | some ti => some ti.size | none => none
def zeroL (t : TypeId) : Option Value := match tt.get t with | some ti => ti.zero | none => none

def optB (x : Option Nat) (k : Nat → Option OR) : Option OR := match x with | some a => k a | none => none
def ret (h : Hp) (x : Option Value) : Option OR := match x with | some v => some (.val v h) | none => none

def placeS (fs : List (Nat × TypeId)) (i : Nat) : Option (Nat × Nat) :=
  match nth fs i with
  | some (off, t) => match sizeL tt t with | some n => some (off, n) | none => none
  | none => none

/-- A number that may be a length or an index. -/
def natOf : Value → Option Nat
  | .int .i64 (.ofNat n) => some n
  | .int .i32 (.ofNat n) => some n
  | .int .u8 (.ofNat n) => some n
  | .int .u16 (.ofNat n) => some n
  | .int .u32 (.ofNat n) => some n
  | .int .u64 (.ofNat n) => some n
  | _ => none

def addA (a : Addr) (n : Nat) (spot : Option Nat) : Addr := ⟨a.block, Nat.add a.off n, spot⟩

/-- The bounds of a slice expression, within 'len' and 'cap'; the capacity behind it is exact if 'max' is given. -/
def boundsL (len cap : Nat) (low high max : Option Value) : Option (Nat × Nat × Nat) :=
  match (match max with | some v => natOf v | none => some cap) with
  | none => none
  | some m =>
    match (match high with | some v => natOf v | none => cond (match max with | some _ => true | none => false) none (some len)) with
    | none => none
    | some h =>
      match (match low with | some v => natOf v | none => some 0) with
      | none => none
      | some l => cond (Nat.ble m cap) (cond (Nat.ble h m) (cond (Nat.ble l h) (some (l, h, m)) none) none) none

def isNone {α : Type} : Option α → Bool
  | none => true
  | some _ => false

/-- The comparison of two values of which one is nil, of a kind with nil. -/
def eqNil : TK → Value → Value → Option Bool
  | .slice _, .slice none _ _, .slice b _ _ => some (isNone b)
  | .slice _, .slice (some _) _ _, .slice none _ _ => some false
  | .ptr _, .pointer none, .pointer b => some (isNone b)
  | .ptr _, .pointer (some _), .pointer none => some false
  | .map _ _, .map none, .map b => some (isNone b)
  | .map _ _, .map (some _), .map none => some false
  | .func, .nilFunc, .nilFunc => some true
  | .func, .nilFunc, .func _ _ _ => some false
  | .func, .func _ _ _, .nilFunc => some false
  | .iface, .nilIface, .iface _ _ => some false
  | .iface, .iface _ _, .nilIface => some false
  | _, _, _ => none

def bytesEq : List UInt8 → List UInt8 → Bool
  | [], [] => true
  | a :: x, b :: y => cond (Nat.beq a.toNat b.toNat) (bytesEq x y) false
  | _, _ => false

def intEq : Int → Int → Bool
  | .ofNat a, .ofNat b => Nat.beq a b
  | .negSucc a, .negSucc b => Nat.beq a b
  | _, _ => false

/-- Keys: texts and numbers of one kind alone. -/
def keyEq : Value → Value → Option Bool
  | .string ⟨⟨a⟩⟩, .string ⟨⟨b⟩⟩ => some (bytesEq a b)
  | .int .i64 a, .int .i64 b => some (intEq a b)
  | _, _ => none

def keyOk : TK → Value → Bool
  | .string, .string _ => true
  | .int .i64, .int .i64 _ => true
  | _, _ => false

/-- Where a key stands, and its entry. -/
def findK (k : Value) : List MapEntry → Nat → Option (Option (Nat × MapEntry))
  | [], _ => some none
  | e :: r, i => match keyEq k e.key with
    | some true => some (some (i, e))
    | some false => findK k r (Nat.succ i)
    | none => none

def setAt {α : Type} : List α → Nat → α → List α
  | [], _, _ => []
  | _ :: r, 0, x => x :: r
  | a :: r, n + 1, x => a :: setAt r n x

def cutAt {α : Type} : List α → Nat → List α
  | [], _ => []
  | _ :: r, 0 => r
  | a :: r, n + 1 => a :: cutAt r n

def memN : List Nat → Nat → Bool
  | [], _ => false
  | a :: r, n => cond (Nat.beq a n) true (memN r n)

def keep {α : Type} (p : α → Bool) : List α → List α
  | [] => []
  | a :: r => cond (p a) (a :: keep p r) (keep p r)

def snoc {α : Type} : List α → α → List α
  | [], x => [x]
  | a :: r, x => a :: snoc r x

end
end
end Go.Ev
