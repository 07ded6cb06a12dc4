/-
  SOUNDNESS, SECOND PART: how abstract values and blocks stand to a world's.
-/
import Derived.Test.YtcnkdagngaomdaaGreatDoorEvS1
import Derived.Test.YtcnkdagngaomdaaGreatDoorEvE
namespace Go.Ev
open Go Go.RowKit

/-- Opaque values are what their numbers say. -/
def TokB (tok : Nat → Value) : Prop :=
  ∀ k, (k % 4 = 1 → tlo k ≤ thi k → ∃ n : Int, tok k = .int .i64 n ∧ tlo k ≤ n ∧ n ≤ thi k) ∧
    (k % 4 = 2 → k / 4 % 4 = 1 → 0 ≤ tlo (k / 4) → tlo (k / 4) ≤ thi (k / 4) → ∃ s : ByteArray, tok k = .string s ∧ tok (k / 4) = .int .i64 s.size)

/-- Where an abstract block lies: the world's block, its first cell there, how many cells it has, and how many the world's block has. -/
structure Bi where
  cb : Nat
  co : Nat
  L : Nat
  CS : Nat

abbrev Mu := Nat → Option Bi

mutual
inductive RV (μ : Mu) (tok : Nat → Value) : Value → Value → Prop
  | bool (b : Bool) : RV μ tok (.bool b) (.bool b)
  | int (k : IntKind) (n : Int) : RV μ tok (.int k n) (.int k n)
  | string (s : ByteArray) : RV μ tok (.string s) (.string s)
  | pnil : RV μ tok (.pointer none) (.pointer none)
  | ptr {b o : Nat} {i : Bi} : μ b = some i → RV μ tok (.pointer (some ⟨b, o, none⟩)) (.pointer (some ⟨i.cb, i.co + o, none⟩))
  | snil (l c : Nat) : RV μ tok (.slice none l c) (.slice none l c)
  | sexact {b o : Nat} (l c : Nat) {i : Bi} : μ b = some i → RV μ tok (.slice (some ⟨b, o, none⟩) l c) (.slice (some ⟨i.cb, i.co + o, none⟩) l c)
  | sloose {b o z : Nat} (l : Nat) {c c' : Nat} {i : Bi} : μ b = some i → c ≤ c' → o + c * z = i.L → i.co + o + c' * z ≤ i.CS →
      RV μ tok (.slice (some ⟨b, o, some (z + 2)⟩) l c) (.slice (some ⟨i.cb, i.co + o, none⟩) l c')
  | sempty (b o : Nat) (a' : Addr) (c' : Nat) : RV μ tok (.slice (some ⟨b, o, some 1⟩) 0 0) (.slice (some a') 0 c')
  | mnil : RV μ tok (.map none) (.map none)
  | map {r : Nat} {i : Bi} : μ r = some i → RV μ tok (.map (some r)) (.map (some i.cb))
  | func (fn : Fn) {f f' c c' : List Value} : RL μ tok f f' → RL μ tok c c' → RV μ tok (.func fn ⟨f⟩ ⟨c⟩) (.func fn ⟨f'⟩ ⟨c'⟩)
  | nilFunc : RV μ tok .nilFunc .nilFunc
  | iface (t : TypeId) {v v' : Value} : RV μ tok v v' → RV μ tok (.iface t v) (.iface t v')
  | nilIface : RV μ tok .nilIface .nilIface
  | agg {l l' : List Value} : RL μ tok l l' → RV μ tok (.agg ⟨l⟩) (.agg ⟨l'⟩)
  | tuple {l l' : List Value} : RL μ tok l l' → RV μ tok (.tuple ⟨l⟩) (.tuple ⟨l'⟩)
  | tok (k : Nat) : RV μ tok (.chan (some k)) (tok k)
inductive RL (μ : Mu) (tok : Nat → Value) : List Value → List Value → Prop
  | nil : RL μ tok [] []
  | cons {a a' : Value} {l l' : List Value} : RV μ tok a a' → RL μ tok l l' → RL μ tok (a :: l) (a' :: l')
end

def Mu.le (μ μ' : Mu) : Prop := ∀ b i, μ b = some i → μ' b = some i

theorem Mu.le_refl (μ : Mu) : μ.le μ := fun _ _ h => h
theorem Mu.le_trans {a b c : Mu} (h : a.le b) (k : b.le c) : a.le c := fun x i e => k x i (h x i e)

mutual
theorem RV.mono {μ μ' : Mu} {tok : Nat → Value} (h : μ.le μ') : ∀ {v v' : Value}, RV μ tok v v' → RV μ' tok v v'
  | _, _, .bool b => .bool b
  | _, _, .int k n => .int k n
  | _, _, .string s => .string s
  | _, _, .pnil => .pnil
  | _, _, .ptr e => .ptr (h _ _ e)
  | _, _, .snil l c => .snil l c
  | _, _, .sexact l c e => .sexact l c (h _ _ e)
  | _, _, .sloose l e a b c => .sloose l (h _ _ e) a b c
  | _, _, .sempty b o a c => .sempty b o a c
  | _, _, .mnil => .mnil
  | _, _, .map e => .map (h _ _ e)
  | _, _, .func fn a b => .func fn (RL.mono h a) (RL.mono h b)
  | _, _, .nilFunc => .nilFunc
  | _, _, .iface t e => .iface t (RV.mono h e)
  | _, _, .nilIface => .nilIface
  | _, _, .agg e => .agg (RL.mono h e)
  | _, _, .tuple e => .tuple (RL.mono h e)
  | _, _, .tok k => .tok k
theorem RL.mono {μ μ' : Mu} {tok : Nat → Value} (h : μ.le μ') : ∀ {l l' : List Value}, RL μ tok l l' → RL μ' tok l l'
  | _, _, .nil => .nil
  | _, _, .cons a b => .cons (RV.mono h a) (RL.mono h b)
end

section
variable {μ : Mu} {tok : Nat → Value}

theorem RL.len {l l' : List Value} (h : RL μ tok l l') : l.length = l'.length := by
  induction l generalizing l' with
  | nil => cases h; rfl
  | cons a l ih => cases h with | cons _ b => simp [ih b]

theorem RL.append {a a' b b' : List Value} (h : RL μ tok a a') (k : RL μ tok b b') : RL μ tok (a ++ b) (a' ++ b') := by
  induction a generalizing a' with
  | nil => cases h; exact k
  | cons x a ih => cases h with | cons u v => exact .cons u (ih v)

theorem RL.take {l l' : List Value} (h : RL μ tok l l') (n : Nat) : RL μ tok (l.take n) (l'.take n) := by
  induction n generalizing l l' with
  | zero => simp; exact .nil
  | succ n ih => cases h with
    | nil => simp; exact .nil
    | cons u v => simp; exact .cons u (ih v)

theorem RL.drop {l l' : List Value} (h : RL μ tok l l') (n : Nat) : RL μ tok (l.drop n) (l'.drop n) := by
  induction n generalizing l l' with
  | zero => simpa using h
  | succ n ih => cases h with
    | nil => simp; exact .nil
    | cons u v => simp; exact ih v

theorem RL.get {l l' : List Value} (h : RL μ tok l l') {n : Nat} {v : Value} (e : l[n]? = some v) : ∃ v', l'[n]? = some v' ∧ RV μ tok v v' := by
  induction n generalizing l l' with
  | zero => cases h with
    | nil => cases e
    | cons u w => simp at e; subst e; exact ⟨_, by simp, u⟩
  | succ n ih => cases h with
    | nil => cases e
    | cons u w => simp at e; simpa using ih w e

theorem RL.rep {l l' : List Value} (h : RL μ tok l l') (n : Nat) : RL μ tok (Ev.rep l n) (Ev.rep l' n) := by
  induction n with
  | zero => exact .nil
  | succ n ih => exact h.append ih

theorem RV.flat1 {v v' : Value} (h : RV μ tok v v') (f : Ev.flat1 v = true) : v' = v := by
  cases h <;> first | rfl | cases f

theorem RL.flat1 {l l' : List Value} (h : RL μ tok l l') (f : allB Ev.flat1 l = true) : l' = l := by
  induction l generalizing l' with
  | nil => cases h; rfl
  | cons a l ih => cases h with
    | cons u v =>
      simp only [allB] at f
      cases ha : Ev.flat1 a with
      | false => rw [ha] at f; cases f
      | true => rw [ha] at f; rw [u.flat1 ha, ih v (by simpa using f)]

theorem RV.flat {v v' : Value} (h : RV μ tok v v') (f : Ev.flat v = true) : v' = v := by
  cases h with
  | agg k => rw [RL.flat1 k f]
  | tuple k => rw [RL.flat1 k f]
  | iface t k => rw [RV.flat1 k f]
  | _ => first | rfl | cases f

theorem RV.ofFlat1 {v : Value} (f : Ev.flat1 v = true) : RV μ tok v v := by
  cases v with
  | bool b => exact .bool b
  | int k n => exact .int k n
  | string s => exact .string s
  | nilFunc => exact .nilFunc
  | nilIface => exact .nilIface
  | pointer a => cases a with | none => exact .pnil | some a => cases f
  | map a => cases a with | none => exact .mnil | some a => cases f
  | slice a l c => cases a with | none => exact .snil l c | some a => cases f
  | _ => cases f

theorem RL.ofFlat1 : ∀ {l : List Value}, allB Ev.flat1 l = true → RL μ tok l l
  | [], _ => .nil
  | a :: l, f => by
    simp only [allB] at f
    cases ha : Ev.flat1 a with
    | false => rw [ha] at f; cases f
    | true => rw [ha] at f; exact .cons (RV.ofFlat1 ha) (RL.ofFlat1 (by simpa using f))

theorem RV.ofFlat {v : Value} (f : Ev.flat v = true) : RV μ tok v v := by
  cases v with
  | agg l => cases l; exact .agg (RL.ofFlat1 f)
  | tuple l => cases l; exact .tuple (RL.ofFlat1 f)
  | iface t v => exact .iface t (RV.ofFlat1 f)
  | _ => exact RV.ofFlat1 f

/-- The cells of related values. -/
theorem RV.cells {v v' : Value} (htok : ∀ k, cellOk (tok k) = true) (h : RV μ tok v v') : RL μ tok (cellsL v) v'.cells.toList := by
  cases h with
  | agg k => exact k
  | tok k =>
    have := htok k
    cases hk : tok k with
    | agg l => rw [hk] at this; cases this
    | _ => exact .cons (hk ▸ RV.tok k) .nil
  | _ => exact .cons (by constructor <;> assumption) .nil

theorem RV.cellOk {v v' : Value} (htok : ∀ k, Ev.cellOk (tok k) = true) (h : RV μ tok v v') (f : Ev.cellOk v = true) : Ev.cellOk v' = true := by
  cases h with
  | agg k => cases f
  | tuple k => cases f
  | tok k => exact htok k
  | _ => rfl

theorem RL.cellOk {l l' : List Value} (htok : ∀ k, Ev.cellOk (tok k) = true) (h : RL μ tok l l') (f : ∀ x ∈ l, Ev.cellOk x = true) : ∀ x ∈ l', Ev.cellOk x = true := by
  induction l generalizing l' with
  | nil => cases h; intro x hx; cases hx
  | cons a l ih => cases h with
    | cons u v =>
      intro x hx
      cases hx with
      | head => exact u.cellOk htok (f _ (by simp))
      | tail _ hx => exact ih v (fun y hy => f y (by simp [hy])) x hx

end
end Go.Ev
