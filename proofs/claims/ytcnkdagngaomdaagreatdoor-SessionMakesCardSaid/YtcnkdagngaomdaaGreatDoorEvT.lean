/-
  THE EVALUATOR, CLOSED: a call with four limits and a text of which bounds are known answers true.
-/
import Derived.Test.YtcnkdagngaomdaaGreatDoorEvS28
namespace Go.Ev
open Go Go.RowKit

/-- A run that answers true. -/
def isTrue : Option CR → Bool
  | some (.ret (.bool b) _) => b
  | _ => false

theorem isTrue_ret {x : Option CR} (h : isTrue x = true) : ∃ h', x = some (.ret (.bool true) h') := by
  unfold isTrue at h
  split at h
  · subst h; exact ⟨_, rfl⟩
  · cases h

/-- A closed call that answers true, from any world. -/
theorem true0 {P : Program} {dt df K catchId : Nat} {cloneId : Option Nat} {depth k : Nat} (hm : P.follows .mixedOrders = true) (hcl : ∀ c, cloneId = some c → IsClone P c)
    (hk : ∃ fn, P.funcs[k]? = some fn ∧ fn.body.isSome = true ∧ (fn.name == "runtime.NumGoroutine") = false) (e : isTrue (run0 P dt df K catchId cloneId depth k) = true) (w : World) :
    Calls P k #[] w fun e w' => e = .returned (.bool true) ∧ Below w.heap.size w w' := by
  obtain ⟨h', e⟩ := isTrue_ret e
  exact run0_ok hm hcl hk e rfl w

theorem true4 {P : Program} {dt df K catchId : Nat} {cloneId known : Option Nat} {depth k : Nat} (hm : P.follows .mixedOrders = true) (hcl : ∀ c, cloneId = some c → IsClone P c)
    (hkn : ∀ a, known = some a → (∃ fn, P.funcs[a]? = some fn ∧ fn.body.isSome = true ∧ (fn.name == "runtime.NumGoroutine") = false) ∧ ∀ w, Calls P a #[] w fun e w' => e = .returned (.bool true) ∧ Below w.heap.size w w')
    (hk : ∃ fn, P.funcs[k]? = some fn ∧ fn.body.isSome = true ∧ (fn.name == "runtime.NumGoroutine") = false)
    {tP tL tB tT tX : Nat} {m : Bool} (e : isTrue (runA P dt df K catchId cloneId known depth k [.agg ⟨[.chan (some tP), .chan (some tL), .chan (some tB), .bool m]⟩, .chan (some tX)]) = true)
    (hd : tP % 4 = 1 ∧ tL % 4 = 1 ∧ tB % 4 = 1 ∧ tX % 4 = 2 ∧ tX / 4 = tT ∧ tL ≠ tP ∧ tB ≠ tP ∧ tB ≠ tL ∧ tT ≠ tP ∧ tT ≠ tL ∧ tT ≠ tB)
    {p g b : Int} {s : ByteArray} (hp : tlo tP ≤ p ∧ p ≤ thi tP) (hg : tlo tL ≤ g ∧ g ≤ thi tL) (hb : tlo tB ≤ b ∧ b ≤ thi tB) (hs : tlo tT ≤ (s.size : Int) ∧ (s.size : Int) ≤ thi tT) (w : World) :
    Calls P k #[.agg #[.int .i64 p, .int .i64 g, .int .i64 b, .bool m], .string s] w fun e w' => e = .returned (.bool true) ∧ Below w.heap.size w w' := by
  obtain ⟨h', e⟩ := isTrue_ret e
  obtain ⟨d1, d2, d3, d4, d5, n1, n2, n3, n4, n5, n6⟩ := hd
  let i : Nat → Int := fun k => if k = tP then p else if k = tL then g else if k = tB then b else if k = tT then (s.size : Int) else tlo k
  let t : Nat → ByteArray := fun k => if k = tX then s else zeros (i (k / 4)).toNat
  have iP : i tP = p := if_pos rfl
  have iL : i tL = g := by show (if tL = tP then p else if tL = tL then g else _) = g; rw [if_neg n1, if_pos rfl]
  have iB : i tB = b := by show (if tB = tP then p else if tB = tL then g else if tB = tB then b else _) = b; rw [if_neg n2, if_neg n3, if_pos rfl]
  have iT : i tT = (s.size : Int) := by show (if tT = tP then p else if tT = tL then g else if tT = tB then b else if tT = tT then (s.size : Int) else _) = _; rw [if_neg n4, if_neg n5, if_neg n6, if_pos rfl]
  have hi : ∀ k, k % 4 = 1 → tlo k ≤ thi k → tlo k ≤ i k ∧ i k ≤ thi k := by
    intro k _ hk
    by_cases e1 : k = tP
    · rw [e1, iP]; exact hp
    by_cases e2 : k = tL
    · rw [e2, iL]; exact hg
    by_cases e3 : k = tB
    · rw [e3, iB]; exact hb
    by_cases e4 : k = tT
    · rw [e4, iT]; exact hs
    · have : i k = tlo k := by show (if k = tP then p else if k = tL then g else if k = tB then b else if k = tT then (s.size : Int) else tlo k) = _; rw [if_neg e1, if_neg e2, if_neg e3, if_neg e4]
      rw [this]; exact ⟨Int.le_refl _, hk⟩
  have ht : ∀ k, k % 4 = 2 → k / 4 % 4 = 1 → 0 ≤ tlo (k / 4) → tlo (k / 4) ≤ thi (k / 4) → ((t k).size : Int) = i (k / 4) := by
    intro k _ h1 h2 h3
    by_cases e1 : k = tX
    · have : t k = s := if_pos e1
      rw [this, e1, d5, iT]
    · have : t k = zeros (i (k / 4)).toNat := if_neg e1
      rw [this, zeros_size]
      have := (hi _ h1 h3).1
      omega
  have vI : ∀ k, k % 4 = 1 → tokF i t (fun _ => .bool true) k = .int .i64 (i k) := fun k h => if_pos h
  have vX : tokF i t (fun _ => .bool true) tX = .string s := by
    unfold tokF
    rw [if_neg (by omega), if_pos d4]
    show Value.string (if tX = tX then s else _) = _
    rw [if_pos rfl]
  have r1 := RV.tok (μ := fun _ => none) (tok := tokF i t fun _ => .bool true) tP
  have r2 := RV.tok (μ := fun _ => none) (tok := tokF i t fun _ => .bool true) tL
  have r3 := RV.tok (μ := fun _ => none) (tok := tokF i t fun _ => .bool true) tB
  have r4 := RV.tok (μ := fun _ => none) (tok := tokF i t fun _ => .bool true) tX
  rw [vI _ d1, iP] at r1
  rw [vI _ d2, iL] at r2
  rw [vI _ d3, iB] at r3
  rw [vX] at r4
  exact runA_ok hm hcl hkn hk e rfl (tok := tokF i t fun _ => .bool true) (fun k => by unfold tokF; split; rfl; split <;> rfl) (tokF_ok hi ht)
    (.cons (.agg (.cons r1 (.cons r2 (.cons r3 (.cons (.bool m) .nil))))) (.cons r4 .nil)) w
end Go.Ev
