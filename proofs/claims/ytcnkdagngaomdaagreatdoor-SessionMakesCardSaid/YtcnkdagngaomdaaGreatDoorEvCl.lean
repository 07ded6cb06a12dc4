/-
  WHICH FUNCTIONS A FUNCTION LEADS TO, reckoned with a set in place of a list.
-/
import Derived.Test.YtcnkdagngaomdaaGreatDoorEvS4
import Derived.Test.YtcnkdagngaomdaaGreatDoorEvDS
import GoSem.ClaimFn
namespace Go.Ev
open Go
noncomputable section

/-- The functions, by number. -/
def fnT (P : Program) (d : Nat) : T Func := mkT (fun k => P.funcs.toList[k]?) d 1 0

theorem fnT_ok {P : Program} {d k : Nat} {fn : Func} (h : (fnT P d).get k = some fn) : P.funcs[k]? = some fn := by
  have h1 := mkT_get d 1 0 k fn h
  simp only [Nat.zero_add, Nat.one_mul] at h1
  simpa using h1

def closV (P : Program) (ft : T Func) (n : Nat) : List Nat → T Unit → List Nat → Option (List Nat) :=
  Nat.rec (motive := fun _ => List Nat → T Unit → List Nat → Option (List Nat)) (fun _ _ seen => some seen.reverse)
    (fun _ ih todo t seen => List.rec (motive := fun _ => Option (List Nat)) (some seen.reverse)
      (fun f todo _ => oE (t.get f) (oK (ft.get f) fun fn => cond (Nat.ble f 1000000000) (ih (P.leadsTo fn ++ todo) (t.set 40 f ()) (f :: seen)) none) (fun _ => ih todo t seen)) todo) n

theorem closV_ok {P : Program} {d : Nat} : ∀ {n : Nat} {todo : List Nat} {t : T Unit} {seen L : List Nat}, (∀ k, (t.get k).isSome = true ↔ k ∈ seen) → closV P (fnT P d) n todo t seen = some L → P.closureVia n todo seen = L
  | 0, todo, t, seen, L, _, h => by cases h; rfl
  | n + 1, [], t, seen, L, _, h => by cases h; rfl
  | n + 1, f :: todo, t, seen, L, hs, h => by
    replace h : oE (t.get f) (oK ((fnT P d).get f) fun fn => cond (Nat.ble f 1000000000) (closV P (fnT P d) n (P.leadsTo fn ++ todo) (t.set 40 f ()) (f :: seen)) none) (fun _ => closV P (fnT P d) n todo t seen) = some L := h
    unfold Program.closureVia
    cases ht : t.get f with
    | some u =>
      rw [ht] at h
      have hm : f ∈ seen := (hs f).1 (by rw [ht]; rfl)
      rw [if_pos (by simpa using hm)]
      exact closV_ok hs h
    | none =>
      rw [ht] at h
      have hm : f ∉ seen := fun hm => by have := (hs f).2 hm; rw [ht] at this; cases this
      rw [if_neg (by simpa using hm)]
      obtain ⟨fn, hf, h⟩ := oK_some (show oK ((fnT P d).get f) _ = some L from h)
      obtain ⟨hle, h⟩ := cond_some h
      rw [fnT_ok hf]
      refine closV_ok (t := t.set 40 f ()) ?_ h
      intro k
      rw [set40 (by have := nble hle; omega)]
      by_cases e : k = f
      · subst e; simp
      · rw [if_neg e, hs k]; simp [e]

theorem closure_eq {P : Program} {d f : Nat} {L : List Nat} (h : closV P (fnT P d) (1 + (P.funcs.toList.map fun g => (P.leadsTo g).length + 1).sum) [f] .e [] = some L) : P.closure f = L :=
  closV_ok (fun k => by simp [T.get]) h
end
end Go.Ev
