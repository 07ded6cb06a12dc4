/-
  THE EVALUATOR, CLOSED: calls with arguments of which bounds are known; an example proved before, as a primitive.
-/
import Derived.Test.YtcnkdagngaomdaaGreatDoorEvS27
namespace Go.Ev
noncomputable section
open Go Go.RowKit

theorem pTrue_ok {P : Program} {ng k : Nat} {call : CallF} (hk : ∃ fn, P.funcs[k]? = some fn ∧ fn.body.isSome = true ∧ (fn.name == "runtime.NumGoroutine") = false)
    (hc : ∀ w, Calls P k #[] w fun e w' => e = .returned (.bool true) ∧ Below w.heap.size w w') : CallAt P ng k (pTrue call) := by
  intro as h r e hle μ tok B0 w0 F w as' ok s hr gl fr ra
  unfold pTrue at e
  split at e
  · cases e
    cases ra
    obtain ⟨fn, hf, hb, hn⟩ := hk
    refine .inl ⟨callFunc_run hf hb hn _ _, (hc w).mono ?_⟩
    rintro e w' ⟨rfl, bl⟩
    refine ⟨μ, ⟨Step.refl ok, Ext.refl _ _ _, ?_⟩, .bool true, rfl, .bool true⟩
    show HR μ tok B0 w0 (ovr F h) w'
    rw [ovr_same s]
    exact hr.keeps bl
  · cases e

theorem runA_ok {P : Program} {dt df K catchId : Nat} {cloneId known : Option Nat} {depth k : Nat} {as as' : List Value} {v : Value} {h' : Hp} (hm : P.follows .mixedOrders = true) (hcl : ∀ c, cloneId = some c → IsClone P c)
    (hkn : ∀ a, known = some a → (∃ fn, P.funcs[a]? = some fn ∧ fn.body.isSome = true ∧ (fn.name == "runtime.NumGoroutine") = false) ∧ ∀ w, Calls P a #[] w fun e w' => e = .returned (.bool true) ∧ Below w.heap.size w w')
    (hk : ∃ fn, P.funcs[k]? = some fn ∧ fn.body.isSome = true ∧ (fn.name == "runtime.NumGoroutine") = false) (e : runA P dt df K catchId cloneId known depth k as = some (.ret v h')) (hv : flat v = true)
    {tok : Nat → Value} (htok : ∀ k, cellOk (tok k) = true) (htb : TokB tok) (ha : RL (fun _ => none) tok as as') (w : World) :
    Calls P k as'.toArray w fun e w' => e = .returned v ∧ Below w.heap.size w w' := by
  have hT := TT_mk P dt
  have hd : ∀ call, CallOK P 0 call → DrawOK P 0 (drawF P (mkT (tiOf P) dt 1 0) call) := fun call hc => drawF_ok (drawE_ok hT hm hc)
  have hF : ∀ k fn, (fnsOf P df).get k = some fn → P.funcs[k]? = some fn ∧ fnOk 0 fn = true := fun k fn h => fnsOf_ok h
  have hp0 := prims_ok (K := K) (catchId := catchId) (dt := dt) (df := df) hm hcl
  have hp : PrimOK P 0 (primsX P (mkT (tiOf P) dt 1 0) (fnsOf P df) K catchId cloneId known) := by
    intro f p hpf call hc
    unfold primsX at hpf
    split at hpf
    · rename_i a
      cases hb : Nat.beq f a with
      | true =>
        rw [hb] at hpf
        cases hpf
        have := nbeq hb
        subst this
        obtain ⟨h1, h2⟩ := hkn f rfl
        exact pTrue_ok h1 h2
      | false =>
        rw [hb] at hpf
        exact hp0 f p hpf call hc
    · exact hp0 f p hpf call hc
  have hc := callE_ok hT hF hp hd (K := K) depth
  have hat := hc k as ⟨.e, 0, [], []⟩ (.ret v h') e (Nat.zero_le _) (fun _ => none) tok w.heap.size w (fun _ => none) w as'
    ⟨(by simp), (by intro b x h; cases h), Nat.zero_le _⟩ (by intro b x h; cases h)
    ⟨(by intro b x h; cases h), (by intro b b' i i' h; obtain ⟨x, h, _⟩ := h; cases h), (by intro b i h; cases h), Below.refl _ _, Nat.le_refl _, htok, htb⟩
    (by intro g hg; omega) (fun b _ _ => ⟨rfl, rfl⟩) ha
  obtain ⟨fn, hf, hbody, hname⟩ := hk
  rcases hat with ⟨_, hcalls⟩ | ⟨v2, w', hrun, _⟩
  · refine hcalls.mono ?_
    rintro e w' ⟨μ', gd, v', rfl, rv⟩
    have := rv.flat hv
    subst this
    exact ⟨rfl, gd.hr.below⟩
  · rw [callFunc_run hf hbody hname] at hrun
    cases hrun
end
end Go.Ev
