/-
  THE EVALUATOR, CLOSED: what it says of a call without arguments holds from any world.
-/
import Derived.Test.YtcnkdagngaomdaaGreatDoorEvS26
import Derived.Test.YtcnkdagngaomdaaGreatDoorEvR
import Derived.Test.YtcnkdagngaomdaaGreatDoorEvDS
namespace Go.Ev
noncomputable section
open Go Go.RowKit

/-- Texts of zeros: what a text's token stands for where none is given. -/
def zeros (n : Nat) : ByteArray := ⟨Array.replicate n 0⟩

theorem zeros_size (n : Nat) : (zeros n).size = n := by simp [zeros, ByteArray.size]

/-- Opaque values: whole numbers, texts, anything else. -/
def tokF (i : Nat → Int) (s : Nat → ByteArray) (o : Nat → Value) (k : Nat) : Value :=
  if k % 4 = 1 then .int .i64 (i k) else if k % 4 = 2 then .string (s k) else o k

theorem tokF_ok {i : Nat → Int} {s : Nat → ByteArray} {o : Nat → Value} (hi : ∀ k, k % 4 = 1 → tlo k ≤ thi k → tlo k ≤ i k ∧ i k ≤ thi k)
    (hs : ∀ k, k % 4 = 2 → k / 4 % 4 = 1 → 0 ≤ tlo (k / 4) → tlo (k / 4) ≤ thi (k / 4) → ((s k).size : Int) = i (k / 4)) : TokB (tokF i s o) := by
  intro k
  refine ⟨fun h1 h2 => ⟨i k, ?_, hi k h1 h2⟩, fun h1 h2 h3 h4 => ⟨s k, ?_, ?_⟩⟩
  · unfold tokF; rw [if_pos h1]
  · unfold tokF; rw [if_neg (by omega), if_pos h1]
  · unfold tokF; rw [if_pos h2, hs k h1 h2 h3 h4]

theorem fnsOf_ok {P : Program} {d k : Nat} {fn : Func} (h : (fnsOf P d).get k = some fn) : P.funcs[k]? = some fn ∧ fnOk 0 fn = true := by
  have h1 := mkT_get d 1 0 k fn h
  simp only [Nat.zero_add, Nat.one_mul] at h1
  split at h1
  · rename_i f hf
    obtain ⟨ho, h2⟩ := cond_some h1
    cases h2
    exact ⟨by simpa using hf, ho⟩
  · cases h1

theorem drawF_ok {P : Program} {tt : T TI} {ng : Nat} {call : CallF} (h : DrawOK P ng (drawE P tt call)) : DrawOK P ng (drawF P tt call) :=
  fun n ops t hp r hn e ha => h n ops t hp r hn (drawF_imp e) ha

/-- Is a function the model's entry for maps.clone? -/
def IsClone (P : Program) (k : Nat) : Prop :=
  ∃ fn, P.funcs[k]? = some fn ∧ (fn.name == "runtime.NumGoroutine") = false ∧ fn.body.isNone = true ∧ Extern.findNext fn = none ∧ Extern.find fn = some Extern.MapsClone.clone

theorem prims_ok {P : Program} {dt df K catchId : Nat} {cloneId : Option Nat} (hm : P.follows .mixedOrders = true) (hcl : ∀ c, cloneId = some c → IsClone P c) : PrimOK P 0 (prims P (mkT (tiOf P) dt 1 0) (fnsOf P df) K catchId cloneId) := by
  have hT := TT_mk P dt
  have hd : ∀ call, CallOK P 0 call → DrawOK P 0 (drawF P (mkT (tiOf P) dt 1 0) call) := fun call hc => drawF_ok (drawE_ok hT hm hc)
  have hF : ∀ k fn, (fnsOf P df).get k = some fn → P.funcs[k]? = some fn ∧ fnOk 0 fn = true := fun k fn h => fnsOf_ok h
  intro f p hpf call hc
  unfold prims at hpf
  cases hb : Nat.beq f catchId with
  | true =>
    rw [hb] at hpf
    simp only [cond_true] at hpf
    split at hpf
    · rename_i fn hfn
      cases hpf
      obtain ⟨h1, h2⟩ := fnsOf_ok hfn
      exact catchE_ok hT hc (hd call hc) hF h1 h2
    · cases hpf
  | false =>
    rw [hb] at hpf
    simp only [cond_false] at hpf
    split at hpf
    · rename_i c
      cases hb2 : Nat.beq f c with
      | false => rw [hb2] at hpf; cases hpf
      | true =>
        rw [hb2] at hpf
        cases hpf
        have hfe := nbeq hb2
        subst hfe
        obtain ⟨fn, h1, h2, h3, h4, h5⟩ := hcl f rfl
        exact xClone_ok h1 h2 h3 h4 h5
    · cases hpf

theorem run0_ok {P : Program} {dt df K catchId : Nat} {cloneId : Option Nat} {depth k : Nat} {v : Value} {h' : Hp} (hm : P.follows .mixedOrders = true) (hcl : ∀ c, cloneId = some c → IsClone P c)
    (hk : ∃ fn, P.funcs[k]? = some fn ∧ fn.body.isSome = true ∧ (fn.name == "runtime.NumGoroutine") = false) (e : run0 P dt df K catchId cloneId depth k = some (.ret v h')) (hv : flat v = true) (w : World) :
    Calls P k #[] w fun e w' => e = .returned v ∧ Below w.heap.size w w' := by
  have hT := TT_mk P dt
  have hd : ∀ call, CallOK P 0 call → DrawOK P 0 (drawF P (mkT (tiOf P) dt 1 0) call) := fun call hc => drawF_ok (drawE_ok hT hm hc)
  have hF : ∀ k fn, (fnsOf P df).get k = some fn → P.funcs[k]? = some fn ∧ fnOk 0 fn = true := fun k fn h => fnsOf_ok h
  have hp := prims_ok (K := K) (catchId := catchId) (dt := dt) (df := df) hm hcl
  have hc := callE_ok hT hF hp hd (K := K) depth
  have hat := hc k [] ⟨.e, 0, [], []⟩ (.ret v h') e (Nat.zero_le _) (fun _ => none) (tokF tlo (fun k => zeros (tlo (k / 4)).toNat) fun _ => .bool true) w.heap.size w (fun _ => none) w []
    ⟨(by simp), (by intro b x h; cases h), Nat.zero_le _⟩ (by intro b x h; cases h)
    ⟨(by intro b x h; cases h), (by intro b b' i i' h; obtain ⟨x, h, _⟩ := h; cases h), (by intro b i h; cases h), Below.refl _ _, Nat.le_refl _, fun k => (by unfold tokF; split; rfl; split <;> rfl), tokF_ok (fun k _ h => ⟨Int.le_refl _, h⟩) (fun k _ _ h _ => by rw [zeros_size]; omega)⟩
    (by intro g hg; omega) (fun b _ _ => ⟨rfl, rfl⟩) .nil
  obtain ⟨fn, hf, hbody, hname⟩ := hk
  rcases hat with ⟨_, hcalls⟩ | ⟨v2, w', hrun, _⟩
  · refine hcalls.mono ?_
    rintro e w' ⟨μ', gd, v', rfl, rv⟩
    have := rv.flat hv
    subst this
    exact ⟨rfl, gd.hr.below⟩
  · rw [callFunc_run hf hbody hname] at hrun
    cases hrun
end
end Go.Ev
