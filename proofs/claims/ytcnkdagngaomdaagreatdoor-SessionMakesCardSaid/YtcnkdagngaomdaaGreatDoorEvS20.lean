/-
  SOUNDNESS, TWENTIETH PART: bodies and calls.
-/
import Derived.Test.YtcnkdagngaomdaaGreatDoorEvS19
namespace Go.Ev
open Go Go.RowKit

section
variable {P : Program} {tt : T TI} {tok : Nat → Value} {B0 : Nat} {w0 : World} {ng n : Nat}

def resOne (tmps : Array Value) : ResultVar → Sem Value
  | .tmp t => pure (tmps.getD t undef)
  | .cell a t => do loadVar t (← asAddr (tmps.getD a undef))

theorem results_eq (fn : Func) (tmps : Array Value) : results fn tmps = (do
    let vs ← fn.results.toList.mapM (resOne tmps)
    pure (if h : vs.toArray.size = 1 then vs.toArray[0] else .tuple vs.toArray)) := by
  unfold results
  rw [Array.mapM_eq_mapM_toList]
  simp only [bind_map_left]
  rfl

theorem resultL_run (hT : TT P tt) {μ : Mu} {F : FH} {h : Hp} {w : World} (s : Sub h F) (r : HR μ tok B0 w0 F w) {t : T Value} {tmps : Array Value} (rt : TmR μ tok n t tmps) :
    ∀ {l : List ResultVar} {vs : List Value}, resultL tt h t l = some vs → ∃ vs', (l.mapM (resOne tmps)).run P w = .ok vs' w ∧ RL μ tok vs vs'
  | [], vs, e => by
    cases e
    exact ⟨[], rfl, .nil⟩
  | .tmp i :: l, vs, e => by
    unfold resultL at e
    split at e
    · rename_i v l' hv hl
      cases e
      obtain ⟨vs', hr, rl⟩ := resultL_run hT s r rt hl
      have hvr := rt.2 i
      rw [hv] at hvr
      refine ⟨tmps.getD i undef :: vs', ?_, .cons hvr rl⟩
      simp only [List.mapM_cons, resOne, pure_bind, Sem.run_bind, hr, then_ok, Sem.run_pure]
    · cases e
  | .cell a ty :: l, vs, e => by
    unfold resultL at e
    split at e
    · rename_i ad ha
      split at e
      · rename_i v l' hv hl
        cases e
        obtain ⟨vs', hr, rl⟩ := resultL_run hT s r rt hl
        have hvr := rt.2 a
        rw [ha] at hvr
        obtain ⟨v', hl1, rv⟩ := loadL_run hT s r hv hvr
        refine ⟨v' :: vs', ?_, .cons rv rl⟩
        have : (resOne tmps (.cell a ty)).run P w = .ok v' w := by
          show Sem.run P (do loadVar ty (← asAddr (tmps.getD a undef))) w = _
          generalize tmps.getD a undef = q at hvr hl1
          cases hvr with
          | ptr hi => exact hl1
        simp only [List.mapM_cons, Sem.run_bind, this, hr, then_ok, Sem.run_pure]
      · cases e
    · cases e

theorem doneE_run (hT : TT P tt) {μ : Mu} {F : FH} {h : Hp} {w : World} (s : Sub h F) (r : HR μ tok B0 w0 F w) {t : T Value} {tmps : Array Value} (rt : TmR μ tok n t tmps) {fn : Func} {out : CR} (e : doneE tt fn t h = some out) :
    ∃ v v', out = .ret v h ∧ (results fn tmps).run P w = .ok v' w ∧ RV μ tok v v' := by
  unfold doneE at e
  split at e
  · rename_i l hl
    cases e
    obtain ⟨vs', hr, rl⟩ := resultL_run hT s r rt hl
    rw [results_eq]
    simp only [Sem.run_bind, hr, then_ok, Sem.run_pure]
    refine ⟨_, _, rfl, rfl, ?_⟩
    cases rl with
    | nil => exact .tuple .nil
    | cons u rl2 =>
      cases rl2 with
      | nil => exact u
      | cons u2 rl3 => exact .tuple (.cons u (.cons u2 rl3))
  · cases e

theorem args0_get : ∀ (l : List Value) (i : Nat) (t : T Value) (k : Nat), i + l.length ≤ 1000001 → (args0 l i t).get k = if i ≤ k ∧ k < i + l.length then l[k - i]? else t.get k
  | [], i, t, k, _ => by
    rw [if_neg (by simp)]; rfl
  | a :: r, i, t, k, hk => by
    simp only [List.length_cons] at hk
    show (args0 r (i + 1) (t.set 40 i a)).get k = _
    rw [args0_get r (i + 1) _ k (by omega)]
    simp only [List.length_cons]
    by_cases e : k = i
    · subst e
      rw [if_neg (by omega), if_pos (by omega), set40 (by omega), if_pos rfl]
      simp
    · by_cases e2 : i + 1 ≤ k ∧ k < i + 1 + r.length
      · rw [if_pos e2, if_pos (by omega)]
        have : k - i = (k - (i + 1)) + 1 := by omega
        rw [this, List.getElem?_cons_succ]
      · rw [if_neg e2, if_neg (by omega), set40 (by omega), if_neg e]

theorem enter_rel {μ : Mu} {as as' : List Value} (hl : as.length ≤ n) (hn : n ≤ 1000000) (ra : RL μ tok as as') : TmR μ tok n (args0 as 0 .e) (as'.toArray ++ Array.replicate (n - as'.toArray.size) undef) := by
  have hlen := ra.len
  refine ⟨by simp; omega, ?_⟩
  intro i
  rw [args0_get as 0 .e i (by omega)]
  have hg : (as'.toArray ++ Array.replicate (n - as'.toArray.size) undef).getD i undef = (as'[i]?).getD undef := by
    rw [Array.getD_eq_getD_getElem?]
    by_cases hi : i < as'.length
    · rw [Array.getElem?_append_left (by simpa using hi)]
      simp
    · rw [Array.getElem?_append_right (by simpa using hi), List.getElem?_eq_none (by omega)]
      simp only [Array.getElem?_replicate]
      split <;> rfl
  rw [hg]
  by_cases hi : i < as.length
  · rw [if_pos (by omega)]
    obtain ⟨v', hv', rv⟩ := ra.get (n := i) (v := as[i]) (by simp [hi])
    simp only [Nat.sub_zero]
    rw [hv', List.getElem?_eq_getElem hi]
    exact rv
  · rw [if_neg (by omega), List.getElem?_eq_none (by omega)]
    exact rv_undef

theorem fnOk_spec {fn : Func} {c : Code} (hb : fn.body = some c) (h : fnOk ng fn = true) : codeOk ng c = true ∧ fn.ntmps ≤ 1000000 ∧ (fn.name == "runtime.NumGoroutine") = false := by
  unfold fnOk at h
  rw [hb] at h
  simp only at h
  cases h1 : codeOk ng c with
  | false => rw [h1] at h; cases h
  | true =>
    rw [h1] at h
    cases h2 : Nat.ble fn.ntmps 1000000 with
    | false => rw [h2] at h; cases h
    | true =>
      rw [h2] at h
      cases h3 : fn.name == "runtime.NumGoroutine" with
      | true => rw [h3] at h; cases h
      | false => exact ⟨rfl, nble h2, rfl⟩

theorem bodyE_ok (hT : TT P tt) {call : CallF} (hc : CallOK P ng call) {draw : Nat → List Oper → T Value → Hp → Option RR} (hd : DrawOK P ng draw) {K k : Nat} {fn : Func} (hf : P.funcs[k]? = some fn) (hk : fnOk ng fn = true) :
    CallAt P ng k (bodyE P tt call draw K fn) := by
  intro as h r e hle
  unfold bodyE at e
  split at e
  · cases e
  · rename_i c hb
    obtain ⟨hlen, e⟩ := cond_some e
    have hlen := nble hlen
    rw [len_eq] at hlen
    obtain ⟨hco, hn, hname⟩ := fnOk_spec hb hk
    intro μ tok B0 w0 F w as' ok s hr g f ra
    refine .inl ⟨callFunc_run hf (by rw [hb]; rfl) hname _ _, ?_⟩
    refine calls_of_wp hf hb ?_
    have st : St ng fn.ntmps [] μ tok B0 w0 F h (args0 as 0 .e) { tmps := as'.toArray ++ Array.replicate (fn.ntmps - as'.toArray.size) undef, defers := [] } w := ⟨ok, s, hr, g, enter_rel hlen hn ra, rfl⟩
    split at e
    · rename_i t h' h1
      refine codeE_wp hT hc hd hn c hco st h1 ?_ ?_
      · obtain ⟨v, v', rfl, _⟩ : ∃ v v' : Value, r = .ret v h' ∧ v' = v' := by
          unfold doneE at e
          split at e
          · cases e; exact ⟨_, undef, rfl, rfl⟩
          · cases e
        exact f
      · rintro ex a' w' ⟨μ', gd, nd, rt, er⟩
        cases er
        obtain ⟨v, v', rfl, hrun, rv⟩ := doneE_run hT (ovr_sub F h') gd.hr rt e
        exact ⟨nd, v', hrun, μ', gd, v', rfl, rv⟩
    · rename_i t h' h1
      refine codeE_wp hT hc hd hn c hco st h1 ?_ ?_
      · obtain ⟨v, v', rfl, _⟩ : ∃ v v' : Value, r = .ret v h' ∧ v' = v' := by
          unfold doneE at e
          split at e
          · cases e; exact ⟨_, undef, rfl, rfl⟩
          · cases e
        exact f
      · rintro ex a' w' ⟨μ', gd, nd, rt, er⟩
        cases er
        obtain ⟨v, v', rfl, hrun, rv⟩ := doneE_run hT (ovr_sub F h') gd.hr rt e
        exact ⟨nd, v', hrun, μ', gd, v', rfl, rv⟩
    · rename_i v t h' h1
      cases e
      refine codeE_wp hT hc hd hn c hco st h1 f ?_
      rintro ex a' w' ⟨μ', gd, nd, rt, v', rfl, rv⟩
      exact ⟨nd, μ', gd, v', rfl, rv⟩
    · cases e

/-- A primitive of the program's own. -/
def PrimOK (P : Program) (ng : Nat) (pr : Nat → Option (CallF → List Value → Hp → Option CR)) : Prop :=
  ∀ k p, pr k = some p → ∀ call, CallOK P ng call → CallAt P ng k (p call)

theorem callE_ok (hT : TT P tt) {ft : T Func} (hF : ∀ k fn, ft.get k = some fn → P.funcs[k]? = some fn ∧ fnOk ng fn = true) {pr : Nat → Option (CallF → List Value → Hp → Option CR)} (hp : PrimOK P ng pr)
    {draw : CallF → Nat → List Oper → T Value → Hp → Option RR} (hd : ∀ call, CallOK P ng call → DrawOK P ng (draw call)) {K : Nat} : ∀ d, CallOK P ng (callE P tt ft pr draw K d)
  | 0 => by intro k as h r e; cases e
  | d + 1 => by
    have ih := callE_ok hT hF hp hd (K := K) d
    intro k as h r e
    simp only [callE] at e
    split at e
    · rename_i p hpk
      exact hp k p hpk _ ih as h r e
    · split at e
      · rename_i fn hfn
        obtain ⟨hf, hk⟩ := hF k fn hfn
        exact bodyE_ok hT ih (hd _ ih) hf hk as h r e
      · cases e

end
end Go.Ev
