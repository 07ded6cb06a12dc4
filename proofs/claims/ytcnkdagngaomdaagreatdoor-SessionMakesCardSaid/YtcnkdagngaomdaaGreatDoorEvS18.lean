/-
  SOUNDNESS, EIGHTEENTH PART: one operation in its place, a call too; regions in their text's order.
-/
import Derived.Test.YtcnkdagngaomdaaGreatDoorEvS17
import Derived.Test.YtcnkdagngaomdaaGreatDoorEvK
import Derived.Test.YtcnkdagngaomdaaGreatDoorEvE
import Derived.Calls
import Derived.LoopN
namespace Go.Ev
open Go Go.RowKit

def TmR (μ : Mu) (tok : Nat → Value) (n : Nat) (t : T Value) (a : Array Value) : Prop :=
  a.size = n ∧ ∀ i, RV μ tok ((t.get i).getD undef) (a.getD i undef)

section
variable {P : Program} {tt : T TI} {w : World}
variable {μ : Mu} {tok : Nat → Value} {B0 : Nat} {w0 : World} {F : FH} {h h' : Hp} {ng n : Nat}

theorem TmR.mono {μ' : Mu} (hm : μ.le μ') {t : T Value} {a : Array Value} (r : TmR μ tok n t a) : TmR μ' tok n t a := ⟨r.1, fun i => (r.2 i).mono hm⟩

theorem rv_undef : RV μ tok undef undef := .ofFlat (by rfl)

theorem TmR.put (hn : n ≤ 1000000) {t t' : T Value} {a : Act} {d : Option Tmp} {v v' : Value} (e : put n t d v = some t') (r : TmR μ tok n t a.tmps) (rv : RV μ tok v v') :
    TmR μ tok n t' (a.put d v').tmps := by
  cases d with
  | none => cases e; exact r
  | some i =>
    obtain ⟨hlt, e⟩ := cond_some e
    cases e
    have hi := nblt hlt
    refine ⟨by simp [Act.put, r.1], ?_⟩
    intro k
    rw [set40 (by omega)]
    show RV μ tok _ ((a.tmps.setIfInBounds i v').getD k undef)
    have hg : (a.tmps.setIfInBounds i v').getD k undef = if k = i then v' else a.tmps.getD k undef := by
      simp only [Array.getD_eq_getD_getElem?, Array.getElem?_setIfInBounds]
      by_cases ek : i = k
      · subst ek
        simp only [if_true, r.1, hi, Option.getD_some]
      · rw [if_neg ek, if_neg (Ne.symm ek)]
    rw [hg]
    by_cases ek : k = i
    · rw [if_pos ek, if_pos ek]; exact rv
    · rw [if_neg ek, if_neg ek]; exact r.2 k

theorem eval_rel (g : GL ng μ) {t : T Value} {a : Act} (r : TmR μ tok n t a.tmps) {x : Operand} (ho : opdOk ng x = true) : RV μ tok (aval t x) (a.eval x) := by
  cases x with
  | tmp i =>
    have := r.2 i
    show RV μ tok (avTmp i t) (a.tmps.getD i undef)
    unfold avTmp
    cases e : t.get i with
    | none => rw [e] at this; exact this
    | some v => rw [e] at this; exact this
  | const v =>
    change flat v = true at ho
    show RV μ tok (cond (flat v) v undef) v
    rw [ho]
    exact .ofFlat ho
  | global k =>
    obtain ⟨i, hi, hc, ho'⟩ := g k (nblt ho)
    show RV μ tok (.pointer (some ⟨k, 0, none⟩)) (.pointer (some ⟨k, 0, none⟩))
    have := RV.ptr (tok := tok) (o := 0) hi
    rw [hc, ho'] at this
    exact this
  | func f => exact .func (.func f) .nil .nil

/-- How a call of the evaluator's ends, and the world's call. -/
def EndR (μ : Mu) (tok : Nat → Value) : CR → Ending → Prop
  | .ret v _, e => ∃ v', e = .returned v' ∧ RV μ tok v v'
  | .pan v _, e => ∃ v', e = .panicked [{ v := v', recovered := false }] ∧ RV μ tok v v'

/-- A call as an operation makes it: a body is entered, or the model's own entry answers. -/
def CallRun (P : Program) (k : Nat) (as : Array Value) (w : World) (R : Ending → World → Prop) : Prop :=
  ((callFunc k as).run P w = .ok (.enter k as) w ∧ Calls P k as w R) ∨ ∃ v w', (callFunc k as).run P w = .ok (.value v) w' ∧ R (.returned v) w'

/-- One function's call: what the evaluator says of it holds. -/
def CallAt (P : Program) (ng k : Nat) (c : List Value → Hp → Option CR) : Prop :=
  ∀ as h r, c as h = some r → h.c ≤ r.h.c → ∀ μ tok B0 w0 F w as', HpOk h → Sub h F → HR μ tok B0 w0 F w → GL ng μ → Fresh μ F h.c r.h.c → RL μ tok as as' →
      CallRun P k as'.toArray w fun e w' => ∃ μ', Good μ tok B0 w0 F h r.h μ' w' ∧ EndR μ' tok r e
def CallOK (P : Program) (ng : Nat) (call : CallF) : Prop := ∀ k, CallAt P ng k (call k)

theorem callFunc_run {k : Nat} {fn : Func} (hf : P.funcs[k]? = some fn) (hb : fn.body.isSome = true) (hn : (fn.name == "runtime.NumGoroutine") = false) (as : Array Value) (w : World) :
    (callFunc k as).run P w = .ok (.enter k as) w := by
  unfold callFunc
  simp only [Sem.run_bind, run_program, then_ok, hf, hn, Bool.false_eq_true, if_false]
  cases hb' : fn.body with
  | none => rw [hb'] at hb; cases hb
  | some c => simp only [Option.isNone_some, Bool.false_eq_true, if_false, Sem.run_pure]

theorem target_rel {ρ ρ' : Operand → Value} {f : Operand} {args args' : List Value} {k : Nat} {as : List Value} (e : target ρ f args = some (k, as)) (hf : RV μ tok (ρ f) (ρ' f)) (ha : RL μ tok args args') :
    ∃ first captured, ρ' f = .func (.func k) ⟨first⟩ ⟨captured⟩ ∧ RL μ tok as (first ++ (args' ++ captured)) := by
  unfold target at e
  split at e
  · rename_i k' first captured he
    cases e
    rw [he] at hf
    generalize ρ' f = q at hf
    cases hf with
    | func fn a b => exact ⟨_, _, rfl, a.append (ha.append b)⟩
  · cases e


theorem opE_cases {call : CallF} {ρ : Operand → Value} {o : Oper} {r : OR} (e : opE P tt call ρ o h = some r) :
    (∃ f args ts k as c, o.op = .call ⟨.value f, args, ts⟩ ∧ target ρ f (args.toList.map ρ) = some (k, as) ∧ call k as h = some c ∧ r = (match c with | .ret v h' => .val v h' | .pan v h' => .pan v h')) ∨
    (∃ x t v, o.op = .panic x ∧ ρ x = .iface t v ∧ r = .pan (.iface t v) h) ∨
    (∃ v h', aop P tt ρ o h = some (.val v h') ∧ r = .val v h') ∨ ∃ v, tokOp tt ρ o = some v ∧ r = .val v h := by
  rw [opE_eq] at e
  unfold opS at e
  split at e
  · rename_i v ht
    cases e
    exact .inr (.inr (.inr ⟨v, ht, rfl⟩))
  split at e
  · rename_i f args ts ho
    split at e
    · rename_i k as ht
      split at e
      · rename_i v h' hc; cases e; exact .inl ⟨f, args, ts, k, as, _, ho, ht, hc, rfl⟩
      · rename_i v h' hc; cases e; exact .inl ⟨f, args, ts, k, as, _, ho, ht, hc, rfl⟩
      · cases e
    · cases e
  · rename_i x ho
    split at e
    · rename_i t v hx; cases e; exact .inr (.inl ⟨x, t, v, ho, hx, rfl⟩)
    · cases e
  · split at e
    · rename_i v h' ha; cases e; exact .inr (.inr (.inl ⟨v, h', ha, rfl⟩))
    · cases e

theorem cmpTok_spec {op : BinOp} {k : Nat} {c n : Int} {b : Bool} (e : cmpTok op k c = some b) (h1 : tlo k ≤ n) (h2 : n ≤ thi k) :
    k % 4 = 1 ∧ tlo k ≤ thi k ∧ ((op = .lss ∧ b = decide (n < c)) ∨ (op = .leq ∧ b = decide (n ≤ c)) ∨ (op = .gtr ∧ b = decide (n > c)) ∨ (op = .geq ∧ b = decide (n ≥ c))) := by
  unfold cmpTok at e
  obtain ⟨hk, e⟩ := cond_some e
  obtain ⟨hl, e⟩ := cond_some e
  refine ⟨nbeq hk, of_decide_eq_true hl, ?_⟩
  have two : ∀ {p q : Prop} [Decidable p] [Decidable q], (cond (decide p) (some true) (cond (decide q) (some false) none)) = some b → (b = true ∧ p) ∨ (b = false ∧ q) := by
    intro p q _ _ h
    by_cases hp : p
    · rw [decide_eq_true hp] at h; cases h; exact .inl ⟨rfl, hp⟩
    · rw [decide_eq_false hp] at h
      by_cases hq : q
      · rw [decide_eq_true hq] at h; cases h; exact .inr ⟨rfl, hq⟩
      · rw [decide_eq_false hq] at h; cases h
  split at e
  · refine .inl ⟨rfl, ?_⟩
    rcases two e with ⟨rfl, h⟩ | ⟨rfl, h⟩
    · exact (decide_eq_true (by omega)).symm
    · exact (decide_eq_false (by omega)).symm
  · refine .inr (.inl ⟨rfl, ?_⟩)
    rcases two e with ⟨rfl, h⟩ | ⟨rfl, h⟩
    · exact (decide_eq_true (by omega)).symm
    · exact (decide_eq_false (by omega)).symm
  · refine .inr (.inr (.inl ⟨rfl, ?_⟩))
    rcases two e with ⟨rfl, h⟩ | ⟨rfl, h⟩
    · exact (decide_eq_true (by omega)).symm
    · exact (decide_eq_false (by omega)).symm
  · refine .inr (.inr (.inr ⟨rfl, ?_⟩))
    rcases two e with ⟨rfl, h⟩ | ⟨rfl, h⟩
    · exact (decide_eq_true (by omega)).symm
    · exact (decide_eq_false (by omega)).symm
  · cases e

theorem cmpTok_kind {op : BinOp} {k : Nat} {c : Int} {b : Bool} (e : cmpTok op k c = some b) : k % 4 = 1 ∧ tlo k ≤ thi k := by
  unfold cmpTok at e
  obtain ⟨hk, e⟩ := cond_some e
  obtain ⟨hl, e⟩ := cond_some e
  exact ⟨nbeq hk, of_decide_eq_true hl⟩

theorem tokOp_run (hT : TT P tt) (tb : TokB tok) {ρ ρ' : Operand → Value} {o : Oper} {v : Value} (e : tokOp tt ρ o = some v) (hρ : ∀ x ∈ o.op.operands, RV μ tok (ρ x) (ρ' x)) (w : World) :
    ∃ v', (execOp ρ' o).run P w = .ok (.value v') w ∧ RV μ tok v v' := by
  obtain ⟨dst, op, type, pos, after, guard⟩ := o
  unfold tokOp at e
  split at e
  · rename_i op xt x y yt ho
    simp only at ho
    subst ho
    split at e
    · rename_i k hx
      split at e
      · rename_i c hy
        split at e
        · rename_i b hb
          cases e
          have rx := hρ x (by simp [Op.operands])
          have ry := hρ y (by simp [Op.operands])
          rw [hx] at rx
          rw [hy] at ry
          obtain ⟨hk, hl⟩ := cmpTok_kind hb
          obtain ⟨n, hn, h1, h2⟩ := (tb k).1 hk hl
          have ex : ρ' x = .int .i64 n := by
            generalize ρ' x = q at rx
            cases rx
            exact hn
          have ey : ρ' y = .int .i64 c := by
            generalize ρ' y = q at ry
            cases ry
            rfl
          obtain ⟨_, _, hop⟩ := cmpTok_spec hb h1 h2
          refine ⟨.bool b, ?_, .bool b⟩
          rcases hop with ⟨rfl, rfl⟩ | ⟨rfl, rfl⟩ | ⟨rfl, rfl⟩ | ⟨rfl, rfl⟩
          · simp only [execOp, ex, ey]; rfl
          · simp only [execOp, ex, ey]; rfl
          · simp only [execOp, ex, ey]; rfl
          · simp only [execOp, ex, ey]; rfl
        · cases e
      · cases e
    · cases e
  · rename_i x t ts ho
    simp only at ho
    subst ho
    split at e
    · rename_i k hx
      split at e
      · rename_i b1 b2 b3 ht
        split at e
        · rename_i l hl
          cases e
          have rx := hρ x (by simp [Op.operands, Call.operands])
          rw [hx] at rx
          unfold lenTok at hl
          obtain ⟨g1, hl⟩ := cond_some hl
          obtain ⟨g2, hl⟩ := cond_some hl
          obtain ⟨g3, hl⟩ := cond_some hl
          obtain ⟨g4, hl⟩ := cond_some hl
          cases hl
          obtain ⟨s, hs1, hs2⟩ := (tb k).2 (nbeq g1) (nbeq g2) (of_decide_eq_true g3) (of_decide_eq_true g4)
          have ex : ρ' x = .string s := by
            generalize ρ' x = q at rx
            cases rx
            exact hs1
          refine ⟨tok (k / 4), ?_, .tok _⟩
          rw [hs2]
          obtain ⟨d, hkd, _, hd⟩ := tells_k hT ht
          obtain rfl := tk_string hkd
          have hl : (Builtin.len_ ⟨t :: ts⟩ type #[.string s]).run P w = .ok (.int .i64 s.size) w := by
            unfold Builtin.len_
            have h0 : (⟨t :: ts⟩ : Array TypeId)[0]? = some t := rfl
            have e2 : (#[Value.string s] : Array Value)[0]? = some (.string s) := rfl
            rw [h0, e2]
            simp only [Sem.run_bind, hd, then_ok, Sem.run_pure]
            rfl
          have ha : (⟨[x]⟩ : Array Operand).map ρ' = #[.string s] := by
            apply Array.ext'; simp [ex]
          simp only [execOp, resolve, Sem.run_bind, Sem.run_pure, then_ok, invoke, ha]
          have hb2 : ∀ cs, builtin .len ⟨t :: ts⟩ type cs #[.string s] = (do let r ← Builtin.len_ ⟨t :: ts⟩ type #[.string s]; pure (Next.value r)) := fun _ => rfl
          rw [hb2]
          simp only [Sem.run_bind, hl, then_ok, Sem.run_pure]
        · cases e
      · cases e
    · cases e
  · cases e

/-- One operation in its place. -/
theorem opE_wp (hT : TT P tt) {call : CallF} (hc : CallOK P ng call) (ok : HpOk h) (s : Sub h F) (r : HR μ tok B0 w0 F w) (g : GL ng μ)
    {t : T Value} {a : Act} {o : Oper} {out : OR} {next : Act → World → Prop} {Q : Exit → Act → World → Prop} (hρ : ∀ x ∈ o.op.operands, RV μ tok (aval t x) (a.eval x))
    (e : opE P tt call (aval t) o h = some out) (hle : h.c ≤ out.h.c) (f : Fresh μ F h.c out.h.c)
    (hv : ∀ v h', out = .val v h' → ∀ μ' v' w', Good μ tok B0 w0 F h h' μ' w' → RV μ' tok v v' → next (a.put o.dst v') w')
    (hp : ∀ v h', out = .pan v h' → ∀ μ' v' w', Good μ tok B0 w0 F h h' μ' w' → RV μ' tok v v' → Q (.panic [{ v := v', recovered := false }]) a w') :
    o.wp P a w next Q := by
  rcases opE_cases e with ⟨fo, args, ts, k, as, c, ho, ht, hk, rfl⟩ | ⟨x, ti, v, ho, hx, rfl⟩ | ⟨v, h', ha, rfl⟩ | ⟨v, ht, rfl⟩
  · have hch : c.h = (match c with | .ret v h' => OR.val v h' | .pan v h' => OR.pan v h').h := by cases c <;> rfl
    rw [← hch] at hle f
    have hfo : RV μ tok (aval t fo) (a.eval fo) := hρ fo (by rw [ho]; simp [Op.operands, Call.operands])
    have harg : RL μ tok (args.toList.map (aval t)) (args.toList.map a.eval) := RL.map _ _ _ fun x hx => hρ x (by rw [ho]; simp [Op.operands, Call.operands]; exact .inr (by simpa using hx))
    obtain ⟨first, captured, hf', hal⟩ := target_rel ht hfo harg
    have hcalls := hc k as h c hk hle μ tok B0 w0 F w _ ok s r g f hal
    have hrun : (execOp a.eval o).run P w = (callFunc k (first ++ (args.toList.map a.eval ++ captured)).toArray).run P w := by
      obtain ⟨dst, op, type, pos, after, guard⟩ := o
      subst ho
      simp only [execOp, resolve, Deferred.ofValue, hf', invoke, Sem.run_bind, Sem.run_pure, then_ok]
      congr 2
      apply Array.ext'
      simp
    unfold Oper.wp
    rw [hrun]
    rcases hcalls with ⟨he, hcs⟩ | ⟨v, w', he, μ', gd, er⟩
    · rw [he, Oper.upon_enter]
      refine hcs.mono ?_
      rintro e w' ⟨μ', gd, er⟩
      cases c with
      | ret v h' =>
        obtain ⟨v', rfl, rv⟩ := er
        exact hv v h' rfl μ' v' w' gd rv
      | pan v h' =>
        obtain ⟨v', rfl, rv⟩ := er
        exact hp v h' rfl μ' v' w' gd rv
    · rw [he, Oper.upon_value]
      cases c with
      | ret v h' =>
        obtain ⟨v', he2, rv⟩ := er
        cases he2
        exact hv _ h' rfl μ' _ w' gd rv
      | pan v h' =>
        obtain ⟨v', he2, rv⟩ := er
        cases he2
  · have hx' := hρ x (by rw [ho]; simp [Op.operands])
    rw [hx] at hx'
    obtain ⟨dst, op, type, pos, after, guard⟩ := o
    subst ho
    generalize hq : a.eval x = q at hx'
    cases hx' with
    | iface _ rv =>
      rename_i v'
      unfold Oper.wp
      have hrun : (execOp a.eval ⟨dst, .panic x, type, pos, after, guard⟩).run P w = .halt (.panic (.iface ti v')) w := by
        simp only [execOp, hq, Instr.panic, goPanic]
        rfl
      rw [hrun, Oper.upon_panic]
      exact hp _ _ rfl μ _ w (Good.same ok s r) (.iface ti rv)
  · obtain ⟨μ', v', w', hrun, rv, gd⟩ := aop_val hT ok s r ha f hρ
    unfold Oper.wp
    rcases hrun with hrun | ⟨hrun, rfl⟩
    · rw [hrun, Oper.upon_value]
      exact hv v h' rfl μ' v' w' gd rv
    · rw [hrun, Oper.upon_skip]
      exact hv v h' rfl μ' _ w' gd rv
  · obtain ⟨v', hrun, rv⟩ := tokOp_run hT r.tokB ht hρ w
    unfold Oper.wp
    rw [hrun, Oper.upon_value]
    exact hv v h rfl μ v' w (Good.same ok s r) rv

theorem wants_rel {all : Array Oper} {t : T Value} {a : Array Value} {o : Oper} (rt : ∀ j want g d, o.guard = some (j, want) → all[j]? = some g → g.dst = some d → RV μ tok ((t.get d).getD undef) (a.getD d undef)) {b : Bool} (e : wantsE all.toList t o = some b) :
    Region.wanted o (yielded all a) = b := by
  rw [wantsE_eq] at e
  unfold Region.wanted
  split at e
  · rename_i hg; cases e; rw [hg]
  · rename_i j want hg
    rw [hg]
    simp only []
    unfold yielded
    split at e
    · rename_i g hj
      rw [nth_eq] at hj
      have hj' : all[j]? = some g := by simpa using hj
      rw [hj']
      simp only [Option.bind_some]
      split at e
      · rename_i d hd
        rw [hd]
        simp only [Option.bind_some]
        have hr := rt j want g d hg hj' hd
        rw [Array.getD_eq_getD_getElem?] at hr
        split at e
        · rename_i c hc
          rw [hc] at hr
          simp only [Option.getD_some] at hr
          cases e
          cases hx : a[d]? with
          | none => rw [hx] at hr; exact absurd hr (by intro hh; cases hh)
          | some y =>
            rw [hx] at hr
            simp only [Option.getD_some] at hr
            cases hr
            cases c <;> cases want <;> rfl
        · rename_i l hc
          rw [hc] at hr
          cases e
          cases hx : a[d]? with
          | none => cases want <;> rfl
          | some y =>
            rw [hx] at hr
            simp only [Option.getD_some] at hr
            cases hr
            cases want <;> rfl
        · rename_i hc
          rw [hc] at hr
          cases e
          cases hx : a[d]? with
          | none => cases want <;> rfl
          | some y =>
            rw [hx] at hr
            simp only [Option.getD_some, Option.getD_none] at hr
            have : y = undef := hr.flat (by rfl)
            subst this
            cases want <;> rfl
        · cases e
      · rename_i hd
        cases e
        rw [hd]
        cases want <;> rfl
    · rename_i hj
      cases e
      rw [nth_eq] at hj
      have hj' : all[j]? = none := by simpa using hj
      rw [hj']
      cases want <;> rfl

end
end Go.Ev
