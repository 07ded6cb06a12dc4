/-
  SOUNDNESS, NINETEENTH PART: code.
-/
import Derived.Test.YtcnkdagngaomdaaGreatDoorEvS18
namespace Go.Ev
open Go Go.RowKit

def ExR (μ : Mu) (tok : Nat → Value) : Ex → Exit → Prop
  | .normal, e => e = .normal
  | .exit id, e => e = .exit id
  | .ret, e => e = .ret
  | .pan v, e => ∃ v', e = .panic [{ v := v', recovered := false }] ∧ RV μ tok v v'

def ofRR : RR → CE
  | .ok t h => ⟨.normal, t, h⟩
  | .pan v t h => ⟨.pan v, t, h⟩

/-- A state of the evaluator's, in a function's body, and the world's. -/
structure St (ng n : Nat) (ds : List Deferred) (μ : Mu) (tok : Nat → Value) (B0 : Nat) (w0 : World) (F : FH) (h : Hp) (t : T Value) (a : Act) (w : World) : Prop where
  ok : HpOk h
  sub : Sub h F
  hr : HR μ tok B0 w0 F w
  gl : GL ng μ
  tm : TmR μ tok n t a.tmps
  nd : a.defers = ds

/-- What code has come to. -/
def Out (μ : Mu) (tok : Nat → Value) (B0 : Nat) (w0 : World) (F : FH) (n : Nat) (ds : List Deferred) (h : Hp) (ce : CE) (e : Exit) (a : Act) (w : World) : Prop :=
  ∃ μ', Good μ tok B0 w0 F h ce.h μ' w ∧ a.defers = ds ∧ TmR μ' tok n ce.t a.tmps ∧ ExR μ' tok ce.e e

section
variable {P : Program} {tt : T TI} {tok : Nat → Value} {B0 : Nat} {w0 : World} {ng n : Nat} {ds : List Deferred}

theorem St.next {μ μ' : Mu} {F : FH} {h h' : Hp} {t t' : T Value} {a a' : Act} {w w' : World} (s : St ng n ds μ tok B0 w0 F h t a w) (g : Good μ tok B0 w0 F h h' μ' w') (nd : a'.defers = ds)
    (rt : TmR μ' tok n t' a'.tmps) : St ng n ds μ' tok B0 w0 (ovr F h') h' t' a' w' :=
  ⟨g.step.ok, ovr_sub F h', g.hr, s.gl.mono g.ext.1, rt, nd⟩

theorem Out.back {μ μ1 : Mu} {F : FH} {h h1 : Hp} {ce : CE} {e : Exit} {a : Act} {w w1 : World} (g : Good μ tok B0 w0 F h h1 μ1 w1) (o : Out μ1 tok B0 w0 (ovr F h1) n ds h1 ce e a w) :
    Out μ tok B0 w0 F n ds h ce e a w := by
  obtain ⟨μ', g', r⟩ := o
  exact ⟨μ', g.trans g', r⟩

theorem put_defers {a : Act} {d : Option Tmp} {v : Value} : (a.put d v).defers = a.defers := by cases d <;> rfl

theorem seqE_mono {call : CallF} {all : List Oper} : ∀ {r : List Oper} {t : T Value} {h : Hp} {out : RR}, seqE P tt call n all r t h = some out → h.c ≤ out.h.c
  | [], t, h, out, e => by cases e; exact Nat.le_refl _
  | o :: r, t, h, out, e => by
    rw [seqE_cons] at e
    split at e
    · split at e
      · split at e
        · obtain ⟨hle, e⟩ := cond_some e
          exact Nat.le_trans (nble hle) (seqE_mono e)
        · cases e
      · obtain ⟨hle, e⟩ := cond_some e
        cases e
        exact nble hle
      · cases e
    · split at e
      · exact seqE_mono e
      · cases e
    · cases e

theorem seqE_wp (hT : TT P tt) {call : CallF} (hc : CallOK P ng call) (hn : n ≤ 1000000) {ops : Array Oper} : ∀ (r pre : List Oper), ops.toList = pre ++ r → allB (opOk ng) r = true →
    ∀ ⦃μ : Mu⦄ ⦃F : FH⦄ ⦃h : Hp⦄ ⦃t : T Value⦄ ⦃a : Act⦄ ⦃w : World⦄ ⦃out : RR⦄ ⦃Q : Exit → Act → World → Prop⦄, St ng n ds μ tok B0 w0 F h t a w → seqE P tt call n ops.toList r t h = some out → Fresh μ F h.c out.h.c →
    (∀ e a' w', Out μ tok B0 w0 F n ds h (ofRR out) e a' w' → Q e a' w') → wpOps P ops Q (List.range' pre.length r.length) a w
  | [], pre, _, _ => by
    intro μ F h t a w out Q st e f hq
    cases e
    exact hq _ _ _ ⟨μ, Good.same st.ok st.sub st.hr, st.nd, st.tm, rfl⟩
  | o :: r, pre, hops, hok => by
    intro μ F h t a w out Q st e f hq
    have hi : ops[pre.length]? = some o := by
      rw [← Array.getElem?_toList, hops]; simp
    have hops' : ops.toList = (pre ++ [o]) ++ r := by rw [hops]; simp
    obtain ⟨ho, hok'⟩ : opOk ng o = true ∧ allB (opOk ng) r = true := by
      simp only [allB] at hok
      cases h1 : opOk ng o with
      | true => rw [h1] at hok; exact ⟨rfl, hok⟩
      | false => rw [h1] at hok; cases hok
    have ih := @seqE_wp hT call hc hn ops r (pre ++ [o]) hops' hok'
    simp only [List.length_append, List.length_cons, List.length_nil, Nat.zero_add] at ih
    rw [List.length_cons, List.range'_succ]
    simp only [wpOps, hi]
    rw [seqE_cons] at e
    split at e
    · rename_i hw
      rw [wants_rel (fun _ _ _ d _ _ _ => st.tm.2 d) hw]
      simp only [if_true]
      left
      split at e
      · rename_i v h' hop
        split at e
        · rename_i t' hput
          obtain ⟨hle, e⟩ := cond_some e
          have hle := nble hle
          have hle2 := seqE_mono e
          refine opE_wp hT hc st.ok st.sub st.hr st.gl (fun x hx => eval_rel st.gl st.tm (allB_spec ho x (by simpa using hx))) hop hle (f.less hle2) ?_ ?_
          · intro u h2 he μ' v' w' g rv
            cases he
            have rt' : TmR μ' tok n t' (a.put o.dst v').tmps := (st.tm.mono g.ext.1).put hn hput rv
            have st' := st.next g (a' := a.put o.dst v') (by rw [put_defers]; exact st.nd) rt'
            exact ih st' e (Fresh.later f g.ext g.step) fun e a' w' ho => hq _ _ _ (Out.back g ho)
          · intro u h2 he
            cases he
        · cases e
      · rename_i v h' hop
        obtain ⟨hle, e⟩ := cond_some e
        have hle := nble hle
        cases e
        refine opE_wp hT hc st.ok st.sub st.hr st.gl (fun x hx => eval_rel st.gl st.tm (allB_spec ho x (by simpa using hx))) hop hle f ?_ ?_
        · intro u h2 he
          cases he
        · intro u h2 he μ' v' w' g rv
          cases he
          exact hq _ _ _ ⟨μ', g, st.nd, st.tm.mono g.ext.1, v', rfl, rv⟩
      · cases e
    · rename_i hw
      rw [wants_rel (fun _ _ _ d _ _ _ => st.tm.2 d) hw]
      simp only [Bool.false_eq_true, if_false]
      split at e
      · rename_i t' hput
        have rt' : TmR μ tok n t' (a.put o.dst undef).tmps := st.tm.put hn hput rv_undef
        have g := Good.same st.ok st.sub st.hr
        have st' : St ng n ds μ tok B0 w0 F h t' (a.put o.dst undef) w := ⟨st.ok, st.sub, st.hr, st.gl, rt', by rw [put_defers]; exact st.nd⟩
        exact ih st' e f hq
      · cases e
    · cases e

/-- A drawing region of the evaluator's. -/
def DrawOK (P : Program) (ng : Nat) (draw : Nat → List Oper → T Value → Hp → Option RR) : Prop :=
  ∀ n (ops : Array Oper) t h r, n ≤ 1000000 → draw n ops.toList t h = some r → allB (opOk ng) ops.toList = true → h.c ≤ r.h.c ∧
    ∀ ds tok B0 w0 μ F a w Q id, St ng n ds μ tok B0 w0 F h t a w → Fresh μ F h.c r.h.c → (∀ e a' w', Out μ tok B0 w0 F n ds h (ofRR r) e a' w' → Q e a' w') → (Code.region id ops true).wp P Q a w

theorem ceOf_some {x : Option RR} {ce : CE} (e : ceOf x = some ce) : ∃ r, x = some r ∧ ce = ofRR r := by
  unfold ceOf at e
  split at e
  · cases e; exact ⟨_, rfl, rfl⟩
  · cases e; exact ⟨_, rfl, rfl⟩
  · cases e

theorem ofRR_h (r : RR) : (ofRR r).h = r.h := by cases r <;> rfl

theorem iter_mono {body : T Value → Hp → Option CE} (hb : ∀ t h ce, body t h = some ce → h.c ≤ ce.h.c) : ∀ {k : Nat} {t : T Value} {h : Hp} {ce : CE}, iter body k t h = some ce → h.c ≤ ce.h.c
  | 0, t, h, ce, e => by cases e
  | k + 1, t, h, ce, e => by
    unfold iter at e
    split at e
    · rename_i t' h' hb'
      exact Nat.le_trans (hb _ _ _ hb') (iter_mono hb e)
    · exact hb _ _ _ e

theorem codeE_mono {call : CallF} {draw : Nat → List Oper → T Value → Hp → Option RR} (hd : DrawOK P ng draw) (hn : n ≤ 1000000) {K : Nat} : ∀ (c : Code), codeOk ng c = true → ∀ {t : T Value} {h : Hp} {ce : CE}, codeE P tt call draw n K c t h = some ce → h.c ≤ ce.h.c := by
  intro c
  induction c with
  | skip => intro _ t h ce e; cases e; exact Nat.le_refl _
  | label l => intro _ t h ce e; cases e; exact Nat.le_refl _
  | exit id => intro _ t h ce e; cases e; exact Nat.le_refl _
  | ret => intro _ t h ce e; cases e; exact Nat.le_refl _
  | region id ops d =>
    intro hk t h ce e
    obtain ⟨r, hr, rfl⟩ := ceOf_some e
    rw [ofRR_h]
    cases d with
    | true => exact (hd n ops t h r hn hr hk).1
    | false => exact seqE_mono hr
  | seq a b iha ihb =>
    intro hk t h ce e
    simp only [codeOk] at hk
    cases ha : codeOk ng a with
    | false => rw [ha] at hk; cases hk
    | true =>
      rw [ha] at hk
      simp only [codeE] at e
      split at e
      · rename_i t' h' h1
        exact Nat.le_trans (iha ha h1) (ihb hk e)
      · exact iha ha e
  | cond c a b iha ihb =>
    intro hk t h ce e
    simp only [codeOk] at hk
    cases hc : opdOk ng c with
    | false => rw [hc] at hk; cases hk
    | true =>
      rw [hc] at hk
      cases ha : codeOk ng a with
      | false => rw [ha] at hk; cases hk
      | true =>
        rw [ha] at hk
        simp only [codeE] at e
        split at e
        · exact iha ha e
        · exact ihb hk e
        · cases e
  | block id c ih =>
    intro hk t h ce e
    simp only [codeE] at e
    split at e
    · rename_i j t' h' h1
      have := ih hk h1
      cases hb : Nat.beq j id <;> rw [hb] at e <;> cases e <;> exact this
    · exact ih hk e
  | loop c ih =>
    intro hk t h ce e
    exact iter_mono (fun t h ce e => ih hk e) e
  | _ => intro _ t h ce e; cases e

theorem iter_rounds {c : Code} {body : T Value → Hp → Option CE} (hm : ∀ t h ce, body t h = some ce → h.c ≤ ce.h.c)
    (hb : ∀ ⦃μ : Mu⦄ ⦃F : FH⦄ ⦃h : Hp⦄ ⦃t : T Value⦄ ⦃a : Act⦄ ⦃w : World⦄ ⦃ce : CE⦄ ⦃Q : Exit → Act → World → Prop⦄, St ng n ds μ tok B0 w0 F h t a w → body t h = some ce → Fresh μ F h.c ce.h.c →
      (∀ e a' w', Out μ tok B0 w0 F n ds h ce e a' w' → Q e a' w') → c.wp P Q a w) :
    ∀ (k : Nat) ⦃μ : Mu⦄ ⦃F : FH⦄ ⦃h : Hp⦄ ⦃t : T Value⦄ ⦃a : Act⦄ ⦃w : World⦄ ⦃ce : CE⦄ ⦃Q : Exit → Act → World → Prop⦄, St ng n ds μ tok B0 w0 F h t a w → iter body k t h = some ce → Fresh μ F h.c ce.h.c →
      (∀ e a' w', Out μ tok B0 w0 F n ds h ce e a' w' → Q e a' w') → Code.rounds P c Q k a w
  | 0 => by intro μ F h t a w ce Q st e; cases e
  | k + 1 => by
    intro μ F h t a w ce Q st e f hq
    rw [rounds_succ]
    unfold iter at e
    split at e
    · rename_i t' h' h1
      have hle := hm _ _ _ h1
      have hle2 := iter_mono hm e
      refine hb st h1 (f.less hle2) ?_
      rintro ex a' w' ⟨μ', g, nd, rt, er⟩
      cases er
      exact iter_rounds hm hb k (st.next g nd rt) e (Fresh.later f g.ext g.step) fun e a' w' ho => hq _ _ _ (Out.back g ho)
    · rename_i hx
      refine hb st e f ?_
      rintro ex a' w' ho
      obtain ⟨μ', g, nd, rt, er⟩ := id ho
      have : ex ≠ .normal := by
        rintro rfl
        obtain ⟨ee, tt', hh⟩ := ce
        cases ee with
        | normal => exact hx _ _ e
        | exit id => cases er
        | ret => cases er
        | pan v => obtain ⟨_, er, _⟩ := er; cases er
      cases ex <;> first | exact absurd rfl this | exact hq _ _ _ ho

theorem codeE_wp (hT : TT P tt) {call : CallF} (hc : CallOK P ng call) {draw : Nat → List Oper → T Value → Hp → Option RR} (hd : DrawOK P ng draw) (hn : n ≤ 1000000) {K : Nat} : ∀ (c : Code), codeOk ng c = true →
    ∀ ⦃μ : Mu⦄ ⦃F : FH⦄ ⦃h : Hp⦄ ⦃t : T Value⦄ ⦃a : Act⦄ ⦃w : World⦄ ⦃ce : CE⦄ ⦃Q : Exit → Act → World → Prop⦄, St ng n ds μ tok B0 w0 F h t a w → codeE P tt call draw n K c t h = some ce → Fresh μ F h.c ce.h.c →
      (∀ e a' w', Out μ tok B0 w0 F n ds h ce e a' w' → Q e a' w') → c.wp P Q a w := by
  intro c
  induction c with
  | skip => intro _ μ F h t a w ce Q st e f hq; cases e; exact wp_skip (hq _ _ _ ⟨μ, Good.same st.ok st.sub st.hr, st.nd, st.tm, rfl⟩)
  | label l => intro _ μ F h t a w ce Q st e f hq; cases e; exact wp_label (hq _ _ _ ⟨μ, Good.same st.ok st.sub st.hr, st.nd, st.tm, rfl⟩)
  | exit id => intro _ μ F h t a w ce Q st e f hq; cases e; exact wp_exit (hq _ _ _ ⟨μ, Good.same st.ok st.sub st.hr, st.nd, st.tm, rfl⟩)
  | ret => intro _ μ F h t a w ce Q st e f hq; cases e; exact wp_ret (hq _ _ _ ⟨μ, Good.same st.ok st.sub st.hr, st.nd, st.tm, rfl⟩)
  | region id ops d =>
    intro hk μ F h t a w ce Q st e f hq
    obtain ⟨r, hr, rfl⟩ := ceOf_some e
    rw [ofRR_h] at f
    cases d with
    | true => exact (hd n ops t h r hn hr hk).2 ds tok B0 w0 μ F a w Q id st f hq
    | false =>
      refine wp_region ?_
      have := seqE_wp hT hc hn (ops := ops) ops.toList [] rfl hk st hr f hq
      simpa [List.range_eq_range'] using this
  | seq x y iha ihb =>
    intro hk μ F h t a w ce Q st e f hq
    have hk' := hk
    simp only [codeOk] at hk
    cases ha : codeOk ng x with
    | false => rw [ha] at hk; cases hk
    | true =>
      rw [ha] at hk
      simp only [codeE] at e
      refine wp_seq ?_
      split at e
      · rename_i t' h' h1
        have hle := codeE_mono hd hn x ha h1
        have hle2 := codeE_mono hd hn y hk e
        refine iha ha st h1 (f.less hle2) ?_
        rintro ex a' w' ⟨μ', g, nd, rt, er⟩
        cases er
        exact ihb hk (st.next g nd rt) e (Fresh.later f g.ext g.step) fun e a' w' ho => hq _ _ _ (Out.back g ho)
      · rename_i hx
        refine iha ha st e f ?_
        rintro ex a' w' ho
        obtain ⟨μ', g, nd, rt, er⟩ := id ho
        have : ex ≠ .normal := by
          rintro rfl
          obtain ⟨ee, tt', hh⟩ := ce
          cases ee with
          | normal => exact hx _ _ e
          | exit id => cases er
          | ret => cases er
          | pan v => obtain ⟨_, er, _⟩ := er; cases er
        cases ex <;> first | exact absurd rfl this | exact hq _ _ _ ho
  | cond c x y iha ihb =>
    intro hk μ F h t a w ce Q st e f hq
    simp only [codeOk] at hk
    cases hc' : opdOk ng c with
    | false => rw [hc'] at hk; cases hk
    | true =>
      rw [hc'] at hk
      cases ha : codeOk ng x with
      | false => rw [ha] at hk; cases hk
      | true =>
        rw [ha] at hk
        have hv := eval_rel st.gl st.tm hc'
        simp only [codeE] at e
        split at e
        · rename_i hx
          rw [hx] at hv
          have : a.eval c = .bool true := by generalize a.eval c = q at hv; cases hv; rfl
          exact wp_cond_true this (iha ha st e f hq)
        · rename_i hx
          rw [hx] at hv
          have : a.eval c = .bool false := by generalize a.eval c = q at hv; cases hv; rfl
          exact wp_cond_false this (ihb hk st e f hq)
        · cases e
  | block id c ih =>
    intro hk μ F h t a w ce Q st e f hq
    refine wp_block ?_
    simp only [codeE] at e
    split at e
    · rename_i j t' h' h1
      cases hb : Nat.beq j id with
      | true =>
        rw [hb] at e
        have hj := nbeq hb
        subst hj
        cases e
        refine ih hk st h1 f ?_
        rintro ex a' w' ⟨μ', g, nd, rt, er⟩
        cases er
        simp only [Exit.inBlock, if_true]
        exact hq _ _ _ ⟨μ', g, nd, rt, rfl⟩
      | false =>
        rw [hb] at e
        have hj := nbeq' hb
        cases e
        refine ih hk st h1 f ?_
        rintro ex a' w' ⟨μ', g, nd, rt, er⟩
        cases er
        simp only [Exit.inBlock, if_neg hj]
        exact hq _ _ _ ⟨μ', g, nd, rt, rfl⟩
    · rename_i hx
      refine ih hk st e f ?_
      rintro ex a2 w2 ho
      have ho2 := ho
      obtain ⟨μ', g, nd, rt, er⟩ := ho2
      cases ex with
      | exit j =>
        exfalso
        obtain ⟨ee, tt', hh⟩ := ce
        cases ee with
        | normal => cases er
        | exit id => exact hx _ _ _ e
        | ret => cases er
        | pan v => obtain ⟨_, er, _⟩ := er; cases er
      | _ => exact hq _ _ _ ho
  | loop c ih =>
    intro hk μ F h t a w ce Q st e f hq
    exact wp_loop_rounds K (iter_rounds (fun t h ce e => codeE_mono hd hn c hk e) (fun _ _ _ _ _ _ _ _ st e f hq => ih hk st e f hq) K st e f hq)
  | _ => intro _ μ F h t a w ce Q st e f hq; cases e

end
end Go.Ev
