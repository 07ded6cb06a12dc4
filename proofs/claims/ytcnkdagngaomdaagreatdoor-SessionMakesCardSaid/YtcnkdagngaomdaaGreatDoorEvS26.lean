/-
  SOUNDNESS, TWENTY-SIXTH PART: a function that defers one call and recovers in it.
-/
import Derived.Test.YtcnkdagngaomdaaGreatDoorEvS25
import Derived.Test.YtcnkdagngaomdaaGreatDoorEvP
import Derived.Recover
import Derived.Laws.Externs
namespace Go.Ev
open Go Go.RowKit

theorem condB {a b : Bool} (h : cond a b false = true) : a = true ∧ b = true := by cases a <;> simp_all

section
variable {P : Program} {tt : T TI} {call : CallF} {draw : Nat → List Oper → T Value → Hp → Option RR} {ng n K : Nat} {tok : Nat → Value} {B0 : Nat} {w0 : World}

/-- Operations that don't ask for the panic. -/
theorem wpOpsS_of {ops : Array Oper} {Q : Exit → Act → List Frame → World → Prop} {cs : List Frame} (hno : ∀ a w, ¬ Q .outgrown a cs w) : ∀ (l : List Nat) (a : Act) (w : World),
    wpOps P ops (fun e a w => Q e a cs w) l a w → wpOpsS P ops Q l a cs w
  | [], a, w, h => h
  | i :: rest, a, w, h => by
    have ih : ∀ a w, wpOps P ops (fun e a w => Q e a cs w) rest a w → wpOpsS P ops Q rest a cs w := wpOpsS_of hno rest
    simp only [wpOps, wpOpsS] at h ⊢
    split
    · rename_i ho
      simp only [ho] at h
      exact ih a w h
    · rename_i o ho
      simp only [ho] at h
      split
      · rename_i hw
        simp only [hw, if_true] at h
        rcases h with h | ⟨_, a', w', h⟩
        · unfold Oper.wp at h
          have key : ∀ r, o.upon P a (wpOps P ops (fun e a w => Q e a cs w) rest) (fun e a w => Q e a cs w) r →
              (match r with
                | .ok .recover w' => (match recoverD cs with
                  | some (v, cs') => wpOpsS P ops Q rest (a.put o.dst v) cs' w'
                  | none => wpOpsS P ops Q rest (a.put o.dst .nilIface) cs w')
                | r => o.upon P a (fun a' w' => wpOpsS P ops Q rest a' cs w') (fun e a' w' => Q e a' cs w') r) := by
            intro r h
            cases r with
            | ok nx w' =>
              cases nx <;> simp only [Oper.upon] at h ⊢
              case value => exact ih _ _ h
              case skip => exact ih _ _ h
              case defer => exact ih _ _ h
              case enter f args => exact h.mono fun e w'' he => by cases e <;> first | exact ih _ _ he | exact he
              case row row args => exact h.mono fun v w'' he => ih _ _ he
            | halt x w' => cases x <;> simp only [Oper.upon] at h ⊢ <;> exact h
          exact key _ h
        · exact absurd h (hno a' w')
      · rename_i hw
        simp only [hw] at h
        exact ih _ _ h

theorem recover_run {ρ : Operand → Value} {o : Oper} {ts : Array TypeId} {w : World} (ho : o.op = .call ⟨.builtin .recover, ⟨[]⟩, ts⟩) : (execOp ρ o).run P w = .ok .recover w := by
  obtain ⟨dst, op, type, pos, after, guard⟩ := o
  subst ho
  rfl

/-- What asks for the panic, behind its answer. -/
theorem recE_wp (hT : TT P tt) (hc : CallOK P ng call) (hd : DrawOK P ng draw) (hn : n ≤ 1000000) {c : Code} (hk : codeOk ng c = true) {rv : Value} {t : T Value} {h : Hp} {ce : CE} (e : recE P tt call draw K n c rv t h = some ce)
    {μ : Mu} {F : FH} {a : Act} {w : World} (st : St ng n [] μ tok B0 w0 F h t a w) (f : Fresh μ F h.c ce.h.c) {cs cs' : List Frame} {rv' : Value} (hrv : RV μ tok rv rv')
    (hrec : (recoverD cs = some (rv', cs')) ∨ (recoverD cs = none ∧ rv' = .nilIface ∧ cs' = cs)) {Q : Exit → Act → List Frame → World → Prop} (hno : ∀ a w, ¬ Q .outgrown a cs' w)
    (hq : ∀ e a' w', Out μ tok B0 w0 F n [] h ce e a' w' → Q e a' cs' w') : c.wpS P Q a cs w := by
  unfold recE at e
  split at e
  · rename_i id ops rest
    obtain ⟨hk1, hk2⟩ := condB hk
    split at e
    · rename_i o0 r hops
      split at e
      · rename_i ts ho hg
        split at e
        · rename_i t1 hput
          split at e
          · rename_i t2 h2 hseq
            have hk1' : allB (opOk ng) (o0 :: r) = true := by
              have : allB (opOk ng) ops.toList = true := hk1
              rwa [hops] at this
            have hr : allB (opOk ng) r = true := by
              simp only [allB] at hk1'
              cases h1 : opOk ng o0 with
              | true => rw [h1] at hk1'; exact hk1'
              | false => rw [h1] at hk1'; cases hk1'
            have hle := seqE_mono hseq
            have hle2 := codeE_mono hd hn rest hk2 e
            refine wpS_seq (wpS_region ?_)
            have hsz : ops.size = r.length + 1 := by
              have : ops.toList.length = r.length + 1 := by rw [hops]; rfl
              simpa using this
            have hi : ops[0]? = some o0 := by rw [← Array.getElem?_toList, hops]; rfl
            rw [hsz, List.range_eq_range', List.range'_succ]
            simp only [wpOpsS, hi]
            have hwant : Region.wanted o0 (yielded ops a.tmps) = true := by unfold Region.wanted; rw [hg]
            simp only [hwant, if_true, recover_run ho]
            have rt' : TmR μ tok n t1 (a.put o0.dst rv').tmps := st.tm.put hn hput hrv
            have st' : St ng n [] μ tok B0 w0 F h t1 (a.put o0.dst rv') w := ⟨st.ok, st.sub, st.hr, st.gl, rt', by rw [put_defers]; exact st.nd⟩
            have main : wpOpsS P ops (Exit.thenS (rest.wpS P Q) Q) (List.range' (0 + 1) r.length) (a.put o0.dst rv') cs' w := by
              refine wpOpsS_of (Q := Exit.thenS (rest.wpS P Q) Q) (fun a w h => hno a w h) _ _ _ ?_
              have hseq' : seqE P tt call n ops.toList r t1 h = some (.ok t2 h2) := by rw [hops]; exact hseq
              refine seqE_wp hT hc hn r [o0] (by rw [hops]; rfl) hr st' hseq' (f.less hle2) ?_
              rintro ex a' w' ⟨μ', g, nd, rt, er⟩
              cases er
              refine wpS_of_wp (codeE_wp hT hc hd hn rest hk2 (st'.next g nd rt) e (Fresh.later f g.ext g.step) ?_)
              intro ex a2 w2 ho2
              exact hq _ _ _ (Out.back g ho2)
            rcases hrec with hrec | ⟨hrec, rfl, rfl⟩
            · rw [hrec]; exact main
            · rw [hrec]; exact main
          · cases e
        · cases e
      · cases e
    · cases e
  · cases e

theorem doneE_spec {fn : Func} {t : T Value} {h : Hp} {out : CR} (e : doneE tt fn t h = some out) : ∃ v, out = .ret v h := by
  unfold doneE at e
  split at e
  · cases e; exact ⟨_, rfl⟩
  · cases e

/-- The modes in which a deferred call may be made here, and what it is told. -/
def Mode (μ : Mu) (tok : Nat → Value) (rv : Value) (u : FrameMode) : Prop :=
  (u = .returning ∧ rv = .nilIface) ∨ ∃ v', u = .panicking [{ v := v', recovered := false }] ∧ RV μ tok rv v'

def Settled (u : FrameMode) : Prop := settle u = .returning

theorem deferredE_ok (hT : TT P tt) (hc : CallOK P ng call) (hd : DrawOK P ng draw) {g : Nat} {gn : Func} (hf : P.funcs[g]? = some gn) (hk : fnOk ng gn = true) {as : List Value} {rv : Value} {h h2 : Hp} (e : deferredE P tt call draw K gn as rv h = some h2)
    {μ : Mu} {F : FH} {w : World} {as' : List Value} (ok : HpOk h) (s : Sub h F) (r : HR μ tok B0 w0 F w) (gl : GL ng μ) (f : Fresh μ F h.c h2.c) (ra : RL μ tok as as') {u : FrameMode} (hu : Mode μ tok rv u) :
    CallsD P g as'.toArray u w fun e u' w' => (∃ v, e = .returned v) ∧ settle u' = .returning ∧ ∃ μ', Good μ tok B0 w0 F h h2 μ' w' := by
  unfold deferredE at e
  split at e
  · cases e
  · rename_i c hb
    obtain ⟨hlen, e⟩ := cond_some e
    have hlen := nble hlen
    rw [len_eq] at hlen
    obtain ⟨hco, hn, hname⟩ := fnOk_spec hb hk
    refine callsD_of_wpS hf hb ?_
    intro c₀ cs hm
    have st : St ng gn.ntmps [] μ tok B0 w0 F h (args0 as 0 .e) { tmps := as'.toArray ++ Array.replicate (gn.ntmps - as'.toArray.size) undef, defers := [] } w := ⟨ok, s, r, gl, enter_rel hlen hn ra, rfl⟩
    obtain ⟨u', rv', hrec, hrv, hset⟩ : ∃ u' rv', ((recoverD (c₀ :: cs) = some (rv', { c₀ with mode := u' } :: cs)) ∨ (recoverD (c₀ :: cs) = none ∧ rv' = .nilIface ∧ { c₀ with mode := u' } :: cs = c₀ :: cs)) ∧ RV μ tok rv rv' ∧ settle u' = .returning := by
      rcases hu with ⟨rfl, rfl⟩ | ⟨v', rfl, rv⟩
      · refine ⟨.returning, .nilIface, .inr ⟨?_, rfl, ?_⟩, .nilIface, rfl⟩
        · simp only [recoverD, hm]
        · rw [← hm]
      · refine ⟨.panicking [{ v := v', recovered := true }], v', .inl ?_, rv, rfl⟩
        simp only [recoverD, hm]
    have fin : ∀ {t : T Value} {h' : Hp} {x : CE}, recE P tt call draw K gn.ntmps c rv (args0 as 0 .e) h = some x → x.t = t → x.h = h' → (x.e = .normal ∨ x.e = .ret) → (match doneE tt gn t h' with | some _ => some h' | none => none) = some h2 →
        c.wpS P (bodyPostS P gn c₀ cs fun e u' w' => (∃ v, e = .returned v) ∧ settle u' = .returning ∧ ∃ μ', Good μ tok B0 w0 F h h2 μ' w') { tmps := as'.toArray ++ Array.replicate (gn.ntmps - as'.toArray.size) undef, defers := [] } (c₀ :: cs) w := by
      intro t h' x hx ht hh hxe hdone
      subst ht hh
      split at hdone
      · rename_i out hdn
        cases hdone
        refine recE_wp hT hc hd hn hco hx st f hrv hrec (by rintro a w ⟨u2, h3, _⟩; obtain ⟨v, h3⟩ := h3; cases h3) ?_
        rintro ex a' w' ⟨μ', gd, nd, rt, er⟩
        obtain ⟨v, v', rfl, hrun, rv⟩ := doneE_run hT (ovr_sub F x.h) gd.hr rt hdn
        rcases hxe with hxe | hxe
        · rw [hxe] at er
          cases er
          exact ⟨nd, u', rfl, v', hrun, ⟨v', rfl⟩, hset, μ', gd⟩
        · rw [hxe] at er
          cases er
          exact ⟨nd, u', rfl, v', hrun, ⟨v', rfl⟩, hset, μ', gd⟩
      · cases hdone
    split at e
    · rename_i t h' hx
      exact fin hx rfl rfl (.inl rfl) e
    · rename_i t h' hx
      exact fin hx rfl rfl (.inr rfl) e
    · cases e

/-- The way out of a function that has deferred one call. -/
theorem leaveE_ok (hT : TT P tt) (hc : CallOK P ng call) (hd : DrawOK P ng draw) {ft : T Func} (hF : ∀ k fn, ft.get k = some fn → P.funcs[k]? = some fn ∧ fnOk ng fn = true) {fn : Func} {g : Nat} {as : List Value} {rv : Value} {t : T Value} {h : Hp} {out : CR}
    (e : leaveE P tt call draw K ft fn g as rv t h = some out) {μ0 μ : Mu} {F0 F : FH} {h0 : Hp} {w : World} (g0 : Good μ0 tok B0 w0 F0 h0 h μ w) (hF0 : F = ovr F0 h) (gl : GL ng μ) (f : Fresh μ F h.c out.h.c) {a : Act} (rt : TmR μ tok n t a.tmps) {fs cs : List Value}
    (ra : RL μ tok as (fs ++ cs)) {u : FrameMode} (hu : Mode μ tok rv u) : Leaves P fn a.tmps (fun e w' => ∃ μ', Good μ0 tok B0 w0 F0 h0 out.h μ' w' ∧ EndR μ' tok out e) [{ target := .fn (.func g) ⟨cs⟩, args := ⟨fs⟩ }] u w := by
  unfold leaveE at e
  split at e
  · cases e
  · rename_i gn hgn
    obtain ⟨hf, hk⟩ := hF g gn hgn
    split at e
    · rename_i h2 hde
      obtain ⟨hle, e⟩ := cond_some e
      obtain ⟨v, hout⟩ := doneE_spec e
      have hoh : out.h = h2 := by rw [hout]; rfl
      rw [hoh] at f
      have hgd : ∀ {b : Code}, gn.body = some b → (gn.name == "runtime.NumGoroutine") = false := fun hb => (fnOk_spec hb hk).2.2
      have hbody : ∃ b, gn.body = some b := by
        unfold deferredE at hde
        split at hde
        · cases hde
        · rename_i b hb; exact ⟨b, hb⟩
      obtain ⟨b, hb⟩ := hbody
      refine ⟨?_, .func g, ⟨cs⟩, g, (fs ++ cs).toArray, rfl, ?_, ?_⟩
      · rcases hu with ⟨rfl, _⟩ | ⟨v', rfl, _⟩ <;> simp
      · have := callFunc_run hf (by rw [hb]; rfl) (hgd hb) ((⟨fs⟩ : Array Value) ++ (⟨cs⟩ : Array Value)) w
        have h3 : (⟨fs⟩ : Array Value) ++ (⟨cs⟩ : Array Value) = (fs ++ cs).toArray := by apply Array.ext'; simp
        rw [h3] at this
        show (callFunc g ((⟨fs⟩ : Array Value) ++ (⟨cs⟩ : Array Value))).run P w = _
        rw [h3]
        exact this
      · subst hF0
        refine (deferredE_ok hT hc hd hf hk hde g0.step.ok (ovr_sub F0 h) g0.hr gl f ra hu).mono ?_
        rintro e1 u' w' ⟨⟨v1, rfl⟩, hset, μ', gd⟩
        simp only [hset]
        obtain ⟨v2, v2', hout2, hrun, rv2⟩ := doneE_run hT (ovr_sub (ovr F0 h) h2) gd.hr (rt.mono gd.ext.1) e
        refine ⟨v2', hrun, μ', ?_, ?_⟩
        · rw [hoh]; exact g0.trans gd
        · rw [hout2]; exact ⟨v2', rfl, rv2⟩
    · cases e

theorem leaveE_h {ft : T Func} {fn : Func} {g : Nat} {as : List Value} {rv : Value} {t : T Value} {h : Hp} {out : CR} (e : leaveE P tt call draw K ft fn g as rv t h = some out) : h.c ≤ out.h.c := by
  unfold leaveE at e
  split at e
  · cases e
  · split at e
    · obtain ⟨hle, e⟩ := cond_some e
      obtain ⟨v, hout⟩ := doneE_spec e
      rw [hout]; exact nble hle
    · cases e

theorem catchE_ok (hT : TT P tt) (hc : CallOK P ng call) (hd : DrawOK P ng draw) {ft : T Func} (hF : ∀ k fn, ft.get k = some fn → P.funcs[k]? = some fn ∧ fnOk ng fn = true) {k : Nat} {fn : Func} (hf : P.funcs[k]? = some fn) (hk : fnOk ng fn = true) :
    CallAt P ng k (catchE P tt call draw K ft fn) := by
  intro as h out e hle0
  unfold catchE at e
  split at e
  · rename_i c0 id ops rest hb
    obtain ⟨hco, hn, hname⟩ := fnOk_spec hb hk
    obtain ⟨hk0, hk'⟩ := condB hco
    obtain ⟨hk1, hk2⟩ := condB hk'
    split at e
    · rename_i m d hops
      split at e
      · rename_i f ts hmg hdg hdo
        obtain ⟨hlen, e⟩ := cond_some e
        have hlen := nble hlen
        rw [len_eq] at hlen
        split at e
        · rename_i t0 h0 hc0
          split at e
          · rename_i fv h1 hm
            split at e
            · rename_i t1 hput1
              split at e
              · rename_i g fa ca hfv
                split at e
                · rename_i t2 hput2
                  obtain ⟨hle1, e⟩ := cond_some e
                  have hle1 := nble hle1
                  have hkk : opOk ng m = true ∧ opOk ng d = true := by
                    have : allB (opOk ng) ops.toList = true := hk1
                    rw [hops] at this
                    obtain ⟨x, y⟩ := condB this
                    exact ⟨x, (condB y).1⟩
                  have hlec := codeE_mono hd hn c0 hk0 hc0
                  have hrest : ∃ ce, codeE P tt call draw fn.ntmps K rest t2 h1 = some ce ∧ ce.h.c ≤ out.h.c ∧
                      ((ce.e = .normal ∧ leaveE P tt call draw K ft fn g (fa ++ ca) .nilIface ce.t ce.h = some out) ∨ (ce.e = .ret ∧ leaveE P tt call draw K ft fn g (fa ++ ca) .nilIface ce.t ce.h = some out) ∨
                        ∃ v, ce.e = .pan v ∧ leaveE P tt call draw K ft fn g (fa ++ ca) v ce.t ce.h = some out) := by
                    split at e
                    · rename_i t h2 hr; exact ⟨_, hr, leaveE_h e, .inl ⟨rfl, e⟩⟩
                    · rename_i t h2 hr; exact ⟨_, hr, leaveE_h e, .inr (.inl ⟨rfl, e⟩)⟩
                    · rename_i v t h2 hr; exact ⟨_, hr, leaveE_h e, .inr (.inr ⟨v, rfl, e⟩)⟩
                    · cases e
                  obtain ⟨ce, hr, hle2, hcase⟩ := hrest
                  have hle3 := codeE_mono hd hn rest hk2 hr
                  intro μ tok B0 w0 F w as' ok s r gl fr ra
                  refine .inl ⟨callFunc_run hf (by rw [hb]; rfl) hname _ _, ?_⟩
                  refine calls_of_wp_defers hf hb ?_
                  have st : St ng fn.ntmps [] μ tok B0 w0 F h (args0 as 0 .e) { tmps := as'.toArray ++ Array.replicate (fn.ntmps - as'.toArray.size) undef, defers := [] } w := ⟨ok, s, r, gl, enter_rel hlen hn ra, rfl⟩
                  refine wp_seq (codeE_wp hT hc hd hn c0 hk0 st hc0 (fr.less (by show h0.c ≤ _; omega)) ?_)
                  rintro ex a1 w1 ⟨μ1, g1, nd1, rt1, er1⟩
                  cases er1
                  have fr1 : Fresh μ1 (ovr F h0) h0.c out.h.c := Fresh.later fr g1.ext g1.step
                  have st1 := st.next g1 nd1 rt1
                  refine wp_seq (wp_region ?_)
                  have hsz : ops.size = 2 := by
                    have : ops.toList.length = 2 := by rw [hops]; rfl
                    simpa using this
                  have hi0 : ops[0]? = some m := by rw [← Array.getElem?_toList, hops]; rfl
                  have hi1 : ops[1]? = some d := by rw [← Array.getElem?_toList, hops]; rfl
                  rw [hsz]
                  show wpOps P ops _ [0, 1] a1 w1
                  simp only [wpOps, hi0, hi1]
                  have hw0 : Region.wanted m (yielded ops a1.tmps) = true := by unfold Region.wanted; rw [hmg]
                  simp only [hw0, if_true]
                  left
                  refine opE_wp hT hc st1.ok st1.sub st1.hr st1.gl (fun x hx => eval_rel st1.gl st1.tm (allB_spec hkk.1 x (by simpa using hx))) hm hle1 (fr1.less (by show h1.c ≤ _; omega)) ?_ ?_
                  · intro v2 h2' he μ2 v' w2 g2 rv2
                    cases he
                    have rt2 : TmR μ2 tok fn.ntmps t1 (a1.put m.dst v').tmps := (st1.tm.mono g2.ext.1).put hn hput1 rv2
                    have hw1 : Region.wanted d (yielded ops (a1.put m.dst v').tmps) = true := by unfold Region.wanted; rw [hdg]
                    simp only [hw1, if_true]
                    left
                    have gl2 := st1.gl.mono g2.ext.1
                    have hfr : RV μ2 tok (aval t1 f) ((a1.put m.dst v').eval f) := eval_rel gl2 rt2 (allB_spec hkk.2 f (by rw [hdo]; simp [Op.operands, Call.operands]))
                    rw [hfv] at hfr
                    obtain ⟨fa', ca', hev, hfa, hca⟩ : ∃ fa' ca', (a1.put m.dst v').eval f = .func (.func g) ⟨fa'⟩ ⟨ca'⟩ ∧ RL μ2 tok fa fa' ∧ RL μ2 tok ca ca' := by
                      generalize (a1.put m.dst v').eval f = q at hfr
                      cases hfr with
                      | func _ x y => exact ⟨_, _, rfl, x, y⟩
                    have hdrun : (execOp (a1.put m.dst v').eval d).run P w2 = .ok (.defer { target := .fn (.func g) ⟨ca'⟩, args := ⟨fa'⟩ }) w2 := by
                      obtain ⟨dst, op, type, pos, after, guard⟩ := d
                      simp only at hdo
                      subst hdo
                      simp only [execOp, resolve, Deferred.ofValue, hev, Sem.run_bind, Sem.run_pure, then_ok]
                      congr 3
                      apply Array.ext'; simp
                    unfold Oper.wp
                    rw [hdrun, Oper.upon_defer]
                    simp only [Exit.then]
                    have rt3 : TmR μ2 tok fn.ntmps t2 (({ (a1.put m.dst v') with defers := { target := .fn (.func g) ⟨ca'⟩, args := ⟨fa'⟩ } :: (a1.put m.dst v').defers } : Act).put d.dst undef).tmps := TmR.put hn (a := { (a1.put m.dst v') with defers := { target := .fn (.func g) ⟨ca'⟩, args := ⟨fa'⟩ } :: (a1.put m.dst v').defers }) hput2 rt2 rv_undef
                    have g12 := g1.trans g2
                    have st3 : St ng fn.ntmps [{ target := .fn (.func g) ⟨ca'⟩, args := ⟨fa'⟩ }] μ2 tok B0 w0 (ovr F h1) h1 t2 (({ (a1.put m.dst v') with defers := { target := .fn (.func g) ⟨ca'⟩, args := ⟨fa'⟩ } :: (a1.put m.dst v').defers } : Act).put d.dst undef) w2 :=
                      ⟨g12.step.ok, ovr_sub F h1, g12.hr, gl2, rt3, by rw [put_defers]; show _ :: (a1.put m.dst v').defers = _; rw [put_defers, nd1]⟩
                    have fr3 : Fresh μ2 (ovr F h1) h1.c out.h.c := Fresh.later fr g12.ext g12.step
                    refine codeE_wp hT hc hd hn rest hk2 st3 hr (fr3.less hle2) ?_
                    rintro ex a4 w4 ⟨μ4, g4, nd4, rt4, er4⟩
                    have g14 := g12.trans g4
                    have fr4 : Fresh μ4 (ovr F ce.h) ce.h.c out.h.c := Fresh.later fr g14.ext g14.step
                    have gl4 := gl2.mono g4.ext.1
                    have hral : RL μ4 tok (fa ++ ca) (fa' ++ ca') := (hfa.append hca).mono g4.ext.1
                    rcases hcase with ⟨hce, hl⟩ | ⟨hce, hl⟩ | ⟨v, hce, hl⟩
                    · rw [hce] at er4
                      cases er4
                      show Leaves P fn a4.tmps _ a4.defers .returning w4
                      rw [nd4]
                      exact leaveE_ok hT hc hd hF hl g14 rfl gl4 fr4 rt4 hral (.inl ⟨rfl, rfl⟩)
                    · rw [hce] at er4
                      cases er4
                      show Leaves P fn a4.tmps _ a4.defers .returning w4
                      rw [nd4]
                      exact leaveE_ok hT hc hd hF hl g14 rfl gl4 fr4 rt4 hral (.inl ⟨rfl, rfl⟩)
                    · rw [hce] at er4
                      obtain ⟨v4, rfl, rv4⟩ := er4
                      show Leaves P fn a4.tmps _ a4.defers (.panicking _) w4
                      rw [nd4]
                      exact leaveE_ok hT hc hd hF hl g14 rfl gl4 fr4 rt4 hral (.inr ⟨v4, rfl, rv4⟩)
                  · intro v2 h2' he
                    cases he
                · cases e
              · cases e
            · cases e
          · cases e
        · cases e
      · cases e
    · cases e
  · cases e

/-- maps.clone. -/
theorem xClone_ok {k : Nat} {fn : Func} (hf : P.funcs[k]? = some fn) (hname : (fn.name == "runtime.NumGoroutine") = false) (hb : fn.body.isNone = true) (hn : Extern.findNext fn = none) (he : Extern.find fn = some Extern.MapsClone.clone) :
    CallAt P ng k (xClone call) := by
  intro as h out e hle μ tok B0 w0 F w as' ok s r gl f ra
  unfold xClone at e
  split at e
  · rename_i t b
    split at e
    · rename_i es c hg
      split at e
      · rename_i id h' hnew
        cases e
        obtain ⟨i, o, hi, ho, hbr⟩ := r.blk b _ (s b _ hg) (by simp)
        obtain ⟨_, es', rfl, re⟩ := hbr
        have hv : as'.toArray = #[.iface t (.map (some i.cb))] := by
          cases ra with
          | cons x y =>
            cases y
            cases x with
            | iface _ z =>
              cases z with
              | map hi2 => rw [hi] at hi2; cases hi2; rfl
        obtain ⟨hid, hc, _⟩ := Hp.new_spec ok hnew
        have hfr := f id (by omega) (by show id < h'.c; omega)
        have g := Good.new ok s r hnew f (i := ⟨w.heap.size, 0, 0, 0⟩) (o := .map ⟨es'⟩ c) rfl ⟨Nat.le_trans r.b0 r.below.size, es', rfl, re.mono (Mu.le_upd _ hfr.1)⟩
        right
        refine ⟨.iface t (.map (some w.heap.size)), w.alloc (.map ⟨es'⟩ c), ?_, _, g, _, rfl, ?_⟩
        · rw [hv, run_callFunc_extern hf hname hb hn he]
          have e2 : Extern.MapsClone.clone #[.iface t (.map (some i.cb))] = (getObj i.cb >>= fun o => match o with
            | .map entries clock => (newObj (.map entries clock) >>= fun n => pure (.iface t (.map (some n))))
            | _ => stuck "maps.clone: a map expected") := rfl
          have hg2 : (getObj i.cb).run P w = .ok (.map ⟨es'⟩ c) w := by simp only [getObj, Sem.run, ho]
          have hn2 : (newObj (.map ⟨es'⟩ c)).run P w = .ok w.heap.size (w.alloc (.map ⟨es'⟩ c)) := by simp only [newObj, Sem.run]; rfl
          rw [e2]
          simp only [Sem.run_bind, hg2, then_ok, hn2, Sem.run_pure]
        · exact .iface t (.map (Mu.upd_same _ _ _))
      · cases e
    · cases e
  · cases e

end
end Go.Ev
