/-
  SOUNDNESS, SEVENTEENTH PART: one operation that is no call.
-/
import Derived.Test.YtcnkdagngaomdaaGreatDoorEvS16
namespace Go.Ev
open Go Go.RowKit

section
variable {P : Program} {tt : T TI} {w : World}
variable {μ : Mu} {tok : Nat → Value} {B0 : Nat} {w0 : World} {F : FH} {h h' : Hp}

/-- What is left to show of an operation's run. -/
def OpRun (P : Program) (μ : Mu) (tok : Nat → Value) (B0 : Nat) (w0 : World) (F : FH) (h h' : Hp) (w : World) (sem : Sem Next) (v : Value) : Prop :=
  ∃ μ' v' w', (sem.run P w = .ok (.value v') w' ∨ (sem.run P w = .ok .skip w' ∧ v' = undef)) ∧ RV μ' tok v v' ∧ Good μ tok B0 w0 F h h' μ' w'

theorem OpRun.value {sem : Sem Value} {v : Value} (h1 : ∃ μ' v' w', sem.run P w = .ok v' w' ∧ RV μ' tok v v' ∧ Good μ tok B0 w0 F h h' μ' w') :
    OpRun P μ tok B0 w0 F h h' w (do pure (.value (← sem))) v := by
  obtain ⟨μ', v', w', hr, rv, g⟩ := h1
  exact ⟨μ', v', w', .inl (by simp only [Sem.run_bind, hr, then_ok, Sem.run_pure]), rv, g⟩

theorem OpRun.same (ok : HpOk h) (s : Sub h F) (r : HR μ tok B0 w0 F w) {sem : Sem Value} {v : Value} (h1 : ∃ v', sem.run P w = .ok v' w ∧ RV μ tok v v' ∧ h' = h) :
    OpRun P μ tok B0 w0 F h h' w (do pure (.value (← sem))) v := by
  obtain ⟨v', hr, rv, rfl⟩ := h1
  exact .value ⟨μ, v', w, hr, rv, Good.same ok s r⟩

theorem pureNext_run (ok : HpOk h) (s : Sub h F) (r : HR μ tok B0 w0 F w) {sem : Sem Next} {v : Value} (e : pureNext P h sem = some (.val v h')) : OpRun P μ tok B0 w0 F h h' w sem v := by
  unfold pureNext at e
  split at e
  · rename_i u hu
    obtain ⟨hf, e⟩ := cond_some e
    cases e
    exact ⟨μ, v, w, .inl (pureRun_run hu w), .ofFlat hf, Good.same ok s r⟩
  · cases e

theorem RL.map (ρ ρ' : Operand → Value) : ∀ (l : List Operand), (∀ x ∈ l, RV μ tok (ρ x) (ρ' x)) → RL μ tok (l.map ρ) (l.map ρ')
  | [], _ => .nil
  | x :: l, h => .cons (h x (by simp)) (RL.map ρ ρ' l fun y hy => h y (by simp [hy]))

theorem RO.map (ρ ρ' : Operand → Value) (x : Option Operand) (h : ∀ y, x = some y → RV μ tok (ρ y) (ρ' y)) : RO μ tok (x.map ρ) (x.map ρ') := by
  cases x with
  | none => trivial
  | some y => exact h y rfl

theorem ret_spec {x : Option Value} {v : Value} (e : ret h x = some (.val v h')) : x = some v ∧ h' = h := by
  unfold ret at e
  split at e
  · cases e; exact ⟨rfl, rfl⟩
  · cases e

theorem aBuiltin_run (hT : TT P tt) (ok : HpOk h) (s : Sub h F) (r : HR μ tok B0 w0 F w) {b : Builtin} {ts : Array TypeId} {ty : TypeId} {consts : Array Bool} {as as' : List Value} {v : Value} (e : aBuiltin P tt h b ts.toList ty as = some (.val v h')) (f : Fresh μ F h.c h'.c)
    (ra : RL μ tok as as') : OpRun P μ tok B0 w0 F h h' w (builtin b ts ty consts as'.toArray) v := by
  have one : ∀ {x : Value}, as = [x] → ∃ x', as' = [x'] ∧ RV μ tok x x' := by
    intro x hx; subst hx
    cases ra with | cons u w => cases w; exact ⟨_, rfl, u⟩
  have two : ∀ {x y : Value}, as = [x, y] → ∃ x' y', as' = [x', y'] ∧ RV μ tok x x' ∧ RV μ tok y y' := by
    intro x y hx; subst hx
    cases ra with | cons u w => cases w with | cons u2 w2 => cases w2; exact ⟨_, _, rfl, u, u2⟩
  unfold aBuiltin at e
  split at e
  · have : ∃ x, as = [x] := by
      unfold aLen at e
      split at e
      · exact ⟨_, rfl⟩
      · cases e
    obtain ⟨x, rfl⟩ := this
    obtain ⟨x', rfl, rx⟩ := one rfl
    exact OpRun.same ok s r (aLen_run hT s r e rx)
  · have : ∃ x, as = [x] := by
      unfold aCap at e
      split at e
      · exact ⟨_, rfl⟩
      · cases e
    obtain ⟨x, rfl⟩ := this
    obtain ⟨x', rfl, rx⟩ := one rfl
    exact OpRun.same ok s r (aCap_run hT e rx)
  · have : ∃ x y, as = [x, y] := by
      unfold aAppend at e
      split at e
      · exact ⟨_, _, rfl⟩
      · cases e
    obtain ⟨x, y, rfl⟩ := this
    obtain ⟨x', y', rfl, rx, ry⟩ := two rfl
    exact OpRun.value (aAppend_run hT ok s r e f rx ry)
  · have : ∃ x y, as = [x, y] := by
      unfold aCopy at e
      split at e
      · exact ⟨_, _, rfl⟩
      · cases e
    obtain ⟨x, y, rfl⟩ := this
    obtain ⟨x', y', rfl, rx, ry⟩ := two rfl
    exact OpRun.value (aCopy_run hT ok s r e rx ry)
  · have : ∃ x y, as = [x, y] := by
      unfold aDelete at e
      split at e
      · exact ⟨_, _, rfl⟩
      · cases e
    obtain ⟨x, y, rfl⟩ := this
    obtain ⟨x', y', rfl, rx, ry⟩ := two rfl
    obtain ⟨w', hw, rfl, g⟩ := aDelete_run (ty := ty) hT ok s r e rx ry
    exact OpRun.value ⟨μ, _, w', hw, .tuple .nil, g⟩
  · obtain ⟨hf, e⟩ := cond_some e
    have : as' = as := ra.flat1 hf
    subst this
    exact pureNext_run ok s r e
  · obtain ⟨hf, e⟩ := cond_some e
    have : as' = as := ra.flat1 hf
    subst this
    exact pureNext_run ok s r e
  · cases e

theorem tkOf_iface {d : TypeDesc} {ti : TI} (hk : tkOf d = ti.k) (hn : ∀ (a b : Nat) (c : Option Value), ti = ⟨.iface, a, b, c⟩ → False) : ∀ ms, d ≠ .interface ms := by
  rintro ms rfl
  obtain ⟨k, a, b, c⟩ := ti
  have : k = .iface := hk.symm
  subst this
  exact hn a b c rfl

theorem aAssert_run (hT : TT P tt) {x x' v : Value} {xt t : TypeId} {okk : Bool} (e : aAssert tt h x t okk = some (.val v h')) (rx : RV μ tok x x') (w : World) : ∃ v', (Instr.typeAssert x' xt t okk).run P w = .ok v' w ∧ RV μ tok v v' ∧ h' = h := by
  unfold aAssert at e
  split at e
  · cases e
  · rename_i ti u v0 hnot hti
    obtain ⟨d, hk, _, hd⟩ := r_under (hT _ _ hti)
    have hni := tkOf_iface hk (fun a b c hh => hnot a b c hh)
    cases rx with
    | @iface _ _ v0' rv =>
      cases hu : Nat.beq u t with
      | true =>
        rw [hu, cond_true] at e
        cases e
        have := nbeq hu
        subst this
        refine ⟨if okk then .tuple #[v0', .bool true] else v0', ?_, ?_, rfl⟩
        · unfold Instr.typeAssert
          simp only [Sem.run_bind, hd, then_ok]
          cases d with
          | interface ms => exact absurd rfl (hni ms)
          | _ => simp only [if_true, Sem.run_pure]
        · cases okk with
          | true => exact .tuple (.cons rv (.cons (.bool true) .nil))
          | false => exact rv
      | false =>
        rw [hu, cond_false] at e
        obtain ⟨hokk, e1⟩ := cond_some e
        clear e
        subst hokk
        split at e1
        · rename_i z hz
          obtain ⟨hfz, e2⟩ := cond_some e1
          clear e1
          cases e2
          refine ⟨.tuple #[z, .bool false], ?_, .tuple (.cons (.ofFlat hfz) (.cons (.bool false) .nil)), rfl⟩
          have hne : ¬ u = t := nbeq' hu
          unfold Instr.typeAssert
          simp only [Sem.run_bind, hd, then_ok]
          cases d with
          | interface ms => exact absurd rfl (hni ms)
          | _ => simp only [if_neg hne, if_true, Sem.run_bind, r_zero (hT _ _ hti) hz, then_ok, Sem.run_pure]
        · cases e1
  · rename_i ti hnot hti
    obtain ⟨d, hk, _, hd⟩ := r_under (hT _ _ hti)
    have hni := tkOf_iface hk (fun a b c hh => hnot a b c hh)
    obtain ⟨hokk, e1⟩ := cond_some e
    clear e
    subst hokk
    split at e1
    · rename_i z hz
      obtain ⟨hfz, e2⟩ := cond_some e1
      clear e1
      cases e2
      cases rx
      refine ⟨.tuple #[z, .bool false], ?_, .tuple (.cons (.ofFlat hfz) (.cons (.bool false) .nil)), rfl⟩
      unfold Instr.typeAssert
      simp only [Sem.run_bind, hd, then_ok]
      cases d with
      | interface ms => exact absurd rfl (hni ms)
      | _ => simp only [if_true, Sem.run_bind, r_zero (hT _ _ hti) hz, then_ok, Sem.run_pure]
    · cases e1
  · cases e

theorem makeMap_run (hT : TT P tt) (ok : HpOk h) (s : Sub h F) (r : HR μ tok B0 w0 F w) {t kt et a b : Nat} {c : Option Value} {hint hint' : Option Value} {v : Value} (hti : tt.get t = some ⟨.map kt et, a, b, c⟩) (ho : hintOk hint = true) (rh : RO μ tok hint hint')
    (e : newVal h (.map [] 0) (fun id => .map (some id)) = some (.val v h')) (f : Fresh μ F h.c h'.c) : ∃ μ' v' w', (Instr.makeMap t hint').run P w = .ok v' w' ∧ RV μ' tok v v' ∧ Good μ tok B0 w0 F h h' μ' w' := by
  obtain ⟨d, hk, _, hd⟩ := tells_k hT hti
  obtain rfl := tk_map hk
  obtain ⟨id, he, rfl⟩ := newVal_spec e
  obtain ⟨i, hcb, hco, hrun, hμ, g⟩ := newObj_run (P := P) (o := .map #[] 0) ok s r he f (fun i h1 h2 => ⟨by rw [h1]; exact Nat.le_trans r.b0 r.below.size, [], rfl, .nil⟩)
  refine ⟨_, .map (some w.heap.size), _, ?_, by have := RV.map (tok := tok) hμ; rw [hcb] at this; exact this, g⟩
  unfold Instr.makeMap
  cases hint with
  | none =>
    have := RO_none rh
    subst this
    simp only [Sem.run_bind, hrun, then_ok, Sem.run_pure]
  | some x =>
    cases hint' with
    | none => exact rh.elim
    | some x' =>
      unfold hintOk at ho
      split at ho
      · rename_i hh; cases hh
      · rename_i k n hh
        cases hh
        have rx : RV μ tok (.int k n) x' := rh
        cases rx
        simp only [Sem.run_bind, hd, then_ok, asInt, asIntOf, Sem.run_pure, hrun]
      · cases ho

theorem nilCheck_run {ρ ρ' : Operand → Value} {x : Operand} {dst type pos after guard} (hx : (∃ a, ρ x = .pointer (some a)) ∨ (∃ t v, ρ x = .iface t v) ∨ (∃ f a c, ρ x = .func (.func f) a c)) (rx : RV μ tok (ρ x) (ρ' x)) (w : World) :
    (execOp ρ' ⟨dst, .nilCheck x, type, pos, after, guard⟩).run P w = .ok (.value (ρ' x)) w := by
  generalize hq : ρ' x = q at rx
  rcases hx with ⟨a, ha⟩ | ⟨t, v, ha⟩ | ⟨f, a, c, ha⟩ <;> rw [ha] at rx <;> cases rx <;> simp only [execOp, hq] <;> rfl

theorem arrayAt_run (hT : TT P tt) {t n el a0 b0 : Nat} {c0 : Option Value} {a : Addr} {k c : Nat} {x' : Value} (hti : tt.get t = some ⟨.array n el, a0, b0, c0⟩) (hle : n ≤ k) (hn : n ≠ 0) (rx : RV μ tok (.slice (some a) k c) x') (w : World) :
    ∃ v', (Instr.arrayAt t x').run P w = .ok v' w ∧ RV μ tok (.pointer (some ⟨a.block, a.off, none⟩)) v' := by
  obtain ⟨d, hkd, _, hd⟩ := tells_k hT hti
  obtain rfl := tk_array hkd
  cases rx with
  | @sexact b o _ _ i hi =>
    refine ⟨_, ?_, .ptr hi⟩
    simp only [Instr.arrayAt, Sem.run_bind, hd, then_ok]
    rw [if_neg (by omega)]
    rfl
  | @sloose b o z _ _ c' i hi _ _ _ =>
    refine ⟨_, ?_, .ptr hi⟩
    simp only [Instr.arrayAt, Sem.run_bind, hd, then_ok]
    rw [if_neg (by omega)]
    rfl
  | sempty b o a' c' => omega

set_option maxHeartbeats 4000000 in
theorem aop_val (hT : TT P tt) (ok : HpOk h) (s : Sub h F) (r : HR μ tok B0 w0 F w) {ρ ρ' : Operand → Value} {o : Oper} {v : Value} (e : aop P tt ρ o h = some (.val v h')) (f : Fresh μ F h.c h'.c)
    (hρ : ∀ x ∈ o.op.operands, RV μ tok (ρ x) (ρ' x)) : OpRun P μ tok B0 w0 F h h' w (execOp ρ' o) v := by
  obtain ⟨dst, op, type, pos, after, guard⟩ := o
  cases op with
  | move x =>
    simp only [aop] at e
    cases e
    exact ⟨μ, _, w, .inl rfl, hρ x (by simp [Op.operands]), Good.same ok s r⟩
  | assign x =>
    simp only [aop] at e
    cases e
    exact ⟨μ, _, w, .inl rfl, hρ x (by simp [Op.operands]), Good.same ok s r⟩
  | pick c a b =>
    simp only [aop] at e
    split at e
    · rename_i t ht
      cases e
      have hc := hρ c (by simp [Op.operands])
      rw [ht] at hc
      have hc' : ρ' c = .bool t := by generalize ρ' c = q at hc; cases hc; rfl
      refine ⟨μ, if t then ρ' a else ρ' b, w, .inl ?_, ?_, Good.same ok s r⟩
      · simp only [execOp, hc', asBool, Sem.run_bind, Sem.run_pure, then_ok]
      · cases t with
        | true => exact hρ a (by simp [Op.operands])
        | false => exact hρ b (by simp [Op.operands])
    · cases e
  | alloc el =>
    simp only [aop] at e
    split at e
    · rename_i z hz
      obtain ⟨hfz, e⟩ := cond_some e
      obtain ⟨ti, ht, hz2⟩ := zeroL_tells hT hz
      obtain ⟨μ', v', w', hr, rv, g⟩ := newVar_run (P := P) ok s r e f (RV.ofFlat hfz) el
      refine OpRun.value (sem := Instr.alloc el true (.tuple #[])) ⟨μ', v', w', ?_, rv, g⟩
      unfold Instr.alloc
      simp only [Sem.run_bind, r_zero ht hz2, then_ok]
      simp only [Sem.run_bind] at hr
      exact hr
    · cases e
  | box el x =>
    simp only [aop] at e
    exact OpRun.value (sem := Instr.box el (ρ' x)) (newVar_run (P := P) ok s r e f (hρ x (by simp [Op.operands])) el)
  | build t ps =>
    simp only [aop] at e
    exact OpRun.same (sem := Instr.build t (ps.map fun (i, x) => (i, ρ' x))) ok s r (aBuild_run hT r.tokOk e (fun p hp => hρ p.2 (by simp [Op.operands]; exact ⟨p.1, by simpa using hp⟩)) w)
  | buildSlice t n ps =>
    simp only [aop] at e
    exact OpRun.value (sem := Instr.buildSlice t n (ps.map fun (i, x) => (i, ρ' x))) (aBuildSlice_run hT ok s r e f (fun p hp => hρ p.2 (by simp [Op.operands]; exact ⟨p.1, by simpa using hp⟩)))
  | load t a =>
    simp only [aop] at e
    split at e
    · rename_i a0 ha
      obtain ⟨hl, rfl⟩ := ret_spec e
      have ra := hρ a (by simp [Op.operands])
      rw [ha] at ra
      obtain ⟨v', hv, rv⟩ := loadL_run (P := P) hT s r hl ra
      exact OpRun.value (sem := Instr.loadAt t (ρ' a)) ⟨μ, v', w, hv, rv, Good.same ok s r⟩
    · cases e
  | store t a x =>
    simp only [aop] at e
    split at e
    · rename_i a0 ha
      split at e
      · rename_i h1 hst
        cases e
        have ra := hρ a (by simp [Op.operands])
        rw [ha] at ra
        obtain ⟨w', hw, g⟩ := storeL_run (P := P) hT ok s r hst ra (hρ x (by simp [Op.operands]))
        exact ⟨μ, undef, w', .inr ⟨by simp only [execOp, Sem.run_bind, hw, then_ok, Sem.run_pure], rfl⟩, .tuple .nil, g⟩
      · cases e
    · cases e
  | nilCheck x =>
    simp only [aop] at e
    have rx := hρ x (by simp [Op.operands])
    split at e
    · rename_i a ha
      cases e
      exact ⟨μ, ρ' x, w, .inl (nilCheck_run (.inl ⟨a, ha⟩) rx w), by rw [← ha]; exact rx, Good.same ok s r⟩
    · rename_i t v ha
      cases e
      exact ⟨μ, ρ' x, w, .inl (nilCheck_run (.inr (.inl ⟨t, v, ha⟩)) rx w), by rw [← ha]; exact rx, Good.same ok s r⟩
    · rename_i fid a c ha
      cases e
      exact ⟨μ, ρ' x, w, .inl (nilCheck_run (.inr (.inr ⟨fid, a, c, ha⟩)) rx w), by rw [← ha]; exact rx, Good.same ok s r⟩
    · cases e
  | binOp op xt x y yt =>
    simp only [aop] at e
    have rx := hρ x (by simp [Op.operands])
    have ry := hρ y (by simp [Op.operands])
    have nil : nilEq tt h op xt (ρ x) (ρ y) = some (.val v h') → OpRun P μ tok B0 w0 F h h' w (execOp ρ' ⟨dst, .binOp op xt x y yt, type, pos, after, guard⟩) v := by
      intro e
      obtain ⟨hr, rfl, t, rfl⟩ := nilEq_run (x := x) (y := y) hT e rx ry w
      exact OpRun.value (sem := do eqGuard op xt x y (ρ' x) (ρ' y); binOp op xt (ρ' x) (ρ' y)) ⟨μ, _, w, hr, .bool t, Good.same ok s r⟩
    unfold aBin at e
    cases hfx : flat (ρ x) with
    | false => rw [hfx] at e; exact nil e
    | true =>
      cases hfy : flat (ρ y) with
      | false => rw [hfx, hfy] at e; exact nil e
      | true =>
        rw [hfx, hfy] at e
        simp only [cond_true] at e
        have hx := rx.flat hfx
        have hy := ry.flat hfy
        rw [← hx, ← hy] at e
        exact pureNext_run ok s r e
  | unOp op xt x =>
    simp only [aop] at e
    obtain ⟨hf, e⟩ := cond_some e
    have hx := (hρ x (by simp [Op.operands])).flat hf
    rw [← hx] at e
    exact pureNext_run ok s r e
  | convert src dst' x =>
    simp only [aop] at e
    exact OpRun.value (sem := convert src dst' (ρ' x)) (aConvert_run hT ok s r e f (hρ x (by simp [Op.operands])))
  | sliceToArrayPointer t x =>
    simp only [aop] at e
    have rx := hρ x (by simp [Op.operands])
    split at e
    · rename_i n el _ _ _ a k c hti hx
      obtain ⟨hle, e1⟩ := cond_some e
      obtain ⟨hn, e2⟩ := cond_some' e1
      cases e2
      rw [hx] at rx
      obtain ⟨v', hv, rv⟩ := arrayAt_run hT hti (nble hle) (nbeq' hn) rx w
      exact OpRun.same (sem := Instr.arrayAt t (ρ' x)) ok s r ⟨v', hv, rv, rfl⟩
    · cases e
  | makeInterface t x =>
    simp only [aop] at e
    split at e
    · cases e
    · rename_i ti hnot hti
      cases e
      obtain ⟨d, hk, _, hd⟩ := r_under (hT _ _ hti)
      have hni := tkOf_iface hk (fun a b c hh => hnot a b c hh)
      refine OpRun.same (sem := Instr.makeInterface t (ρ' x)) ok s r ⟨_, ?_, .iface t (hρ x (by simp [Op.operands])), rfl⟩
      unfold Instr.makeInterface
      simp only [Sem.run_bind, hd, then_ok]
      cases d with
      | interface ms => exact absurd rfl (hni ms)
      | _ => rfl
    · cases e
  | makeFunc fn first captured =>
    simp only [aop] at e
    cases e
    refine OpRun.same (sem := Instr.makeFunc fn (first.map ρ') (captured.map ρ')) ok s r ⟨_, rfl, ?_, rfl⟩
    have h1 := RL.map (μ := μ) (tok := tok) ρ ρ' first.toList fun x hx => hρ x (by simp [Op.operands]; exact .inl (by simpa using hx))
    have h2 := RL.map (μ := μ) (tok := tok) ρ ρ' captured.toList fun x hx => hρ x (by simp [Op.operands]; exact .inr (by simpa using hx))
    have e1 : first.map ρ' = ⟨first.toList.map ρ'⟩ := by apply Array.ext'; simp
    have e2 : captured.map ρ' = ⟨captured.toList.map ρ'⟩ := by apply Array.ext'; simp
    rw [e1, e2]
    exact .func fn h1 h2
  | makeMap t res =>
    simp only [aop] at e
    split at e
    · rename_i kt et _ _ _ hti
      obtain ⟨ho, e⟩ := cond_some e
      exact OpRun.value (sem := Instr.makeMap t (res.map ρ')) (makeMap_run hT ok s r hti ho (RO.map ρ ρ' res fun y hy => hρ y (by subst hy; simp [Op.operands])) e f)
    · cases e
  | makeSlice t l c =>
    simp only [aop] at e
    exact OpRun.value (sem := Instr.makeSlice t (ρ' l) (ρ' c)) (aMakeSlice_run hT ok s r e f (hρ l (by simp [Op.operands])) (hρ c (by simp [Op.operands])))
  | slice t x lo hi mx =>
    simp only [aop] at e
    refine OpRun.same (sem := Instr.sliceAt t (ρ' x) (lo.map ρ') (hi.map ρ') (mx.map ρ')) ok s r (aSlice_run hT e (hρ x (by simp [Op.operands])) (RO.map ρ ρ' lo fun y hy => hρ y ?_) (RO.map ρ ρ' hi fun y hy => hρ y ?_) (RO.map ρ ρ' mx fun y hy => hρ y ?_) w)
    all_goals subst hy; simp [Op.operands]
  | fieldAddr t x fi =>
    simp only [aop] at e
    have rx := hρ x (by simp [Op.operands])
    split at e
    · rename_i fs _ _ _ a hti hx
      split at e
      · rename_i off ft hf
        split at e
        · rename_i n hn
          obtain ⟨hne, e⟩ := cond_some' e
          cases e
          rw [hx] at rx
          obtain ⟨v', hv, rv⟩ := fieldAddr_run hT hti hf hn (nbeq' hne) rx w
          exact OpRun.same (sem := Instr.fieldAt t (ρ' x) fi) ok s r ⟨v', hv, rv, rfl⟩
        · cases e
      · cases e
    · cases e
  | field t x fi =>
    simp only [aop] at e
    have rx := hρ x (by simp [Op.operands])
    split at e
    · rename_i fs _ _ _ c hti hx
      split at e
      · rename_i off ft hf
        obtain ⟨hp, rfl⟩ := ret_spec e
        rw [hx] at rx
        obtain ⟨v', hv, rv⟩ := field_run hT hti hf hp rx w
        exact OpRun.same (sem := Instr.field t (ρ' x) fi) ok s r ⟨v', hv, rv, rfl⟩
      · cases e
    · cases e
  | indexAddr t x i =>
    simp only [aop] at e
    exact OpRun.same (sem := Instr.indexAt t (ρ' x) (ρ' i)) ok s r (indexAddr_run hT e (hρ x (by simp [Op.operands])) (hρ i (by simp [Op.operands])) w)
  | index t x i =>
    simp only [aop] at e
    exact OpRun.same (sem := Instr.index t (ρ' x) (ρ' i)) ok s r (index_run hT e (hρ x (by simp [Op.operands])) (hρ i (by simp [Op.operands])) w)
  | lookup t x k okk =>
    simp only [aop] at e
    exact OpRun.same (sem := Instr.lookup t (ρ' x) (ρ' k) okk) ok s r (aLookup_run hT s r e (hρ x (by simp [Op.operands])) (hρ k (by simp [Op.operands])))
  | mapUpdate t m k x =>
    simp only [aop] at e
    obtain ⟨w', hw, rfl, g⟩ := aMapUpdate_run hT ok s r e (hρ m (by simp [Op.operands])) (hρ k (by simp [Op.operands])) (hρ x (by simp [Op.operands]))
    exact ⟨μ, undef, w', .inr ⟨by simp only [execOp, Sem.run_bind, hw, then_ok, Sem.run_pure], rfl⟩, .tuple .nil, g⟩
  | insert t m k x =>
    simp only [aop] at e
    obtain ⟨w', hw, rfl, g⟩ := aMapUpdate_run hT ok s r e (hρ m (by simp [Op.operands])) (hρ k (by simp [Op.operands])) (hρ x (by simp [Op.operands]))
    exact ⟨μ, undef, w', .inr ⟨by simp only [execOp, Sem.run_bind, hw, then_ok, Sem.run_pure], rfl⟩, .tuple .nil, g⟩
  | range t x =>
    simp only [aop] at e
    exact OpRun.value (sem := Instr.range t (ρ' x)) (aRange_run hT ok s r e f (hρ x (by simp [Op.operands])))
  | next it b =>
    cases b with
    | true => simp only [aop] at e; cases e
    | false =>
      simp only [aop] at e
      obtain ⟨v', w', hw, rv, g⟩ := aNext_run (P := P) (ty := type) ok s r e (hρ it (by simp [Op.operands]))
      exact OpRun.value (sem := Instr.next (ρ' it) false type) ⟨μ, v', w', hw, rv, g⟩
  | entry it =>
    simp only [aop] at e
    exact OpRun.same (sem := Instr.entry (ρ' it)) ok s r (aEntry_run s r e (hρ it (by simp [Op.operands])))
  | typeAssert x xt t okk =>
    simp only [aop] at e
    exact OpRun.same (sem := Instr.typeAssert (ρ' x) xt t okk) ok s r (aAssert_run hT e (hρ x (by simp [Op.operands])) w)
  | extract x i =>
    simp only [aop] at e
    have rx := hρ x (by simp [Op.operands])
    split at e
    · rename_i l hl
      obtain ⟨hn, rfl⟩ := ret_spec e
      rw [hl] at rx
      refine OpRun.same (sem := Instr.extract (ρ' x) i) ok s r ?_
      generalize ρ' x = q at rx
      cases rx with
      | tuple rl =>
        rw [nth_eq] at hn
        obtain ⟨v', hv, rv⟩ := rl.get hn
        refine ⟨v', ?_, rv, rfl⟩
        unfold Instr.extract
        simp only [List.getElem?_toArray, hv, Sem.run_pure]
    · cases e
  | panic x => simp only [aop] at e; split at e <;> cases e
  | call c =>
    obtain ⟨callee, args, ts⟩ := c
    cases callee with
    | builtin b =>
      simp only [aop] at e
      have ra := RL.map (μ := μ) (tok := tok) ρ ρ' args.toList fun x hx => hρ x (by simp [Op.operands, Call.operands]; simpa using hx)
      have := aBuiltin_run (w := w) (consts := args.map fun | .const _ => true | _ => false) hT ok s r e f ra
      have heq : (args.toList.map ρ').toArray = args.map ρ' := by apply Array.ext'; simp
      rw [heq] at this
      obtain ⟨μ', v', w', hr, rv, g⟩ := this
      refine ⟨μ', v', w', ?_, rv, g⟩
      simp only [execOp, resolve, Sem.run_bind, Sem.run_pure, then_ok, invoke]
      exact hr
    | value f => simp only [aop] at e; cases e
    | invoke a b => simp only [aop] at e; cases e
  | _ => simp only [aop] at e; cases e

end
end Go.Ev
