/-
  SOUNDNESS, TWENTY-FOURTH PART: a drawing region, in any order.
-/
import Derived.Test.YtcnkdagngaomdaaGreatDoorEvS23
namespace Go.Ev
open Go Go.RowKit

def cnt (E : Nat → Bool) : Nat → Nat
  | 0 => 0
  | m + 1 => cnt E m + (if E m = true then 0 else 1)

theorem cnt_congr {E E' : Nat → Bool} : ∀ {m : Nat}, (∀ i, i < m → E i = E' i) → cnt E m = cnt E' m
  | 0, _ => rfl
  | m + 1, h => by simp only [cnt]; rw [cnt_congr (m := m) fun i hi => h i (by omega), h m (by omega)]

theorem cnt_with {E : Nat → Bool} {j : Nat} (hE : E j = false) : ∀ {m : Nat}, j < m → cnt (with1 E j) m + 1 = cnt E m
  | m + 1, h => by
    simp only [cnt]
    by_cases hj : j = m
    · subst hj
      rw [cnt_congr (E := with1 E j) (E' := E) fun i hi => by simp only [with1]; rw [if_neg (by omega)]]
      simp [with1, hE]
    · have := cnt_with hE (m := m) (by omega)
      have h2 : with1 E j m = E m := by simp only [with1]; rw [if_neg (by omega)]
      rw [h2]
      omega

theorem cnt_zero {E : Nat → Bool} : ∀ {m : Nat}, cnt E m = 0 → ∀ i, i < m → E i = true
  | m + 1, h, i, hi => by
    simp only [cnt] at h
    by_cases hm : i = m
    · subst hm
      cases he : E i with
      | true => rfl
      | false => rw [he] at h; simp at h
    · exact cnt_zero (m := m) (by omega) i (by omega)

theorem cnt_le {E : Nat → Bool} : ∀ {m : Nat}, cnt E m ≤ m
  | 0 => Nat.le_refl _
  | m + 1 => by
    have := cnt_le (E := E) (m := m)
    simp only [cnt]
    split <;> omega

section
variable {P : Program} {tt : T TI} {call : CallF} {ng n : Nat} {ds : List Deferred} {t0 : T Value} {h0 : Hp} {F : FH} {μ0 : Mu} {tok : Nat → Value} {B0 : Nat} {w0 : World}

theorem Chain.bits {all : List Oper} {rs : List Rec} {t : T Value} {g : Hp} (ch : Chain P tt call n all t0 h0 rs t g) : ∀ r ∈ rs, ∀ i, Nat.testBit r.m i = true → i < r.i := by
  induction ch with
  | nil => intro r hr; cases hr
  | @cons rs t t' h r ch ran hi ht hpt hc hm hpr hput ih =>
    intro q hq i hb
    rcases List.mem_cons.1 hq with he | hq
    · rw [he] at hb ⊢
      obtain ⟨e, hx, hbe, hor⟩ := hm.2 i hb
      obtain ⟨q', hq', hi'⟩ := hm.1 e hx hbe
      have hlt := (hpr q' hq').2.1
      rcases hor with rfl | ⟨q2, hq2, hi2, hb2⟩
      · omega
      · have := ih q2 hq2 i hb2
        have := (hpr q2 hq2).2.1
        omega
    · exact ih q hq i hb

theorem Chain.idx {all : List Oper} {rs : List Rec} {t : T Value} {g : Hp} (ch : Chain P tt call n all t0 h0 rs t g) : ∀ i, i < rs.length → ∃ r ∈ rs, r.i = i := by
  induction ch with
  | nil => intro i hi; cases hi
  | @cons rs t t' h r ch ran hi ht hpt hc hm hpr hput ih =>
    intro i hlt
    by_cases he : i = rs.length
    · exact ⟨r, by simp, by rw [hi, he]⟩
    · simp only [List.length_cons] at hlt
      obtain ⟨q, hq, h1⟩ := ih i (by omega)
      exact ⟨q, by simp [hq], h1⟩

theorem WI.congr {rs : List Rec} {E E' : Nat → Bool} {μ : Mu} {a : Act} {w : World} (h : ∀ r ∈ rs, E r.i = E' r.i) (wi : WI ng n ds t0 F μ0 tok B0 w0 rs E μ a w) : WI ng n ds t0 F μ0 tok B0 w0 rs E' μ a w where
  hr := by rw [← FE_E h]; exact wi.hr
  le := wi.le
  gl := wi.gl
  out := fun b hb => wi.out b fun r hr he => hb r hr (by rw [← h r hr]; exact he)
  size := wi.size
  tm := fun d => by rw [← TE_at (E := E) fun r hr => .inl (h r hr)]; exact wi.tm d
  nd := wi.nd
  cl := fun r hr he q hq hb => by rw [← h q hq]; exact wi.cl r hr (by rw [h r hr]; exact he) q hq hb

theorem wpOp_ex {ops : Array Oper} {i : Nat} {a : Act} {w : World} {X : Prop} (h : wpOp P ops (fun _ _ _ => X) i (fun _ _ => X) a w) : X := by
  unfold wpOp at h
  split at h
  · exact h
  · rename_i o ho
    split at h
    · rcases h with h | ⟨_, _, _, h⟩
      · unfold Oper.wp at h
        generalize (execOp a.eval o).run P w = r at h
        cases r with
        | ok nx w' =>
          cases nx <;> simp only [Oper.upon] at h
          case value => exact h
          case skip => exact h
          case defer => exact h
          case enter f args =>
            obtain ⟨e, w'', fr, hR, _⟩ := h []
            cases e with
            | returned v => exact hR
            | panicked c => exact hR
            | outgrown => obtain ⟨_, _, hx⟩ := hR; exact hx
          case row row args =>
            obtain ⟨v, w'', hR, _⟩ := h default []
            exact hR
        | halt x w' => cases x <;> simp only [Oper.upon] at h <;> exact h
      · exact h
    · exact h

/-- One operation of a drawing region, in its place. -/
theorem exec (hT : TT P tt) (hc : CallOK P ng call) (hn : n ≤ 1000000) {ops : Array Oper} (opsok : allB (opOk ng) ops.toList = true) (ok0 : HpOk h0) (sb : Sub h0 F) {cf : Nat} (fr : Fresh μ0 F h0.c cf)
    {la ea : List Rec} {j : Rec} (m : Meets P tt call n ops.toList t0 h0 la j ea) (hcf : j.post.c ≤ cf) (hc0 : h0.c ≤ j.pre.c) (sa : Steps1 la) (ss : Steps1 ea) {E : Nat → Bool} {μ : Mu} {a : Act} {w : World}
    (wi : WI ng n ds t0 F μ0 tok B0 w0 (la ++ j :: ea) E μ a w) (hE : E j.i = false) (hready : ∀ q ∈ la ++ j :: ea, Nat.testBit j.m q.i = true → E q.i = true) {K : Act → World → Prop} {Q : Exit → Act → World → Prop}
    (hk : ∀ μ' a' w', WI ng n ds t0 F μ0 tok B0 w0 (la ++ j :: ea) (with1 E j.i) μ' a' w' → Step j.pre j.post → K a' w') : wpOp P ops Q j.i K a w := by
  have hcl : ∀ r ∈ la, E r.i = true → Nat.testBit r.m j.i = true → E j.i = true := fun r hr he hb => wi.cl r (by simp [hr]) he j (by simp) hb
  have hready' : ∀ q ∈ ea, Nat.testBit j.m q.i = true → E q.i = true := fun q hq => hready q (by simp [hq])
  have okp := m.ok ok0 ss
  have hsub := m.sub hE hready' hcl ok0 sb ss
  have hop : ops[j.i]? = some j.o := by have := m.ran.op; simpa using this
  have reads : ∀ d, d ∈ looksE ops.toList j.o → RV μ tok ((j.t.get d).getD undef) (a.tmps.getD d undef) := by
    intro d hd
    rw [← m.reads hE hready' hcl hn hd]
    exact wi.tm d
  have hoo : opOk ng j.o = true := allB_spec opsok j.o (by
    have := m.ran.op
    exact List.mem_of_getElem? this)
  have hρ : ∀ x ∈ j.o.op.operands, RV μ tok (aval j.t x) (a.eval x) := by
    intro x hx
    cases x with
    | tmp d =>
      have := reads d (looksE_op hx)
      show RV μ tok (avTmp d j.t) (a.tmps.getD d undef)
      unfold avTmp
      cases e : j.t.get d with
      | none => rw [e] at this; exact this
      | some v => rw [e] at this; exact this
    | const v =>
      have ho : flat v = true := allB_spec hoo (.const v) (by simpa using hx)
      show RV μ tok (cond (flat v) v undef) v
      rw [ho]
      exact .ofFlat ho
    | global k =>
      have ho : Nat.blt k ng = true := allB_spec hoo (.global k) (by simpa using hx)
      obtain ⟨i, hi, hcb, hco⟩ := wi.gl k (nblt ho)
      show RV μ tok (.pointer (some ⟨k, 0, none⟩)) (.pointer (some ⟨k, 0, none⟩))
      have := RV.ptr (tok := tok) (o := 0) hi
      rw [hcb, hco] at this
      exact this
    | func f => exact .func (.func f) .nil .nil
  have hwt : ∀ b, wantsE ops.toList j.t j.o = some b → Region.wanted j.o (yielded ops a.tmps) = b := by
    intro b hb
    refine wants_rel (μ := μ) (tok := tok) ?_ hb
    intro k want g d hg hk2 hd
    exact reads d (looksE_guard hg (by simpa using hk2) hd)
  have new : ∀ {μ' : Mu} {v' : Value} {w' : World}, Step j.pre j.post → HR μ' tok B0 w0 (ovr (FE F E (la ++ j :: ea)) j.post) w' → Ext μ μ' j.pre.c j.post.c → RV μ' tok j.v v' →
      WI ng n ds t0 F μ0 tok B0 w0 (la ++ j :: ea) (with1 E j.i) μ' (a.put j.o.dst v') w' := by
    intro μ' v' w' st hr ext rv
    refine ⟨by rw [← m.after hE hready' hcl ok0 sb sa ss st]; exact hr, Mu.le_trans wi.le ext.1, wi.gl.mono ext.1, ?_, ?_, m.tm hE hready' hcl hn ext.1 wi.size wi.tm rv, by rw [put_defers]; exact wi.nd, ?_⟩
    · intro b hb
      have hj := hb j (by simp) (by simp [with1])
      rw [ext.2 b (by omega)]
      refine wi.out b fun r hr he => hb r hr ?_
      simp only [with1]
      split
      · rfl
      · exact he
    · cases hd : j.o.dst with
      | none => exact wi.size
      | some i => simp only [Act.put, Array.size_setIfInBounds]; exact wi.size
    · intro r hr he q hq hb
      simp only [with1] at he ⊢
      split
      · rfl
      · by_cases hri : r.i = j.i
        · have hrj : r = j := by
            rcases List.mem_append.1 hr with hr | hr
            · have := (m.later r hr).2.1; omega
            · rcases List.mem_cons.1 hr with rfl | hr
              · rfl
              · have := (m.earlier r hr).2.1; omega
          subst hrj
          exact hready q hq hb
        · rw [if_neg hri] at he
          exact wi.cl r hr he q hq hb
  unfold wpOp
  simp only [hop]
  rcases m.ran.run with ⟨hw, hrun⟩ | ⟨hw, hv, hpost⟩
  · rw [hwt _ hw]
    simp only [if_true]
    left
    refine opE_wp hT hc okp hsub wi.hr wi.gl hρ hrun m.ran.c (m.fresh hE hready' hcl sa ss fr hcf hc0 wi.out) ?_ ?_
    · intro v h' he μ' v' w' gd rv
      cases he
      exact hk μ' _ w' (new gd.step gd.hr gd.ext rv) gd.step
    · intro v h' he
      cases he
  · rw [hwt _ hw]
    simp only [Bool.false_eq_true, if_false]
    have st : Step j.pre j.post := by rw [hpost]; exact Step.refl okp
    refine hk μ _ w (new st ?_ (Ext.refl _ _ _) (by rw [hv]; exact rv_undef)) st
    rw [hpost, ovr_same hsub]
    exact wi.hr

/-- Run in the text's order, every operation makes its step. -/
theorem walk (hT : TT P tt) (hc : CallOK P ng call) (hn : n ≤ 1000000) {ops : Array Oper} (opsok : allB (opOk ng) ops.toList = true) (ok0 : HpOk h0) (sb : Sub h0 F) {cf : Nat} (fr : Fresh μ0 F h0.c cf)
    {a0 : Act} {w1 : World} (start : WI ng n ds t0 F μ0 tok B0 w0 [] full μ0 a0 w1) {rs : List Rec} {t : T Value} {g : Hp} (ch : Chain P tt call n ops.toList t0 h0 rs t g) (hg : g.c ≤ cf) :
    Steps1 rs ∧ ∃ μ a w, WI ng n ds t0 F μ0 tok B0 w0 rs full μ a w := by
  induction ch with
  | nil => exact ⟨(by intro r hr; cases hr), μ0, a0, w1, start⟩
  | @cons rs t t' h r ch ran hi ht hpt hcc hm hpr hput ih =>
    have hgc : r.post.c ≤ cf := hg
    have hrc := ran.c
    obtain ⟨ss, μ, a, w, wi⟩ := ih (by omega)
    have ch' : Chain P tt call n ops.toList t0 h0 (r :: rs) t' ⟨r.post.t, r.post.c, h0.hid, r.W ++ h.wr⟩ := .cons ch ran hi ht hpt hcc hm hpr hput
    have hbits := ch'.bits
    let E' : Nat → Bool := fun i => if i = r.i then false else true
    have hEr : E' r.i = false := by simp [E']
    have hEq : ∀ q ∈ rs, full q.i = E' q.i := by
      intro q hq
      have := (hpr q hq).2.1
      simp only [full, E']
      rw [if_neg (by omega)]
    have wi' : WI ng n ds t0 F μ0 tok B0 w0 ([] ++ r :: rs) E' μ a w := by
      have w2 := wi.congr hEq
      refine ⟨?_, w2.le, w2.gl, ?_, w2.size, ?_, w2.nd, ?_⟩
      · have : FE F E' ([] ++ r :: rs) = FE F E' rs := by
          funext b
          simp only [List.nil_append, FE]
          rw [if_neg (by rw [hEr]; simp)]
        rw [this]; exact w2.hr
      · intro b hb
        exact w2.out b fun q hq he => hb q (by simp [hq]) he
      · intro d
        have : TE t0 E' ([] ++ r :: rs) d = TE t0 E' rs d := by
          simp only [List.nil_append, TE]
          rw [if_neg (by rw [hEr]; simp)]
        rw [this]; exact w2.tm d
      · intro q1 h1 he q2 h2 hb
        have hlt := hbits q1 (by simpa using h1) q2.i hb
        have hle : q1.i ≤ r.i := by
          rcases List.mem_cons.1 (by simpa using h1) with rfl | h3
          · exact Nat.le_refl _
          · exact Nat.le_of_lt (hpr q1 h3).2.1
        simp only [E']
        rw [if_neg (by omega)]
    have m : Meets P tt call n ops.toList t0 h0 [] r rs := Chain.meets (la := []) ch'
    have hcb := (ch'.ran r (by simp)).2.2.1
    have hx : Step r.pre r.post ∧ ∃ μ a w, WI ng n ds t0 F μ0 tok B0 w0 (r :: rs) full μ a w := by
      refine wpOp_ex (P := P) (ops := ops) (i := r.i) (a := a) (w := w) ?_
      refine exec hT hc hn opsok ok0 sb fr m hgc hcb (by intro q hq; cases hq) ss wi' hEr ?_ ?_
      · intro q hq hb
        have := hbits r (by simp) q.i hb
        simp only [E']
        rw [if_neg (by omega)]
      · intro μ' a' w' wi2 st
        refine ⟨st, μ', a', w', ?_⟩
        refine WI.congr (E := with1 E' r.i) ?_ wi2
        intro q _
        simp only [with1, E', full]
        split <;> rfl
    refine ⟨?_, hx.2⟩
    intro q hq
    rcases List.mem_cons.1 hq with rfl | hq
    · exact hx.1
    · exact ss q hq

end
end Go.Ev
