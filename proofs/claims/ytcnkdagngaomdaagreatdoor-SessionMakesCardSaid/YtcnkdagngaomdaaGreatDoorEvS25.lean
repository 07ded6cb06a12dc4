/-
  SOUNDNESS, TWENTY-FIFTH PART: drawing regions, whole.
-/
import Derived.Test.YtcnkdagngaomdaaGreatDoorEvS24
namespace Go.Ev
open Go Go.RowKit

section
variable {P : Program} {tt : T TI} {call : CallF} {ng n : Nat} {ds : List Deferred} {t0 : T Value} {h0 : Hp} {F : FH} {μ0 : Mu} {tok : Nat → Value} {B0 : Nat} {w0 : World}

theorem HR.drawn {μ : Mu} {w : World} (r : HR μ tok B0 w0 F w) (k : Nat) : HR μ tok B0 w0 F { w with drawn := k } :=
  ⟨r.blk, r.inj, r.old, Below.trans r.below ⟨rfl, rfl, rfl, Nat.le_refl _, fun _ _ => rfl⟩, r.b0, r.tokOk, r.tokB⟩

theorem any_wp (hT : TT P tt) (hc : CallOK P ng call) (hn : n ≤ 1000000) {ops : Array Oper} (opsok : allB (opOk ng) ops.toList = true) (ok0 : HpOk h0) (sb : Sub h0 F) {rs : List Rec} {tf : T Value} {hf : Hp}
    (fr : Fresh μ0 F h0.c hf.c) (ch : Chain P tt call n ops.toList t0 h0 rs tf hf) (hlen : rs.length = ops.size) (ss : Steps1 rs) {Q : Exit → Act → World → Prop}
    (hq : ∀ μ a w, WI ng n ds t0 F μ0 tok B0 w0 rs full μ a w → Q .normal a w) :
    ∀ (fuel : Nat) (listed : Array Bool) (μ : Mu) (a : Act) (w : World), listed.size = ops.size → WI ng n ds t0 F μ0 tok B0 w0 rs (fun k => listed.getD k false) μ a w → cnt (fun k => listed.getD k false) ops.size ≤ fuel →
      wpAny P .any ops Q fuel listed a w := by
  have ready_nil : ∀ listed : Array Bool, listed.size = ops.size → Region.ready .any ops listed = [] → ∀ i, i < ops.size → listed.getD i false = true := by
    intro listed hs hr i
    induction i using Nat.strongRecOn with
    | _ i ih =>
      intro hi
      cases hl : listed.getD i false with
      | true => rfl
      | false =>
        exfalso
        have hmem : i ∈ Region.ready .any ops listed := by
          rw [mem_ready]
          refine ⟨?_, ops[i], by simp [hi], ?_⟩
          · have hi2 : i < listed.size := by omega
            rw [Array.getD_eq_getD_getElem?, Array.getElem?_eq_getElem hi2] at hl ⊢
            exact hl
          · intro e he hb
            obtain ⟨r, hr1, hr2⟩ := ch.idx i (by omega)
            obtain ⟨la, ea, hsp⟩ := List.append_of_mem hr1
            rw [hsp] at ch
            have m := ch.meets
            have hop := m.ran.op
            rw [hr2] at hop
            have hop2 : r.o = ops[i] := by
              have : ops[i]? = some r.o := by simpa using hop
              rw [Array.getElem?_eq_getElem hi] at this
              exact (Option.some.inj this).symm
            obtain ⟨q, hq1, hq2⟩ := m.masks.1 e (by rw [hop2]; exact he) hb
            have := (m.earlier q hq1).2.1
            exact ih e.on (by omega) (by omega)
        rw [hr] at hmem
        cases hmem
  have done : ∀ (listed : Array Bool) (μ : Mu) (a : Act) (w : World), listed.size = ops.size → WI ng n ds t0 F μ0 tok B0 w0 rs (fun k => listed.getD k false) μ a w → Region.ready .any ops listed = [] → Q .normal a w := by
    intro listed μ a w hs wi hr
    refine hq μ a w (wi.congr fun r hr1 => ?_)
    have := (ch.ran r hr1).2.2.2
    exact ready_nil listed hs hr r.i (by omega)
  intro fuel
  induction fuel with
  | zero =>
    intro listed μ a w hs wi hcnt
    have hz := cnt_zero (Nat.le_zero.1 hcnt)
    have hr : Region.ready .any ops listed = [] := by
      rw [List.eq_nil_iff_forall_not_mem]
      intro i hi
      rw [mem_ready] at hi
      obtain ⟨h1, o, ho, _⟩ := hi
      have hi2 : i < ops.size := (Array.getElem?_eq_some_iff.1 ho).1
      have h2 := hz i hi2
      have hi3 : i < listed.size := by omega
      rw [Array.getD_eq_getD_getElem?, Array.getElem?_eq_getElem hi3] at h1 h2
      rw [Option.getD_some] at h1 h2
      rw [h1] at h2
      cases h2
    exact ⟨hr, done listed μ a w hs wi hr⟩
  | succ fuel ih =>
    intro listed μ a w hs wi hcnt
    refine ⟨fun hr => done listed μ a w hs wi hr, ?_⟩
    intro i hi
    rw [mem_ready] at hi
    obtain ⟨h1, o, ho, hall⟩ := hi
    have hi2 : i < ops.size := (Array.getElem?_eq_some_iff.1 ho).1
    have hi3 : i < listed.size := by omega
    have hEi : listed.getD i false = false := by
      rw [Array.getD_eq_getD_getElem?, Array.getElem?_eq_getElem hi3] at h1 ⊢
      exact h1
    obtain ⟨j, hj1, hj2⟩ := ch.idx i (by omega)
    obtain ⟨la, ea, hsp⟩ := List.append_of_mem hj1
    have hranj := ch.ran j hj1
    have hrs : ∀ r ∈ rs, r.i < ops.size := fun r hr => by have := (ch.ran r hr).2.2.2; omega
    subst hsp
    have m := ch.meets
    have hop2 : j.o = o := by
      have hop := m.ran.op
      rw [hj2] at hop
      have : ops[i]? = some j.o := by simpa using hop
      rw [ho] at this
      exact (Option.some.inj this).symm
    subst hj2
    refine exec hT hc hn opsok ok0 sb fr m hranj.2.1 hranj.2.2.1 (fun r hr => ss r (by simp [hr])) (fun r hr => ss r (by simp [hr])) wi hEi ?_ ?_
    · intro q hq1 hb
      obtain ⟨e, he, hbe, hor⟩ := m.masks.2 q.i hb
      have hl := hall e (by rw [← hop2]; exact he) hbe
      rcases hor with h3 | ⟨q', hq', hqi, hqb⟩
      · show listed.getD q.i false = true
        rw [h3]; exact hl
      · exact wi.cl q' (by simp [hq']) (by show listed.getD q'.i false = true; rw [hqi]; exact hl) q hq1 hqb
    · intro μ' a' w' wi2 _
      have heq : ∀ k, k < ops.size → with1 (fun k => listed.getD k false) j.i k = (listed.setIfInBounds j.i true).getD k false := by
        intro k hk
        have hk3 : k < listed.size := by omega
        simp only [with1, Array.getD_eq_getD_getElem?, Array.getElem?_setIfInBounds]
        by_cases he : k = j.i
        · subst he; simp [hk3]
        · rw [if_neg he, if_neg (Ne.symm he)]
      refine ih _ μ' a' w' (by simp [hs]) (wi2.congr fun r hr => heq r.i (hrs r hr)) ?_
      have h4 := cnt_with (E := fun k => listed.getD k false) (j := j.i) hEi hi2
      rw [cnt_congr heq] at h4
      omega

/-- Drawing regions are evaluated rightly. -/
theorem drawE_ok (hT : TT P tt) (hm : P.follows .mixedOrders = true) (hc : CallOK P ng call) : DrawOK P ng (drawE P tt call) := by
  intro n ops t h r hn e hok
  obtain ⟨rs, tf, hf, rfl, ch, hlen⟩ := go_chain (t0 := t) (h0 := h) (hist := []) e .nil ⟨[], rfl, rfl⟩
  have hlen : rs.length = ops.size := by simpa using hlen
  refine ⟨ch.base.1, ?_⟩
  intro ds tok B0 w0 μ F a w Q id st fr hq
  have start : ∀ E, WI ng n ds t F μ tok B0 w0 [] E μ a { w with drawn := w.drawn + 1 } := fun E =>
    ⟨st.hr.drawn _, Mu.le_refl _, st.gl, fun _ _ => rfl, st.tm.1, st.tm.2, st.nd, by intro r hr; cases hr⟩
  obtain ⟨ss, _⟩ := walk hT hc hn hok st.ok st.sub fr (start full) ch (Nat.le_refl _)
  refine wp_region_any hm ?_
  have hnone : ∀ k, (Array.replicate ops.size false).getD k false = false := by
    intro k
    rw [Array.getD_eq_getD_getElem?, Array.getElem?_replicate]
    split <;> rfl
  have wi0 : WI ng n ds t F μ tok B0 w0 rs (fun k => (Array.replicate ops.size false).getD k false) μ a { w with drawn := w.drawn + 1 } := by
    have s0 := start fun _ => false
    have hfe : FE F (fun _ => false) rs = F := by
      funext b
      exact FE_skip fun r _ he => by cases he
    refine WI.congr (E := fun _ => false) (fun r _ => (hnone r.i).symm) ⟨by rw [hfe]; exact s0.hr, s0.le, s0.gl, fun b _ => rfl, s0.size, ?_, s0.nd, by intro r _ he; cases he⟩
    intro d
    have : TE t (fun _ => false) rs d = t.get d := by
      have := TE_append (t0 := t) (fun _ => false) d rs [] (by intro r _ he; cases he)
      rw [List.append_nil] at this
      exact this
    rw [this]
    exact st.tm.2 d
  refine any_wp hT hc hn hok st.ok st.sub fr ch hlen ss ?_ ops.size _ μ a _ (by simp) wi0 cnt_le
  intro μ' a' w' wi
  obtain ⟨okf, stf, _⟩ := ch.hp st.ok ss
  have hsub := ch.sub st.ok st.sub ss
  refine hq _ _ _ ⟨μ', ⟨stf, ⟨wi.le, ?_⟩, ?_⟩, wi.nd, ⟨wi.size, ?_⟩, rfl⟩
  · intro b hb
    refine wi.out b fun r hr _ hx => ?_
    obtain ⟨_, h2, h3, _⟩ := ch.ran r hr
    have hb' : b < h.c ∨ hf.c ≤ b := hb
    omega
  · have : ovr F hf = FE F full rs := by
      funext b
      unfold ovr
      cases hg : hf.get b with
      | some x => exact (hsub b x hg).symm
      | none =>
        refine (FE_skip fun r hr _ => ?_).symm
        cases hd : D r b with
        | none => rfl
        | some x => exact absurd hg (ch.seen st.ok ss r hr b x hd)
    show HR μ' tok B0 w0 (ovr F hf) w'
    rw [this]
    exact wi.hr
  · intro d
    show RV μ' tok ((tf.get d).getD undef) _
    rw [ch.tmps hn d]
    exact wi.tm d

end
end Go.Ev
