/-
  SOUNDNESS, TWENTY-THIRD PART: one operation of a drawing region, behind any that may have come ahead of it.
-/
import Derived.Test.YtcnkdagngaomdaaGreatDoorEvS22
namespace Go.Ev
open Go Go.RowKit

theorem memN_in {l : List Nat} {a : Nat} (h : a ∈ l) : memN l a = true := by
  induction l with
  | nil => cases h
  | cons b l ih =>
    simp only [memN]
    rcases List.mem_cons.1 h with rfl | h
    · rw [Nat.beq_refl]; rfl
    · rw [ih h]; cases Nat.beq b a <;> rfl

theorem apartE_spec {all : List Oper} {x y : Oper} (h : apartE all x y = true) :
    (∀ d, x.dst = some d → d ∉ looksE all y ∧ y.dst ≠ some d) ∧ (∀ d, y.dst = some d → d ∉ looksE all x) := by
  unfold apartE at h
  refine ⟨fun d hd => ?_, fun d hd => ?_⟩
  · rw [hd] at h
    simp only at h
    cases hm : memN (looksE all y) d with
    | true => rw [hm] at h; cases h
    | false =>
      refine ⟨fun hx => (by rw [memN_in hx] at hm; cases hm), ?_⟩
      rw [hm] at h
      intro he
      rw [he] at h
      simp only [Nat.beq_refl] at h
      cases h
  · rw [hd] at h
    simp only at h
    cases hm : memN (looksE all x) d with
    | true => rw [hm] at h; revert h; cases (match x.dst with | none => true | some e => cond (memN (looksE all y) e) false (cond (Nat.beq e d) false true)) <;> simp
    | false => intro hx; rw [memN_in hx] at hm; cases hm

theorem tmpsOf_mem : ∀ {l : List Operand} {d : Nat}, Operand.tmp d ∈ l → d ∈ tmpsOf l := by
  intro l d h
  induction l with
  | nil => cases h
  | cons x l ih =>
    rcases List.mem_cons.1 h with he | h2
    · subst he; simp [tmpsOf]
    · have := ih h2
      cases x <;> simp [tmpsOf, this]

theorem looksE_op {all : List Oper} {o : Oper} {d : Nat} (h : Operand.tmp d ∈ o.op.operands) : d ∈ looksE all o := by
  have h1 : d ∈ tmpsOf o.op.operands.toList := tmpsOf_mem (by simpa using h)
  unfold looksE
  split
  · exact h1
  · split
    · split
      · simp [h1]
      · exact h1
    · exact h1

theorem looksE_guard {all : List Oper} {o : Oper} {j : Nat} {want : Bool} {g : Oper} {d : Nat} (hg : o.guard = some (j, want)) (hj : all[j]? = some g) (hd : g.dst = some d) : d ∈ looksE all o := by
  unfold looksE
  rw [hg]
  simp only [nth_eq, hj, hd]
  simp

section
variable {P : Program} {tt : T TI} {call : CallF} {ng n : Nat} {t0 : T Value} {h0 : Hp} {F : FH} {μ0 : Mu} {tok : Nat → Value} {B0 : Nat} {w0 : World}

/-- A world behind some of a region's operations. -/
structure WI (ng n : Nat) (ds : List Deferred) (t0 : T Value) (F : FH) (μ0 : Mu) (tok : Nat → Value) (B0 : Nat) (w0 : World) (rs : List Rec) (E : Nat → Bool) (μ : Mu) (a : Act) (w : World) : Prop where
  hr : HR μ tok B0 w0 (FE F E rs) w
  le : μ0.le μ
  gl : GL ng μ
  out : ∀ b, (∀ r ∈ rs, E r.i = true → ¬ (r.pre.c ≤ b ∧ b < r.post.c)) → μ b = μ0 b
  size : a.tmps.size = n
  tm : ∀ d, RV μ tok ((TE t0 E rs d).getD undef) (a.tmps.getD d undef)
  nd : a.defers = ds
  cl : ∀ r ∈ rs, E r.i = true → ∀ q ∈ rs, Nat.testBit r.m q.i = true → E q.i = true

theorem Chain.pw {all : List Oper} {rs : List Rec} {t : T Value} {g : Hp} (ch : Chain P tt call n all t0 h0 rs t g) : rs.Pairwise (Pr all) := by
  induction ch with
  | nil => exact .nil
  | cons ch _ _ _ _ _ _ hp _ ih => exact .cons hp ih

theorem Chain.suffix {all : List Oper} {la rs : List Rec} {t : T Value} {g : Hp} (ch : Chain P tt call n all t0 h0 (la ++ rs) t g) : ∃ t' g', Chain P tt call n all t0 h0 rs t' g' ∧ g'.c ≤ g.c := by
  induction la generalizing t g with
  | nil => exact ⟨t, g, ch, Nat.le_refl _⟩
  | cons r la ih =>
    cases ch with
    | cons ch ran _ _ _ hc _ _ _ =>
      obtain ⟨t', g', h1, h2⟩ := ih ch
      refine ⟨t', g', h1, Nat.le_trans h2 ?_⟩
      rw [← hc]; exact ran.c

/-- What one operation meets. -/
structure Meets (P : Program) (tt : T TI) (call : CallF) (n : Nat) (all : List Oper) (t0 : T Value) (h0 : Hp) (la : List Rec) (j : Rec) (ea : List Rec) : Prop where
  ran : Ran P tt call n all h0 j
  later : ∀ r ∈ la, Pr all r j
  earlier : ∀ q ∈ ea, Pr all j q
  chain : ∃ h, Chain P tt call n all t0 h0 ea j.t h ∧ j.pre.t = h.t ∧ j.pre.c = h.c
  put : ∃ t', put n j.t j.o.dst j.v = some t'
  masks : Masks ea j

theorem Chain.meets {all : List Oper} {la ea : List Rec} {j : Rec} {t : T Value} {g : Hp} (ch : Chain P tt call n all t0 h0 (la ++ j :: ea) t g) : Meets P tt call n all t0 h0 la j ea := by
  have hp := List.pairwise_append.1 ch.pw
  obtain ⟨t', g', h1, _⟩ := ch.suffix
  have hl : ∀ r ∈ la, Pr all r j := fun r hr => hp.2.2 r hr j (by simp)
  cases h1 with
  | cons c ran hi ht hpt hc hm hpr hput =>
    subst ht
    exact ⟨ran, hl, hpr, ⟨_, c, hpt, hc⟩, ⟨_, hput⟩, hm⟩

theorem Meets.ok {all : List Oper} {la ea : List Rec} {j : Rec} (m : Meets P tt call n all t0 h0 la j ea) (ok0 : HpOk h0) (ss : Steps1 ea) : HpOk j.pre := by
  obtain ⟨h, ch, hpt, hc⟩ := m.chain
  obtain ⟨okh, _, _⟩ := ch.hp ok0 ss
  have hh := ch.base.2
  exact ⟨m.ran.bound (by rw [hc, ← hh]; exact okh.hid), by rw [hpt, hc]; exact okh.low, by rw [hc]; exact okh.lim⟩

section
variable {all : List Oper} {la ea : List Rec} {j : Rec} {E : Nat → Bool}
variable (m : Meets P tt call n all t0 h0 la j ea) (hE : E j.i = false) (hready : ∀ q ∈ ea, Nat.testBit j.m q.i = true → E q.i = true)
  (hcl : ∀ r ∈ la, E r.i = true → Nat.testBit r.m j.i = true → E j.i = true)
  include m hE hready hcl

theorem Meets.reads (hn : n ≤ 1000000) {d : Nat} (hd : d ∈ looksE all j.o) : TE t0 E (la ++ j :: ea) d = j.t.get d := by
  obtain ⟨h, ch, _, _⟩ := m.chain
  rw [ch.tmps hn d, TE_append]
  · simp only [TE]
    rw [if_neg (by rw [hE]; simp)]
    refine TE_at fun q hq => ?_
    cases he : E q.i with
    | true => exact .inl rfl
    | false =>
      right
      have hb : Nat.testBit j.m q.i = false := by
        cases hb : Nat.testBit j.m q.i with
        | false => rfl
        | true => rw [hready q hq hb] at he; cases he
      intro hx
      exact ((apartE_spec ((m.earlier q hq).2.2 hb).1).1 d hx).1 hd
  · intro r hr he hx
    have hb : Nat.testBit r.m j.i = false := by
      cases hb : Nat.testBit r.m j.i with
      | false => rfl
      | true => rw [hcl r hr he hb] at hE; cases hE
    exact (apartE_spec ((m.later r hr).2.2 hb).1).2 d hx hd

theorem Meets.sub (ok0 : HpOk h0) (sb : Sub h0 F) (ss : Steps1 ea) : Sub j.pre (FE F E (la ++ j :: ea)) := by
  obtain ⟨h, ch, hpt, hc⟩ := m.chain
  have okp := m.ok ok0 ss
  have hh := ch.base.2
  intro b x e
  obtain ⟨v, hx⟩ := get_some e
  have hlt := okp.low b x hx
  have v0 : hidden h.hid b = false := by
    cases hv : hidden h0.hid b with
    | false => rw [hh]; exact hv
    | true => have := m.ran.hid b hv; rw [this] at v; cases v
  have h1 : FE F full ea b = some x := ch.sub ok0 sb ss b x (by rw [get_vis v0, ← hpt]; exact hx)
  rw [FE_append, FE_skip]
  · simp only [FE]
    rw [if_neg (by rw [hE]; simp), ← h1]
    refine FE_at fun q hq => ?_
    cases he : E q.i with
    | true => exact .inl rfl
    | false =>
      right
      have hb : Nat.testBit j.m q.i = false := by
        cases hb : Nat.testBit j.m q.i with
        | false => rfl
        | true => rw [hready q hq hb] at he; cases he
      obtain ⟨_, h2, h3, _⟩ := (m.earlier q hq).2.2 hb
      cases hd : D q b with
      | none => rfl
      | some y =>
        exfalso
        obtain ⟨hor, hp⟩ := D_some hd
        have hlow := (ss q hq).ok.low b y (get_some hp).2
        rcases hor with hor | hor
        · rw [h3 b hor] at v; cases v
        · rw [h2 b hor hlow] at v; cases v
  · intro r hr he
    have hb : Nat.testBit r.m j.i = false := by
      cases hb : Nat.testBit r.m j.i with
      | false => rfl
      | true => rw [hcl r hr he hb] at hE; cases hE
    obtain ⟨hle, _, h2⟩ := m.later r hr
    obtain ⟨_, _, _, h3⟩ := h2 hb
    cases hd : D r b with
    | none => rfl
    | some y =>
      exfalso
      obtain ⟨hor, hp⟩ := D_some hd
      have := m.ran.c
      rcases hor with hor | hor
      · rcases h3 b hor with h4 | h4
        · omega
        · rw [h4] at v; cases v
      · omega

theorem Meets.after (ok0 : HpOk h0) (sb : Sub h0 F) (sa : Steps1 la) (ss : Steps1 ea) (st : Step j.pre j.post) : ovr (FE F E (la ++ j :: ea)) j.post = FE F (with1 E j.i) (la ++ j :: ea) := by
  have hsub := m.sub hE hready hcl ok0 sb ss
  have hla : ∀ r ∈ la, E r.i = with1 E j.i r.i := by
    intro r hr
    have := (m.later r hr).2.1
    simp only [with1]
    rw [if_neg (by omega)]
  have hea : ∀ q ∈ ea, E q.i = with1 E j.i q.i := by
    intro q hq
    have := (m.earlier q hq).2.1
    simp only [with1]
    rw [if_neg (by omega)]
  funext b
  rw [FE_append (E := with1 E j.i), ← FE_E hla]
  have hR : FE F (with1 E j.i) (j :: ea) b = match D j b with | some x => some x | none => FE F E ea b := by
    simp only [FE]
    rw [if_pos (by simp [with1]), FE_E hea]
    rfl
  have hL : FE F E (la ++ j :: ea) b = FE (FE F E ea) E la b := by
    rw [FE_append]
    refine FE_congr ?_
    simp only [FE]
    rw [if_neg (by rw [hE]; simp)]
  unfold ovr
  cases hd : D j b with
  | some x =>
    obtain ⟨hor, hp⟩ := D_some hd
    rw [hp]
    show some x = FE (FE F (with1 E j.i) (j :: ea)) E la b
    rw [FE_skip, hR, hd]
    intro r hr he
    have hb : Nat.testBit r.m j.i = false := by
      cases hb : Nat.testBit r.m j.i with
      | false => rfl
      | true => rw [hcl r hr he hb] at hE; cases hE
    obtain ⟨hle, _, h2⟩ := m.later r hr
    obtain ⟨_, h3, h4, h5⟩ := h2 hb
    cases hd2 : D r b with
    | none => rfl
    | some y =>
      exfalso
      obtain ⟨hor2, hp2⟩ := D_some hd2
      have hv2 : hidden r.pre.hid b = false := by
        have := (get_some hp2).1
        rwa [(sa r hr).hid] at this
      have hlow := st.ok.low b x (get_some hp).2
      have hc := m.ran.c
      by_cases hb2 : j.pre.c ≤ b
      · rw [h3 b hb2 hlow] at hv2; cases hv2
      · have hv : hidden j.pre.hid b = false := by
          have := (get_some hp).1
          rwa [st.hid] at this
        rcases hor2 with hor2 | hor2
        · rcases h5 b hor2 with h6 | h6
          · omega
          · rw [h6] at hv; cases hv
        · omega
  | none =>
    have hRR : FE (FE F (with1 E j.i) (j :: ea)) E la b = FE (FE F E ea) E la b := FE_congr (by rw [hR, hd])
    rw [hRR, ← hL]
    cases hp : j.post.get b with
    | none => rfl
    | some x =>
      simp only
      rcases D_none hd with h1 | h1
      · have hnb : b ∉ j.W := fun hb => h1 (.inl hb)
        have hlt : b < j.pre.c := Nat.lt_of_not_le fun hb => h1 (.inr hb)
        have hne : j.pre.get b ≠ none := by
          intro hn
          have := st.new b hn (by rw [hp]; simp)
          omega
        obtain ⟨ex, hw, hk⟩ := st.wr
        rw [m.ran.wr, List.append_nil] at hw
        have h2 := hk b hne (fun hm => hnb (by rw [m.ran.W, hw]; exact low_mem hm hlt))
        rw [hp] at h2
        exact (hsub b x h2.symm).symm
      · rw [hp] at h1; cases h1

theorem Meets.fresh {cf : Nat} (sa : Steps1 la) (ss : Steps1 ea) {μ : Mu} (fr : Fresh μ0 F h0.c cf) (hcf : j.post.c ≤ cf) (hc0 : h0.c ≤ j.pre.c)
    (out : ∀ b, (∀ r ∈ la ++ j :: ea, E r.i = true → ¬ (r.pre.c ≤ b ∧ b < r.post.c)) → μ b = μ0 b) : Fresh μ (FE F E (la ++ j :: ea)) j.pre.c j.post.c := by
  intro b h1 h2
  have hb0 := fr b (by omega) (by omega)
  refine ⟨?_, ?_⟩
  · rw [out b ?_]
    · exact hb0.1
    · intro r hr he hx
      rcases List.mem_append.1 hr with hr | hr
      · have := (m.later r hr).1; omega
      · rcases List.mem_cons.1 hr with rfl | hr
        · rw [hE] at he; cases he
        · have := (m.earlier r hr).1; omega
  · have hX : FE F E (j :: ea) b = none := by
      simp only [FE]
      rw [if_neg (by rw [hE]; simp), FE_skip]
      · exact hb0.2
      · intro q hq he
        cases hd : D q b with
        | none => rfl
        | some y =>
          exfalso
          obtain ⟨_, hp⟩ := D_some hd
          have hlow := (ss q hq).ok.low b y (get_some hp).2
          have := (m.earlier q hq).1
          omega
    rw [FE_append, FE_skip, hX]
    intro r hr he
    have hb : Nat.testBit r.m j.i = false := by
      cases hb : Nat.testBit r.m j.i with
      | false => rfl
      | true => rw [hcl r hr he hb] at hE; cases hE
    obtain ⟨_, h3, _⟩ := (m.later r hr).2.2 hb
    cases hd : D r b with
    | none => rfl
    | some y =>
      exfalso
      obtain ⟨_, hp⟩ := D_some hd
      have hv2 : hidden r.pre.hid b = false := by
        have := (get_some hp).1
        rwa [(sa r hr).hid] at this
      rw [h3 b h1 h2] at hv2; cases hv2

theorem Meets.tm (_hn : n ≤ 1000000) {μ μ' : Mu} (hle : μ.le μ') {a : Act} {v' : Value} (size : a.tmps.size = n) (tm : ∀ d, RV μ tok ((TE t0 E (la ++ j :: ea) d).getD undef) (a.tmps.getD d undef)) (rv : RV μ' tok j.v v') :
    ∀ d, RV μ' tok ((TE t0 (with1 E j.i) (la ++ j :: ea) d).getD undef) ((a.put j.o.dst v').tmps.getD d undef) := by
  intro d
  have hla : ∀ r ∈ la, with1 E j.i r.i = E r.i := by
    intro r hr
    have := (m.later r hr).2.1
    simp only [with1]
    rw [if_neg (by omega)]
  have hea : ∀ q ∈ ea, with1 E j.i q.i = E q.i := by
    intro q hq
    have := (m.earlier q hq).2.1
    simp only [with1]
    rw [if_neg (by omega)]
  by_cases hd : j.o.dst = some d
  · rw [TE_append]
    · simp only [TE]
      rw [if_pos ⟨by simp [with1], hd⟩]
      obtain ⟨t', hput⟩ := m.put
      rw [hd] at hput
      obtain ⟨hlt, _⟩ := cond_some hput
      have hlt := nblt hlt
      have : (a.put j.o.dst v').tmps.getD d undef = v' := by
        rw [hd]
        simp only [Act.put, Array.getD_eq_getD_getElem?, Array.getElem?_setIfInBounds, if_true, size, hlt, Option.getD_some]
      rw [this]
      exact rv
    · intro r hr he hx
      rw [hla r hr] at he
      have hb : Nat.testBit r.m j.i = false := by
        cases hb : Nat.testBit r.m j.i with
        | false => rfl
        | true => rw [hcl r hr he hb] at hE; cases hE
      exact ((apartE_spec ((m.later r hr).2.2 hb).1).1 d hd).2 hx
  · have h1 : TE t0 (with1 E j.i) (la ++ j :: ea) d = TE t0 E (la ++ j :: ea) d := by
      refine TE_at fun r hr => ?_
      rcases List.mem_append.1 hr with hr | hr
      · exact .inl (hla r hr)
      · rcases List.mem_cons.1 hr with rfl | hr
        · exact .inr hd
        · exact .inl (hea r hr)
    rw [h1]
    have h2 : (a.put j.o.dst v').tmps.getD d undef = a.tmps.getD d undef := by
      cases hx : j.o.dst with
      | none => rfl
      | some i =>
        have hne : i ≠ d := by rintro rfl; exact hd hx
        simp only [Act.put, Array.getD_eq_getD_getElem?, Array.getElem?_setIfInBounds, if_neg hne]
    rw [h2]
    exact (tm d).mono hle

end

end
end Go.Ev
