/-
  SOUNDNESS, TWENTY-FIRST PART: what the run of a drawing region leaves behind it.
-/
import Derived.Test.YtcnkdagngaomdaaGreatDoorEvS20
import Derived.Test.YtcnkdagngaomdaaGreatDoorEvG
import Derived.Orders
namespace Go.Ev
open Go Go.RowKit

section
variable {P : Program} {tt : T TI} {call : CallF} {n : Nat} {all : List Oper}

/-- One operation and one ahead of it in the text. -/
def Pr (all : List Oper) (r q : Rec) : Prop :=
  q.post.c ≤ r.pre.c ∧ q.i < r.i ∧ (Nat.testBit r.m q.i = false → apartE all q.o r.o = true ∧ (∀ b, q.pre.c ≤ b → b < q.post.c → hidden r.pre.hid b = true) ∧ (∀ b ∈ q.W, hidden r.pre.hid b = true) ∧
    ∀ b ∈ r.W, q.pre.c ≤ b ∨ hidden q.pre.hid b = true)

/-- One operation's run, by itself. -/
structure Ran (P : Program) (tt : T TI) (call : CallF) (n : Nat) (all : List Oper) (h0 : Hp) (r : Rec) : Prop where
  op : all[r.i]? = some r.o
  hid : ∀ b, hidden h0.hid b = true → hidden r.pre.hid b = true
  bound : (∀ p ∈ h0.hid, p.2 ≤ r.pre.c) → ∀ p ∈ r.pre.hid, p.2 ≤ r.pre.c
  wr : r.pre.wr = []
  W : r.W = low r.pre.c r.post.wr
  c : r.pre.c ≤ r.post.c
  run : (wantsE all r.t r.o = some true ∧ opE P tt call (aval r.t) r.o r.pre = some (.val r.v r.post)) ∨ (wantsE all r.t r.o = some false ∧ r.v = undef ∧ r.post = r.pre)

/-- What comes ahead of an operation. -/
def Masks (rs : List Rec) (r : Rec) : Prop :=
  (∀ e ∈ r.o.after, Region.binds .any e = true → ∃ q ∈ rs, q.i = e.on) ∧
  ∀ i, Nat.testBit r.m i = true → ∃ e ∈ r.o.after, Region.binds .any e = true ∧ (i = e.on ∨ ∃ q ∈ rs, q.i = e.on ∧ Nat.testBit q.m i = true)

inductive Chain (P : Program) (tt : T TI) (call : CallF) (n : Nat) (all : List Oper) (t0 : T Value) (h0 : Hp) : List Rec → T Value → Hp → Prop
  | nil : Chain P tt call n all t0 h0 [] t0 h0
  | cons {rs : List Rec} {t t' : T Value} {h : Hp} {r : Rec} : Chain P tt call n all t0 h0 rs t h → Ran P tt call n all h0 r → r.i = rs.length → r.t = t → r.pre.t = h.t → r.pre.c = h.c → Masks rs r → (∀ q ∈ rs, Pr all r q) →
      put n t r.o.dst r.v = some t' → Chain P tt call n all t0 h0 (r :: rs) t' ⟨r.post.t, r.post.c, h0.hid, r.W ++ h.wr⟩

theorem maskOf_spec : ∀ {hist : List Rec} {i m : Nat}, maskOf hist i = some m → ∃ q ∈ hist, q.i = i ∧ q.m = m
  | [], _, _, e => by cases e
  | r :: rs, i, m, e => by
    unfold maskOf at e
    cases hb : Nat.beq r.i i with
    | true => rw [hb] at e; cases e; exact ⟨r, by simp, nbeq hb, rfl⟩
    | false =>
      rw [hb] at e
      obtain ⟨q, hq, h1⟩ := maskOf_spec (hist := rs) e
      exact ⟨q, by simp [hq], h1⟩

theorem predMask_spec {hist : List Rec} : ∀ {l : List Edge} {m : Nat}, predMask hist l = some m →
    (∀ e ∈ l, Region.binds .any e = true → ∃ q ∈ hist, q.i = e.on) ∧ ∀ i, Nat.testBit m i = true → ∃ e ∈ l, Region.binds .any e = true ∧ (i = e.on ∨ ∃ q ∈ hist, q.i = e.on ∧ Nat.testBit q.m i = true)
  | [], m, e => by
    cases e
    exact ⟨by simp, by intro i hi; simp at hi⟩
  | x :: l, m, e => by
    unfold predMask at e
    cases hb : Region.binds .any x with
    | false =>
      rw [hb] at e
      obtain ⟨h1, h2⟩ := predMask_spec (l := l) e
      refine ⟨?_, ?_⟩
      · intro y hy hby
        rcases List.mem_cons.1 hy with rfl | hy
        · rw [hb] at hby; cases hby
        · exact h1 y hy hby
      · intro i hi
        obtain ⟨y, hy, r⟩ := h2 i hi
        exact ⟨y, by simp [hy], r⟩
    | true =>
      rw [hb] at e
      simp only [cond_true] at e
      split at e
      · rename_i a ha
        obtain ⟨q, hq, hqi, hqm⟩ := maskOf_spec ha
        split at e
        · rename_i b hb2
          cases e
          obtain ⟨h1, h2⟩ := predMask_spec (l := l) hb2
          refine ⟨?_, ?_⟩
          · intro y hy hby
            rcases List.mem_cons.1 hy with rfl | hy
            · exact ⟨q, hq, hqi⟩
            · exact h1 y hy hby
          · intro i hi
            change Nat.testBit ((a ||| (1 <<< x.on)) ||| b) i = true at hi
            rw [Nat.testBit_or, Nat.testBit_or, Bool.or_eq_true, Bool.or_eq_true] at hi
            rcases hi with (hi | hi) | hi
            · exact ⟨x, by simp, hb, .inr ⟨q, hq, hqi, by rw [hqm]; exact hi⟩⟩
            · rw [Nat.one_shiftLeft, Nat.testBit_two_pow] at hi
              exact ⟨x, by simp, hb, .inl (by simpa using (of_decide_eq_true hi).symm)⟩
            · obtain ⟨y, hy, r⟩ := h2 i hi
              exact ⟨y, by simp [hy], r⟩
        · cases e
      · cases e

theorem hidden_append {a b : List (Nat × Nat)} {k : Nat} : hidden (a ++ b) k = true ↔ hidden a k = true ∨ hidden b k = true := by
  induction a with
  | nil => simp [hidden]
  | cons p a ih =>
    obtain ⟨x, y⟩ := p
    simp only [List.cons_append, hidden]
    cases Nat.ble x k <;> cases Nat.blt k y <;> simp [ih]

theorem hidden_cons {x y : Nat} {b : List (Nat × Nat)} {k : Nat} : hidden ((x, y) :: b) k = true ↔ (x ≤ k ∧ k < y) ∨ hidden b k = true := by
  simp only [hidden]
  cases h1 : Nat.ble x k with
  | false => have := nble' h1; simp; intro; omega
  | true =>
    have h1 := nble h1
    cases h2 : Nat.blt k y with
    | true => have := nblt h2; simp [h1, this]
    | false =>
      have h2 : y ≤ k := by
        have := nble' (a := k.succ) (b := y) h2
        omega
      simp; intro; omega

theorem hidden_singles {l : List Nat} {k : List (Nat × Nat)} {b : Nat} : hidden (singles l k) b = true ↔ b ∈ l ∨ hidden k b = true := by
  induction l with
  | nil => simp [singles]
  | cons x l ih =>
    rw [singles, hidden_cons, ih]
    simp only [List.mem_cons]
    constructor
    · rintro (h | h | h)
      · exact .inl (.inl (by omega))
      · exact .inl (.inr h)
      · exact .inr h
    · rintro ((h | h) | h)
      · exact .inl (by omega)
      · exact .inr (.inl h)
      · exact .inr (.inr h)

theorem hides_base {m : Nat} {base : List (Nat × Nat)} {b : Nat} (hb : hidden base b = true) : ∀ {hist : List Rec}, hidden (hides m base hist) b = true
  | [] => hb
  | r :: rs => by
    have := hides_base hb (m := m) (hist := rs)
    simp only [hides]
    cases Nat.testBit m r.i with
    | true => exact this
    | false => simp only [cond_false]; rw [hidden_cons, hidden_singles]; exact .inr (.inr this)

theorem hides_spec {m : Nat} {base : List (Nat × Nat)} (hist : List Rec) (q : Rec) (hq : q ∈ hist) (hm : Nat.testBit m q.i = false) :
    (∀ b, q.pre.c ≤ b → b < q.post.c → hidden (hides m base hist) b = true) ∧ ∀ b ∈ q.W, hidden (hides m base hist) b = true := by
  induction hist with
  | nil => cases hq
  | cons r rs ih =>
    rcases List.mem_cons.1 hq with he | hq
    · rw [he] at hm ⊢
      simp only [hides, hm, cond_false]
      refine ⟨fun b h1 h2 => ?_, fun b hb => ?_⟩
      · rw [hidden_cons]; exact .inl ⟨h1, h2⟩
      · rw [hidden_cons, hidden_singles]; exact .inr (.inl hb)
    · obtain ⟨h1, h2⟩ := ih hq
      simp only [hides]
      cases Nat.testBit m r.i with
      | true => exact ⟨h1, h2⟩
      | false =>
        simp only [cond_false]
        refine ⟨fun b x y => ?_, fun b hb => ?_⟩
        · rw [hidden_cons, hidden_singles]; exact .inr (.inr (h1 b x y))
        · rw [hidden_cons, hidden_singles]; exact .inr (.inr (h2 b hb))

theorem low_lt {c : Nat} : ∀ {l : List Nat} {b : Nat}, b ∈ low c l → b < c
  | x :: l, b, hb => by
    unfold low at hb
    cases hx : Nat.blt x c with
    | true =>
      rw [hx] at hb
      rcases List.mem_cons.1 hb with rfl | hb
      · exact nblt hx
      · exact low_lt hb
    | false => rw [hx] at hb; exact low_lt (l := l) hb

theorem low_mem {c : Nat} : ∀ {l : List Nat} {b : Nat}, b ∈ l → b < c → b ∈ low c l
  | x :: l, b, hb, hlt => by
    unfold low
    cases hx : Nat.blt x c with
    | true =>
      rcases List.mem_cons.1 hb with rfl | hb
      · simp
      · simp [low_mem hb hlt]
    | false =>
      rcases List.mem_cons.1 hb with rfl | hb
      · exfalso
        have := nble' (a := b.succ) (b := c) hx
        omega
      · simp [low_mem hb hlt]

theorem gaps_bound {c : Nat} : ∀ {l : List Nat} {lo : Nat}, ∀ p ∈ gaps c l lo, p.2 ≤ c
  | [], lo, p, hp => by simp [gaps] at hp; subst hp; exact Nat.le_refl _
  | b :: l, lo, p, hp => by
    unfold gaps at hp
    cases hb : Nat.ble b c with
    | true =>
      rw [hb] at hp
      rcases List.mem_cons.1 hp with rfl | hp
      · exact nble hb
      · exact gaps_bound p hp
    | false => rw [hb] at hp; simp at hp; subst hp; exact Nat.le_refl _

theorem singles_bound {c : Nat} {k : List (Nat × Nat)} (hk : ∀ p ∈ k, p.2 ≤ c) : ∀ {l : List Nat}, (∀ b ∈ l, b < c) → ∀ p ∈ singles l k, p.2 ≤ c
  | [], _, p, hp => hk p hp
  | b :: l, hl, p, hp => by
    rcases List.mem_cons.1 hp with rfl | hp
    · exact hl b (by simp)
    · exact singles_bound hk (fun x hx => hl x (by simp [hx])) p hp

theorem hides_bound {m c : Nat} {base : List (Nat × Nat)} (hb : ∀ p ∈ base, p.2 ≤ c) : ∀ {hist : List Rec}, (∀ q ∈ hist, q.post.c ≤ c ∧ ∀ b ∈ q.W, b < c) → ∀ p ∈ hides m base hist, p.2 ≤ c
  | [], _, p, hp => hb p hp
  | r :: rs, hh, p, hp => by
    have ih := hides_bound (m := m) hb (hist := rs) fun q hq => hh q (by simp [hq])
    unfold hides at hp
    cases hx : Nat.testBit m r.i with
    | true => rw [hx] at hp; exact ih p hp
    | false =>
      rw [hx] at hp
      rcases List.mem_cons.1 hp with rfl | hp
      · exact (hh r (by simp)).1
      · exact singles_bound ih (hh r (by simp)).2 p hp

theorem aparts_spec {m : Nat} {o : Oper} (hist : List Rec) (e : aparts all m o hist = true) (q : Rec) (hq : q ∈ hist) (hm : Nat.testBit m q.i = false) : apartE all q.o o = true := by
  induction hist with
  | nil => cases hq
  | cons r rs ih =>
    simp only [aparts] at e
    rcases List.mem_cons.1 hq with he | hq
    · rw [← he, hm] at e
      cases h : apartE all q.o o with
      | true => rfl
      | false => rw [h] at e; cases e
    · cases h : (cond (Nat.testBit m r.i) true (apartE all r.o o)) with
      | true => rw [h] at e; exact ih e hq
      | false => rw [h] at e; cases e

theorem unseen_spec {m : Nat} {W : List Nat} (hist : List Rec) (e : unseen m W hist = true) (q : Rec) (hq : q ∈ hist) (hm : Nat.testBit m q.i = false) : ∀ b ∈ W, q.pre.c ≤ b ∨ hidden q.pre.hid b = true := by
  induction hist with
  | nil => cases hq
  | cons r rs ih =>
    simp only [unseen] at e
    rcases List.mem_cons.1 hq with he | hq
    · rw [← he, hm] at e
      simp only [cond_false] at e
      cases h : allB (fun b => cond (Nat.ble q.pre.c b) true (hidden q.pre.hid b)) W with
      | false => rw [h] at e; cases e
      | true =>
        intro b hb
        have := allB_spec h b hb
        cases h2 : Nat.ble q.pre.c b with
        | true => exact .inl (nble h2)
        | false => rw [h2] at this; exact .inr this
    · cases h : (cond (Nat.testBit m r.i) true (allB (fun b => cond (Nat.ble r.pre.c b) true (hidden r.pre.hid b)) W)) with
      | true => rw [h] at e; exact ih e hq
      | false => rw [h] at e; cases e

theorem Chain.ran {t0 : T Value} {h0 : Hp} {rs : List Rec} {t : T Value} {h : Hp} (ch : Chain P tt call n all t0 h0 rs t h) : ∀ r ∈ rs, Ran P tt call n all h0 r ∧ r.post.c ≤ h.c ∧ h0.c ≤ r.pre.c ∧ r.i < rs.length := by
  have base : ∀ {rs : List Rec} {t : T Value} {h : Hp}, Chain P tt call n all t0 h0 rs t h → h0.c ≤ h.c := by
    intro rs t h ch
    induction ch with
    | nil => exact Nat.le_refl _
    | cons ch ran _ _ _ hc _ _ _ ih =>
      have := ran.c
      show h0.c ≤ _
      exact Nat.le_trans ih (by rw [← hc]; exact this)
  induction ch with
  | nil => intro r hr; cases hr
  | @cons rs t t' h q ch ran hi _ _ hc _ _ _ ih =>
    intro r hr
    have hc2 := ran.c
    rcases List.mem_cons.1 hr with rfl | hr
    · exact ⟨ran, Nat.le_refl _, by rw [hc]; exact base ch, by simp [hi]⟩
    · obtain ⟨a, b, c, d⟩ := ih r hr
      exact ⟨a, Nat.le_trans b (by rw [← hc]; exact hc2), c, by simp; omega⟩

theorem Chain.base {t0 : T Value} {h0 : Hp} {rs : List Rec} {t : T Value} {h : Hp} (ch : Chain P tt call n all t0 h0 rs t h) : h0.c ≤ h.c ∧ h.hid = h0.hid := by
  induction ch with
  | nil => exact ⟨Nat.le_refl _, rfl⟩
  | cons ch ran _ _ _ hc _ _ _ ih =>
    have := ran.c
    exact ⟨Nat.le_trans ih.1 (by rw [← hc]; exact this), rfl⟩

theorem pre_bound {t : T Value} {o : Oper} {m : Nat} {hist : List Rec} {h : Hp} {hid : List (Nat × Nat)} (hh : ∀ q ∈ hist, q.post.c ≤ h.c ∧ ∀ b ∈ q.W, b < h.c) (hb : ∀ p ∈ hid, p.2 ≤ h.c) :
    ∀ p ∈ (drawGo.preOf hid t o m hist h).hid, p.2 ≤ h.c := by
  intro p hp
  unfold drawGo.preOf at hp
  simp only at hp
  have h2 := hides_bound (m := m) hb hh
  split at hp
  · rcases List.mem_append.1 hp with hp | hp
    · exact gaps_bound p hp
    · exact h2 p hp
  · exact h2 p hp

theorem pre_hides {t : T Value} {o : Oper} {m : Nat} {hist : List Rec} {h : Hp} {hid : List (Nat × Nat)} {b : Nat} (hb : hidden (hides m hid hist) b = true) : hidden (drawGo.preOf hid t o m hist h).hid b = true := by
  unfold drawGo.preOf
  simp only
  split
  · rw [hidden_append]; exact .inr hb
  · exact hb

theorem go_chain {t0 : T Value} {h0 : Hp} : ∀ {r : List Oper} {hist : List Rec} {t : T Value} {h : Hp} {out : RR}, drawGo P tt call n all h0.hid r hist.length hist t h = some out → Chain P tt call n all t0 h0 hist t h →
    (∃ pre, all = pre ++ r ∧ pre.length = hist.length) → ∃ full tf hf, out = .ok tf hf ∧ Chain P tt call n all t0 h0 full tf hf ∧ full.length = all.length
  | [], hist, t, h, out, e, ch, ⟨pre, hall, hp⟩ => by
    cases e
    exact ⟨hist, t, h, rfl, ch, by rw [hall, List.append_nil, hp]⟩
  | o :: r, hist, t, h, out, e, ch, ⟨pre, hall, hp⟩ => by
    have hop : all[hist.length]? = some o := by rw [hall, ← hp]; simp
    have hall' : ∃ pre', all = pre' ++ r ∧ pre'.length = hist.length + 1 := ⟨pre ++ [o], by rw [hall]; simp, by simp [hp]⟩
    unfold drawGo at e
    split at e
    · cases e
    · rename_i m hm
      obtain ⟨hap, e⟩ := cond_some e
      have hmask := predMask_spec hm
      have hran := ch.ran
      have hwlt : ∀ q ∈ hist, q.post.c ≤ h.c ∧ ∀ b ∈ q.W, b < h.c := by
        intro q hq
        obtain ⟨a, b, c, d⟩ := hran q hq
        refine ⟨b, fun x hx => ?_⟩
        rw [a.W] at hx
        exact Nat.lt_of_lt_of_le (low_lt hx) (Nat.le_trans a.c b)
      have key : ∀ (v : Value) (post : Hp) (t' : T Value), h.c ≤ post.c → unseen m (low h.c post.wr) hist = true → put n t o.dst v = some t' →
          ((wantsE all t o = some true ∧ opE P tt call (aval t) o (drawGo.preOf h0.hid t o m hist h) = some (.val v post)) ∨ (wantsE all t o = some false ∧ v = undef ∧ post = drawGo.preOf h0.hid t o m hist h)) →
          Chain P tt call n all t0 h0 (⟨hist.length, o, m, t, drawGo.preOf h0.hid t o m hist h, v, post, low h.c post.wr⟩ :: hist) t' ⟨post.t, post.c, h0.hid, low h.c post.wr ++ h.wr⟩ := by
        intro v post t' hc hun hput hrun
        refine Chain.cons (r := ⟨hist.length, o, m, t, drawGo.preOf h0.hid t o m hist h, v, post, low h.c post.wr⟩) ch ⟨hop, fun b hb => pre_hides (hides_base hb), fun hb => pre_bound hwlt hb, rfl, rfl, hc, hrun⟩ rfl rfl rfl rfl ⟨?_, ?_⟩ ?_ hput
        · intro x hx hb
          exact hmask.1 x (by simpa using hx) hb
        · intro i hi
          obtain ⟨x, hx, r⟩ := hmask.2 i hi
          exact ⟨x, by simpa using hx, r⟩
        · intro q hq
          obtain ⟨a, b, c, d⟩ := hran q hq
          refine ⟨b, d, ?_⟩
          intro hbit
          obtain ⟨h1, h2⟩ := hides_spec (base := h0.hid) hist q hq hbit
          exact ⟨aparts_spec hist hap q hq hbit, fun b x y => pre_hides (h1 b x y), fun b hb => pre_hides (h2 b hb), unseen_spec hist hun q hq hbit⟩
      split at e
      · rename_i hw
        split at e
        · rename_i v h' hrun
          split at e
          · rename_i t' hput
            obtain ⟨hle, e⟩ := cond_some e
            obtain ⟨hun, e⟩ := cond_some e
            exact go_chain (hist := ⟨hist.length, o, m, t, drawGo.preOf h0.hid t o m hist h, v, h', low h.c h'.wr⟩ :: hist) e (key v h' t' (nble hle) hun hput (.inl ⟨hw, hrun⟩)) hall'
          · cases e
        · cases e
      · rename_i hw
        split at e
        · rename_i t' hput
          have hh : h.hid = h0.hid := ch.base.2
          have hnil : low h.c ([] : List Nat) = [] := rfl
          have := key undef (drawGo.preOf h0.hid t o m hist h) t' (Nat.le_refl _) (by
            have : ∀ l : List Rec, unseen m [] l = true := by
              intro l
              induction l with
              | nil => rfl
              | cons q l ih =>
                unfold unseen
                cases Nat.testBit m q.i <;> simpa [allB] using ih
            exact this hist) hput (.inr ⟨hw, rfl, rfl⟩)
          have hch : Chain P tt call n all t0 h0 (⟨hist.length, o, m, t, drawGo.preOf h0.hid t o m hist h, undef, drawGo.preOf h0.hid t o m hist h, []⟩ :: hist) t' h := by
            have e2 : (⟨(drawGo.preOf h0.hid t o m hist h).t, (drawGo.preOf h0.hid t o m hist h).c, h0.hid, low h.c (drawGo.preOf h0.hid t o m hist h).wr ++ h.wr⟩ : Hp) = h := by
              obtain ⟨ht, hc, hhid, hwr⟩ := h
              simp only at hh
              subst hh
              rfl
            rw [e2] at this
            exact this
          exact go_chain (hist := ⟨hist.length, o, m, t, drawGo.preOf h0.hid t o m hist h, undef, drawGo.preOf h0.hid t o m hist h, []⟩ :: hist) e hch hall'
        · cases e
      · cases e

end
end Go.Ev
