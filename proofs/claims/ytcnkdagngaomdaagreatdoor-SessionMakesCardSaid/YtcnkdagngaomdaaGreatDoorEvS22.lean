/-
  SOUNDNESS, TWENTY-SECOND PART: the heap and the variables behind any set of a drawing region's operations.
-/
import Derived.Test.YtcnkdagngaomdaaGreatDoorEvS21
namespace Go.Ev
open Go Go.RowKit

open Classical in
/-- What one operation has laid or changed. -/
noncomputable def D (r : Rec) (b : Nat) : Option Blk := if b ∈ r.W ∨ r.pre.c ≤ b then r.post.get b else none

open Classical in
noncomputable def FE (F : FH) (E : Nat → Bool) : List Rec → FH
  | [] => F
  | r :: rs => fun b => if E r.i = true then (match D r b with | some x => some x | none => FE F E rs b) else FE F E rs b

noncomputable def TE (t0 : T Value) (E : Nat → Bool) : List Rec → Nat → Option Value
  | [] => fun d => t0.get d
  | r :: rs => fun d => if E r.i = true ∧ r.o.dst = some d then some r.v else TE t0 E rs d

def with1 (E : Nat → Bool) (j : Nat) : Nat → Bool := fun i => if i = j then true else E i
def full : Nat → Bool := fun _ => true

section
variable {P : Program} {tt : T TI} {call : CallF} {n : Nat} {all : List Oper} {t0 : T Value} {h0 : Hp} {F : FH}

theorem D_some {r : Rec} {b : Nat} {x : Blk} (h : D r b = some x) : (b ∈ r.W ∨ r.pre.c ≤ b) ∧ r.post.get b = some x := by
  unfold D at h
  split at h
  · rename_i hc; exact ⟨hc, h⟩
  · cases h

theorem D_none {r : Rec} {b : Nat} (h : D r b = none) : ¬ (b ∈ r.W ∨ r.pre.c ≤ b) ∨ r.post.get b = none := by
  unfold D at h
  split at h
  · exact .inr h
  · rename_i hc; exact .inl hc

theorem FE_append (E : Nat → Bool) (la rs : List Rec) : FE F E (la ++ rs) = FE (FE F E rs) E la := by
  induction la with
  | nil => rfl
  | cons r la ih => simp only [List.cons_append, FE, ih]; rfl

theorem FE_skip {E : Nat → Bool} {X : FH} {b : Nat} {la : List Rec} (h : ∀ r ∈ la, E r.i = true → D r b = none) : FE X E la b = X b := by
  induction la with
  | nil => rfl
  | cons r la ih =>
    have ih := ih fun q hq => h q (by simp [hq])
    simp only [FE]
    split
    · rename_i he
      rw [h r (by simp) he]
      exact ih
    · exact ih

theorem FE_congr {E : Nat → Bool} {X Y : FH} {b : Nat} (h : X b = Y b) {la : List Rec} : FE X E la b = FE Y E la b := by
  induction la with
  | nil => exact h
  | cons r la ih =>
    simp only [FE]
    rw [ih]

theorem FE_E {E E' : Nat → Bool} {la : List Rec} (h : ∀ r ∈ la, E r.i = E' r.i) : FE F E la = FE F E' la := by
  induction la with
  | nil => rfl
  | cons r la ih =>
    funext b
    simp only [FE]
    rw [h r (by simp), ih fun q hq => h q (by simp [hq])]

/-- Two sets of operations that differ only where nothing is done to a block. -/
theorem FE_at {E E' : Nat → Bool} {b : Nat} {la : List Rec} (h : ∀ r ∈ la, E r.i = E' r.i ∨ D r b = none) : FE F E la b = FE F E' la b := by
  induction la with
  | nil => rfl
  | cons r la ih =>
    have ih := ih fun q hq => h q (by simp [hq])
    simp only [FE]
    rcases h r (by simp) with h1 | h1
    · rw [h1, ih]
    · simp only [h1, ih, ite_self]

theorem TE_append (E : Nat → Bool) (d : Nat) (la rs : List Rec) (h : ∀ r ∈ la, E r.i = true → r.o.dst ≠ some d) : TE t0 E (la ++ rs) d = TE t0 E rs d := by
  induction la with
  | nil => rfl
  | cons r la ih =>
    simp only [List.cons_append, TE]
    rw [if_neg (fun x => h r (by simp) x.1 x.2)]
    exact ih fun q hq => h q (by simp [hq])

theorem TE_at {E E' : Nat → Bool} {d : Nat} {la : List Rec} (h : ∀ r ∈ la, E r.i = E' r.i ∨ r.o.dst ≠ some d) : TE t0 E la d = TE t0 E' la d := by
  induction la with
  | nil => rfl
  | cons r la ih =>
    have ih := ih fun q hq => h q (by simp [hq])
    simp only [TE]
    rcases h r (by simp) with h1 | h1
    · rw [h1, ih]
    · rw [if_neg (fun x => h1 x.2), if_neg (fun x => h1 x.2)]
      exact ih

theorem get_vis {h : Hp} {b : Nat} (v : hidden h.hid b = false) : h.get b = h.t.get b := by unfold Hp.get; rw [v]; rfl
theorem get_hid {h : Hp} {b : Nat} (v : hidden h.hid b = true) : h.get b = none := by unfold Hp.get; rw [v]; rfl
theorem get_some {h : Hp} {b : Nat} {x : Blk} (e : h.get b = some x) : hidden h.hid b = false ∧ h.t.get b = some x := by
  cases v : hidden h.hid b with
  | true => rw [get_hid v] at e; cases e
  | false => rw [get_vis v] at e; exact ⟨rfl, e⟩
theorem get_ne {h : Hp} {b : Nat} (e : h.get b ≠ none) : hidden h.hid b = false ∧ h.t.get b ≠ none := by
  cases v : hidden h.hid b with
  | true => rw [get_hid v] at e; exact absurd rfl e
  | false => rw [get_vis v] at e; exact ⟨rfl, e⟩

/-- Of an operation's step, as it is seen from outside. -/
theorem Step.unhide {g pre post : Hp} {ex : List Nat} (s : Step pre post) (ok : HpOk pre) (ht : pre.t = g.t) (hc : pre.c = g.c) (hwr : pre.wr = []) (hh : ∀ b, hidden g.hid b = true → hidden pre.hid b = true) (hg : ∀ p ∈ g.hid, p.2 ≤ g.c)
    (hex : ex = low pre.c post.wr) : Step g ⟨post.t, post.c, g.hid, ex ++ g.wr⟩ where
  c := by rw [← hc]; exact s.c
  hid := rfl
  ok := ⟨fun p hp => Nat.le_trans (hg p hp) (by rw [← hc]; exact s.c), s.ok.low, s.ok.lim⟩
  dom := by
    intro b hb
    obtain ⟨v, t⟩ := get_ne hb
    rw [get_vis (h := ⟨post.t, post.c, g.hid, ex ++ g.wr⟩) v]
    cases hv : hidden pre.hid b with
    | true => show post.t.get b ≠ none; rw [s.raw b hv, ht]; exact t
    | false =>
      have h1 : pre.get b ≠ none := by rw [get_vis hv, ht]; exact t
      exact (get_ne (s.dom b h1)).2
  new := by
    intro b h1 h2
    obtain ⟨v, t⟩ := get_ne h2
    have v' : hidden g.hid b = false := v
    rw [get_vis v'] at h1
    rw [← hc]
    cases hv : hidden pre.hid b with
    | true => exfalso; apply t; show post.t.get b = none; rw [s.raw b hv, ht]; exact h1
    | false =>
      refine s.new b (by rw [get_vis hv, ht]; exact h1) ?_
      rw [get_vis (by rw [s.hid]; exact hv)]; exact t
  wr := by
    refine ⟨ex, rfl, ?_⟩
    intro b hb hn
    obtain ⟨v, t⟩ := get_ne hb
    rw [get_vis (h := ⟨post.t, post.c, g.hid, ex ++ g.wr⟩) v, get_vis v]
    show post.t.get b = g.t.get b
    cases hv : hidden pre.hid b with
    | true => rw [s.raw b hv, ht]
    | false =>
      have h1 : pre.get b ≠ none := by rw [get_vis hv, ht]; exact t
      obtain ⟨ex', hw, hk⟩ := s.wr
      rw [hwr, List.append_nil] at hw
      have hlt : b < pre.c := by
        cases e : pre.t.get b with
        | none => rw [ht] at e; exact absurd e t
        | some y => exact ok.low b y e
      have h2 := hk b h1 (fun hm => hn (by rw [hex, hw]; exact low_mem hm hlt))
      rw [get_vis hv, get_vis (by rw [s.hid]; exact hv)] at h2
      rw [h2, ht]
  raw := by
    intro b hb
    show post.t.get b = g.t.get b
    rw [s.raw b (hh b hb), ht]

/-- Every operation's step is known. -/
def Steps1 (rs : List Rec) : Prop := ∀ r ∈ rs, Step r.pre r.post

theorem Chain.hp (ok0 : HpOk h0) {rs : List Rec} {t : T Value} {g : Hp} (ch : Chain P tt call n all t0 h0 rs t g) (ss : Steps1 rs) : HpOk g ∧ Step h0 g ∧ (∀ r ∈ rs, HpOk r.pre) := by
  induction ch with
  | nil => exact ⟨ok0, Step.refl ok0, by simp⟩
  | @cons rs t t' h r ch ran hi ht hpt hc _ _ _ ih =>
    obtain ⟨a, b, c⟩ := ih (fun q hq => ss q (by simp [hq]))
    have hh := ch.base.2
    have okp : HpOk r.pre := ⟨ran.bound (by rw [hc, ← hh]; exact a.hid), by rw [hpt, hc]; exact a.low, by rw [hc]; exact a.lim⟩
    have st : Step h ⟨r.post.t, r.post.c, h.hid, r.W ++ h.wr⟩ := Step.unhide (ss r (by simp)) okp hpt hc ran.wr (fun b hb => ran.hid b (by rw [← hh]; exact hb)) a.hid ran.W
    rw [hh] at st
    refine ⟨st.ok, b.trans st, ?_⟩
    intro q hq
    rcases List.mem_cons.1 hq with rfl | hq
    · exact okp
    · exact c q hq

/-- The chain's heap, in the heap behind all of its operations. -/
theorem Chain.sub (ok0 : HpOk h0) (sb : Sub h0 F) {rs : List Rec} {t : T Value} {g : Hp} (ch : Chain P tt call n all t0 h0 rs t g) (ss : Steps1 rs) : Sub g (FE F full rs) := by
  induction ch with
  | nil => exact sb
  | @cons rs t t' h r ch ran hi ht hpt hc _ _ _ ih =>
    have ss' : Steps1 rs := fun q hq => ss q (by simp [hq])
    have ih := ih ss'
    have hh := ch.base.2
    have st := ss r (by simp)
    obtain ⟨okh, _, _⟩ := ch.hp ok0 ss'
    have okp : HpOk r.pre := ⟨ran.bound (by rw [hc, ← hh]; exact okh.hid), by rw [hpt, hc]; exact okh.low, by rw [hc]; exact okh.lim⟩
    intro b x e
    obtain ⟨v, hx⟩ := get_some e
    simp only at v hx
    simp only [FE, full, if_true]
    cases hv : hidden r.pre.hid b with
    | true =>
      rw [st.raw b hv, hpt] at hx
      have h1 : h.get b = some x := by rw [get_vis (by rw [hh]; exact v)]; exact hx
      have hd : D r b = none := by
        cases hd : D r b with
        | none => rfl
        | some y =>
          have := (D_some hd).2
          rw [get_hid (by rw [st.hid]; exact hv)] at this
          cases this
      rw [hd]
      exact ih b x h1
    | false =>
      have hp : r.post.get b = some x := by rw [get_vis (by rw [st.hid]; exact hv)]; exact hx
      cases hd : D r b with
      | some y =>
        have := (D_some hd).2
        rw [hp] at this
        exact this.symm
      | none =>
        rcases D_none hd with h1 | h1
        · have hnb : b ∉ r.W := fun hb => h1 (.inl hb)
          have hlt : b < r.pre.c := Nat.lt_of_not_le fun hb => h1 (.inr hb)
          have hne : r.pre.get b ≠ none := by
            intro hn
            have := st.new b hn (by rw [hp]; simp)
            omega
          obtain ⟨ex, hw, hk⟩ := st.wr
          rw [ran.wr, List.append_nil] at hw
          have h2 := hk b hne (fun hm => hnb (by rw [ran.W, hw]; exact low_mem hm hlt))
          rw [hp] at h2
          obtain ⟨_, h3⟩ := get_some h2.symm
          rw [hpt] at h3
          exact ih b x (by rw [get_vis (by rw [hh]; exact v)]; exact h3)
        · rw [hp] at h1; cases h1

/-- What an operation has laid or changed is seen behind all of them. -/
theorem Chain.seen (ok0 : HpOk h0) {rs : List Rec} {t : T Value} {g : Hp} (ch : Chain P tt call n all t0 h0 rs t g) (ss : Steps1 rs) : ∀ r ∈ rs, ∀ b x, D r b = some x → g.get b ≠ none := by
  induction ch with
  | nil => intro r hr; cases hr
  | @cons rs t t' h r ch ran hi ht hpt hc hm hpr hput ih =>
    have ss' : Steps1 rs := fun q hq => ss q (by simp [hq])
    have hh := ch.base.2
    have st := ss r (by simp)
    obtain ⟨okh, _, _⟩ := ch.hp ok0 ss'
    have okp : HpOk r.pre := ⟨ran.bound (by rw [hc, ← hh]; exact okh.hid), by rw [hpt, hc]; exact okh.low, by rw [hc]; exact okh.lim⟩
    have st2 : Step h ⟨r.post.t, r.post.c, h.hid, r.W ++ h.wr⟩ := Step.unhide st okp hpt hc ran.wr (fun b hb => ran.hid b (by rw [← hh]; exact hb)) okh.hid ran.W
    rw [hh] at st2
    intro q hq b x hd
    rcases List.mem_cons.1 hq with he | hq
    · rw [he] at hd
      have h1 := (D_some hd).2
      obtain ⟨v, h2⟩ := get_some h1
      have v2 : hidden h0.hid b = false := by
        cases hv : hidden h0.hid b with
        | false => rfl
        | true => have := ran.hid b hv; rw [st.hid] at v; rw [this] at v; cases v
      rw [get_vis (h := ⟨r.post.t, r.post.c, h0.hid, r.W ++ h.wr⟩) v2]
      show r.post.t.get b ≠ none
      rw [h2]; simp
    · exact st2.dom b (ih ss' q hq b x hd)

/-- The chain's variables. -/
theorem Chain.tmps (hn : n ≤ 1000000) {rs : List Rec} {t : T Value} {g : Hp} (ch : Chain P tt call n all t0 h0 rs t g) : ∀ d, t.get d = TE t0 full rs d := by
  induction ch with
  | nil => intro d; rfl
  | @cons rs t t' h r ch ran hi ht hpt hc hm hpr hput ih =>
    intro d
    simp only [TE, full, true_and]
    unfold put at hput
    cases hd : r.o.dst with
    | none =>
      rw [hd] at hput
      cases hput
      simp only [reduceCtorEq, if_false]
      exact ih d
    | some i =>
      rw [hd] at hput
      obtain ⟨hlt, e⟩ := cond_some hput
      cases e
      have hi := nblt hlt
      rw [set40 (by omega)]
      by_cases he : d = i
      · subst he; simp
      · rw [if_neg he, if_neg (by simpa using Ne.symm he)]
        exact ih d

end
end Go.Ev
