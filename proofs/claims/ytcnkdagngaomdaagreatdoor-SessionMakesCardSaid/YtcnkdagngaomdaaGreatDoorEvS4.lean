/-
  SOUNDNESS, FOURTH PART: steps of the abstract heap.
-/
import Derived.Test.YtcnkdagngaomdaaGreatDoorEvS3
namespace Go.Ev
open Go Go.RowKit

/-- The abstract heap is in order. -/
structure HpOk (h : Hp) : Prop where
  hid : ∀ p ∈ h.hid, p.2 ≤ h.c
  low : ∀ b x, h.t.get b = some x → b < h.c
  lim : h.c ≤ 1000000001

theorem hidden_lt : ∀ {l : List (Nat × Nat)} {c k : Nat}, (∀ p ∈ l, p.2 ≤ c) → c ≤ k → hidden l k = false
  | [], _, _, _, _ => rfl
  | (a, b) :: r, c, k, h, hk => by
    have hb : b ≤ c := h (a, b) (by simp)
    have hr : hidden r k = false := hidden_lt (fun p hp => h p (by simp [hp])) hk
    have hn : Nat.blt k b = false := by
      cases e : Nat.blt k b with
      | false => rfl
      | true => have := nblt e; omega
    simp only [hidden, hn, hr, Bool.cond_self, cond_false]

theorem pow40 : (2 : Nat) ^ 40 = 1099511627776 := by decide

theorem set40 {α : Type} {t : T α} {k : Nat} {x : α} (h : k ≤ 1000000001) (k' : Nat) : (t.set 40 k x).get k' = if k' = k then some x else t.get k' :=
  T.set_get 40 t k x k' (by rw [pow40]; omega)

/-- From one abstract heap to a later one. -/
structure Step (h h' : Hp) : Prop where
  c : h.c ≤ h'.c
  hid : h'.hid = h.hid
  ok : HpOk h'
  dom : ∀ b, h.get b ≠ none → h'.get b ≠ none
  new : ∀ b, h.get b = none → h'.get b ≠ none → h.c ≤ b ∧ b < h'.c
  wr : ∃ ex, h'.wr = ex ++ h.wr ∧ ∀ b, h.get b ≠ none → b ∉ ex → h'.get b = h.get b
  raw : ∀ b, hidden h.hid b = true → h'.t.get b = h.t.get b

theorem Step.refl {h : Hp} (ok : HpOk h) : Step h h := ⟨Nat.le_refl _, rfl, ok, fun _ x => x, fun _ a b => absurd a b, ⟨[], rfl, fun _ _ _ => rfl⟩, fun _ _ => rfl⟩

theorem Step.trans {h h1 h2 : Hp} (s : Step h h1) (u : Step h1 h2) : Step h h2 where
  c := Nat.le_trans s.c u.c
  hid := u.hid.trans s.hid
  ok := u.ok
  dom := fun b hb => u.dom b (s.dom b hb)
  new := by
    intro b h0 h2'
    by_cases e : h1.get b = none
    · have := u.new b e h2'; exact ⟨Nat.le_trans s.c this.1, this.2⟩
    · have := s.new b h0 e; exact ⟨this.1, Nat.lt_of_lt_of_le this.2 u.c⟩
  wr := by
    obtain ⟨e1, w1, k1⟩ := s.wr
    obtain ⟨e2, w2, k2⟩ := u.wr
    refine ⟨e2 ++ e1, by rw [w2, w1, List.append_assoc], ?_⟩
    intro b hb hn
    rw [k2 b (s.dom b hb) (fun x => hn (by simp [x])), k1 b hb (fun x => hn (by simp [x]))]
  raw := fun b hb => by rw [u.raw b (by rw [s.hid]; exact hb), s.raw b hb]

theorem Hp.get_put {h : Hp} (ok : HpOk h) {b : Nat} {x : Blk} (hb : h.get b ≠ none) (k : Nat) : (h.put b x).get k = if k = b then some x else h.get k := by
  have hv : hidden h.hid b = false := by
    cases e : hidden h.hid b with
    | false => rfl
    | true => simp [Hp.get, e] at hb
  have ht : h.t.get b ≠ none := by simpa [Hp.get, hv] using hb
  have hlow : b < h.c := by
    cases e : h.t.get b with
    | none => exact absurd e ht
    | some y => exact ok.low b y e
  have hlim := ok.lim
  show cond (hidden h.hid k) none ((h.t.set 40 b x).get k) = _
  rw [set40 (by omega)]
  by_cases e : k = b
  · subst e; rw [hv, if_pos rfl, if_pos rfl]; rfl
  · rw [if_neg e, if_neg e]; rfl

theorem Step.put {h : Hp} (ok : HpOk h) {b : Nat} {x : Blk} (hb : h.get b ≠ none) : Step h (h.put b x) where
  c := Nat.le_refl _
  hid := rfl
  ok := by
    have ht : h.t.get b ≠ none := by
      intro e; apply hb; unfold Hp.get; rw [e]; cases hidden h.hid b <;> rfl
    have hlow : b < h.c := by
      cases e : h.t.get b with
      | none => exact absurd e ht
      | some y => exact ok.low b y e
    have hlim := ok.lim
    refine ⟨ok.hid, ?_, ok.lim⟩
    intro k y hk
    change (h.t.set 40 b x).get k = some y at hk
    rw [set40 (by omega)] at hk
    by_cases e : k = b
    · subst e; exact hlow
    · rw [if_neg e] at hk; exact ok.low k y hk
  dom := by
    intro k hk
    rw [Hp.get_put ok hb]
    by_cases e : k = b
    · rw [if_pos e]; simp
    · rw [if_neg e]; exact hk
  new := by
    intro k h0 h1
    rw [Hp.get_put ok hb] at h1
    by_cases e : k = b
    · subst e; exact absurd h0 hb
    · rw [if_neg e] at h1; exact absurd h0 h1
  wr := by
    refine ⟨[b], rfl, ?_⟩
    intro k hk hn
    rw [Hp.get_put ok hb, if_neg (by simpa using hn)]
  raw := by
    intro k hk
    have ht : h.t.get b ≠ none := by
      intro e; apply hb; unfold Hp.get; rw [e]; cases hidden h.hid b <;> rfl
    have hlow : b < h.c := by
      cases e : h.t.get b with
      | none => exact absurd e ht
      | some y => exact ok.low b y e
    have hlim := ok.lim
    show (h.t.set 40 b x).get k = _
    rw [set40 (by omega), if_neg]
    rintro rfl
    apply hb
    unfold Hp.get
    rw [hk]
    rfl

theorem Hp.new_spec {h : Hp} (ok : HpOk h) {x : Blk} {id : Nat} {h' : Hp} (e : h.new x = some (id, h')) :
    id = h.c ∧ h'.c = h.c + 1 ∧ h'.hid = h.hid ∧ h'.wr = h.wr ∧ (∀ k, h'.get k = if k = id then some x else h.get k) ∧ h.get id = none ∧ HpOk h' := by
  unfold Hp.new at e
  obtain ⟨hle, e⟩ := cond_some e
  have hle' := nble hle
  cases e
  refine ⟨rfl, rfl, rfl, rfl, ?_, ?_, ?_⟩
  · intro k
    show cond (hidden h.hid k) none ((h.t.set 40 h.c x).get k) = _
    rw [set40 (by omega)]
    by_cases e : k = h.c
    · subst e; rw [hidden_lt ok.hid (Nat.le_refl _), if_pos rfl, if_pos rfl]; rfl
    · rw [if_neg e, if_neg e]; rfl
  · unfold Hp.get
    rw [hidden_lt ok.hid (Nat.le_refl _)]
    cases e : h.t.get h.c with
    | none => rfl
    | some y => have := ok.low _ _ e; omega
  · refine ⟨fun p hp => Nat.le_succ_of_le (ok.hid p hp), ?_, by show h.c + 1 ≤ _; omega⟩
    intro k y hk
    change (h.t.set 40 h.c x).get k = some y at hk
    rw [set40 (by omega)] at hk
    show k < h.c + 1
    by_cases e : k = h.c
    · omega
    · rw [if_neg e] at hk; have := ok.low k y hk; omega

theorem Step.ofNew {h : Hp} (ok : HpOk h) {x : Blk} {id : Nat} {h' : Hp} (e : h.new x = some (id, h')) : Step h h' := by
  obtain ⟨hid, hc, hh, hw, hg, hn, ok'⟩ := Hp.new_spec ok e
  refine ⟨by omega, hh, ok', ?_, ?_, ⟨[], by simpa using hw, ?_⟩, ?_⟩
  · intro k hk
    rw [hg]
    by_cases e : k = id
    · rw [if_pos e]; simp
    · rw [if_neg e]; exact hk
  · intro k h0 h1
    rw [hg] at h1
    by_cases e : k = id
    · omega
    · rw [if_neg e] at h1; exact absurd h0 h1
  · intro k hk _
    rw [hg, if_neg]
    rintro rfl
    exact hk hn
  · intro k hk
    unfold Hp.new at e
    obtain ⟨hle, e⟩ := cond_some e
    cases e
    have hlim := ok.lim
    show (h.t.set 40 h.c x).get k = _
    rw [set40 (by omega), if_neg]
    rintro rfl
    rw [hidden_lt ok.hid (Nat.le_refl _)] at hk
    cases hk

def Sub (h : Hp) (F : FH) : Prop := ∀ b x, h.get b = some x → F b = some x
noncomputable def ovr (F : FH) (h : Hp) : FH := fun b => match h.get b with | some x => some x | none => F b
def Fresh (μ : Mu) (F : FH) (lo hi : Nat) : Prop := ∀ b, lo ≤ b → b < hi → μ b = none ∧ F b = none
def Ext (μ μ' : Mu) (lo hi : Nat) : Prop := μ.le μ' ∧ ∀ b, (b < lo ∨ hi ≤ b) → μ' b = μ b

theorem ovr_sub (F : FH) (h : Hp) : Sub h (ovr F h) := by intro b x e; simp [ovr, e]
theorem ovr_same {F : FH} {h : Hp} (s : Sub h F) : ovr F h = F := by
  funext b
  unfold ovr
  cases e : h.get b with
  | none => rfl
  | some x => simp only; exact (s b x e).symm
theorem ovr_ovr {F : FH} {h h' : Hp} (s : Step h h') : ovr (ovr F h) h' = ovr F h' := by
  funext b
  unfold ovr
  cases e : h'.get b with
  | some x => rfl
  | none =>
    cases e' : h.get b with
    | none => rfl
    | some x => exact absurd e (s.dom b (by simp [e']))

theorem Ext.refl (μ : Mu) (lo hi : Nat) : Ext μ μ lo hi := ⟨Mu.le_refl _, fun _ _ => rfl⟩
theorem Ext.trans {a b c : Mu} {l m n : Nat} (h : Ext a b l m) (k : Ext b c m n) (hlm : l ≤ m) (hmn : m ≤ n) : Ext a c l n :=
  ⟨Mu.le_trans h.1 k.1, fun x hx => by rw [k.2 x (by omega), h.2 x (by omega)]⟩

/-- What is fresh for a later part, behind an earlier one. -/
theorem Fresh.later {μ μ' : Mu} {F : FH} {h h' : Hp} {hi : Nat} (f : Fresh μ F h.c hi) (e : Ext μ μ' h.c h'.c) (s : Step h h') : Fresh μ' (ovr F h') h'.c hi := by
  intro b hb hlt
  have := f b (Nat.le_trans s.c hb) hlt
  refine ⟨by rw [e.2 b (by omega)]; exact this.1, ?_⟩
  unfold ovr
  cases g : h'.get b with
  | none => exact this.2
  | some x =>
    exfalso
    have hl : b < h'.c := by
      have ht : h'.t.get b = some x := by
        unfold Hp.get at g; cases hd : hidden h'.hid b <;> rw [hd] at g
        · exact g
        · cases g
      exact s.ok.low b x ht
    omega
theorem Fresh.less {μ : Mu} {F : FH} {l h h' : Nat} (f : Fresh μ F l h) (k : h' ≤ h) : Fresh μ F l h' := fun b a c => f b a (Nat.lt_of_lt_of_le c k)

/-- Program-level variables stand for themselves. -/
def GL (ng : Nat) (μ : Mu) : Prop := ∀ g, g < ng → ∃ i, μ g = some i ∧ i.cb = g ∧ i.co = 0
theorem GL.mono {ng : Nat} {μ μ' : Mu} (h : GL ng μ) (k : μ.le μ') : GL ng μ' := fun g hg => let ⟨i, a, b⟩ := h g hg; ⟨i, k _ _ a, b⟩

section
variable {μ : Mu} {tok : Nat → Value} {B0 : Nat} {w0 w : World} {F : FH} {h : Hp}

/-- The abstract heap has gone on, and a world with it. -/
structure Good (μ : Mu) (tok : Nat → Value) (B0 : Nat) (w0 : World) (F : FH) (h h' : Hp) (μ' : Mu) (w' : World) : Prop where
  step : Step h h'
  ext : Ext μ μ' h.c h'.c
  hr : HR μ' tok B0 w0 (ovr F h') w'

theorem Good.same (ok : HpOk h) (s : Sub h F) (r : HR μ tok B0 w0 F w) : Good μ tok B0 w0 F h h μ w :=
  ⟨Step.refl ok, Ext.refl _ _ _, by rw [ovr_same s]; exact r⟩

theorem Good.put (ok : HpOk h) (s : Sub h F) (r : HR μ tok B0 w0 F w) {b : Nat} {x y : Blk} {i : Bi} {o : Obj} (hy : h.get b = some y) (hd : y ≠ .dead) (hi : μ b = some i) (hB : B0 ≤ i.cb)
    (hx : x ≠ .dead → BR μ tok B0 i o x) : Good μ tok B0 w0 F h (h.put b x) μ (setBlk w i.cb o) := by
  have hb : h.get b ≠ none := by rw [hy]; simp
  refine ⟨Step.put ok hb, Ext.refl _ _ _, (r.change ⟨y, s b y hy, hd⟩ hi hB hx).ext ?_⟩
  intro k
  unfold ovr
  rw [Hp.get_put ok hb]
  by_cases e : k = b
  · subst e; rw [if_pos rfl, FH.upd_same]
  · rw [if_neg e, FH.upd_other _ _ e]
    cases g : h.get k with
    | none => rfl
    | some z => exact (s k z g).symm

theorem Good.new (ok : HpOk h) (s : Sub h F) (r : HR μ tok B0 w0 F w) {x : Blk} {id : Nat} {h' : Hp} (e : h.new x = some (id, h')) (f : Fresh μ F h.c h'.c) {i : Bi} {o : Obj} (hi : i.cb = w.heap.size)
    (hx : BR (μ.upd id i) tok B0 i o x) : Good μ tok B0 w0 F h h' (μ.upd id i) (w.alloc o) := by
  obtain ⟨hid, hc, hh, hw, hg, hn, ok'⟩ := Hp.new_spec ok e
  have hf := f id (by omega) (by omega)
  refine ⟨Step.ofNew ok e, ⟨Mu.le_upd i hf.1, fun b hb => Mu.upd_other _ _ (by omega)⟩, (r.new hf.2 hf.1 hi hx).ext ?_⟩
  intro k
  unfold ovr
  rw [hg]
  by_cases e : k = id
  · subst e; rw [if_pos rfl, FH.upd_same]
  · rw [if_neg e, FH.upd_other _ _ e]
    cases g : h.get k with
    | none => rfl
    | some z => exact (s k z g).symm

theorem Good.trans {μ1 μ2 : Mu} {h1 h2 : Hp} {w1 w2 : World} (a : Good μ tok B0 w0 F h h1 μ1 w1) (b : Good μ1 tok B0 w0 (ovr F h1) h1 h2 μ2 w2) : Good μ tok B0 w0 F h h2 μ2 w2 :=
  ⟨a.step.trans b.step, a.ext.trans b.ext a.step.c b.step.c, by rw [← ovr_ovr b.step]; exact b.hr⟩

end
end Go.Ev
