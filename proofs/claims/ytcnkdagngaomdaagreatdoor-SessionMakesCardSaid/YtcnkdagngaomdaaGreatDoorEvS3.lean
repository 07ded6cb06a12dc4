/-
  SOUNDNESS, THIRD PART: the abstract heap and a world.
-/
import Derived.Test.YtcnkdagngaomdaaGreatDoorEvS2
import Derived.Laws.Sem
import Derived.Laws.Cells
import Derived.Laws.World
namespace Go.Ev
open Go Go.RowKit

/-- Entries of maps: the same keys and stamps, related values. -/
inductive RE (μ : Mu) (tok : Nat → Value) : List MapEntry → List MapEntry → Prop
  | nil : RE μ tok [] []
  | cons {k v v' : Value} {n : Nat} {l l' : List MapEntry} : Ev.flat1 k = true → RV μ tok v v' → RE μ tok l l' → RE μ tok (⟨k, v, n⟩ :: l) (⟨k, v', n⟩ :: l')

theorem RE.mono {μ μ' : Mu} {tok : Nat → Value} (h : μ.le μ') {l l' : List MapEntry} (k : RE μ tok l l') : RE μ' tok l l' := by
  induction k with
  | nil => exact .nil
  | cons f v _ ih => exact .cons f (v.mono h) ih

def MR (μ : Mu) : Option Nat → Option Nat → Prop
  | none, m' => m' = none
  | some r, m' => ∃ j, μ r = some j ∧ m' = some j.cb

/-- How a block stands to the world's object at its place. -/
def BR (μ : Mu) (tok : Nat → Value) (B0 : Nat) (i : Bi) (o : Obj) : Blk → Prop
  | .cells c _ ro => ∃ E fz pre c' suf, o = .cells ⟨pre ++ (c' ++ suf)⟩ E fz ∧ pre.length = i.co ∧ RL μ tok c c' ∧ i.L = c.length ∧ i.CS = pre.length + (c'.length + suf.length) ∧
      (ro = false → B0 ≤ i.cb ∧ ∀ off, off < i.CS → ¬ (fz.1 ≤ off ∧ off < fz.2))
  | .map es clk => B0 ≤ i.cb ∧ ∃ es', o = .map ⟨es'⟩ clk ∧ RE μ tok es es'
  | .iter m since seen last => B0 ≤ i.cb ∧ i.co = 0 ∧ ∃ m', o = .mapIter m' since ⟨seen⟩ last ∧ MR μ m m'
  | .box0 v => B0 ≤ i.cb ∧ i.co = 0 ∧ ∃ E fz v', o = .cells ⟨[v']⟩ E fz ∧ RV μ tok v v'
  | .dead => True

theorem MR.mono {μ μ' : Mu} (h : μ.le μ') {m m' : Option Nat} (k : MR μ m m') : MR μ' m m' := by
  cases m with
  | none => exact k
  | some r => obtain ⟨j, a, b⟩ := k; exact ⟨j, h _ _ a, b⟩

theorem BR.mono {μ μ' : Mu} {tok : Nat → Value} {B0 : Nat} (h : μ.le μ') {i : Bi} {o : Obj} {x : Blk} (k : BR μ tok B0 i o x) : BR μ' tok B0 i o x := by
  cases x with
  | cells c sz ro => obtain ⟨E, fz, pre, c', suf, a, b, r, d⟩ := k; exact ⟨E, fz, pre, c', suf, a, b, r.mono h, d⟩
  | map es clk => obtain ⟨a, es', e, r⟩ := k; exact ⟨a, es', e, r.mono h⟩
  | iter m since seen last => obtain ⟨a, z, m', e, r⟩ := k; exact ⟨a, z, m', e, r.mono h⟩
  | box0 v => obtain ⟨a, z, E, fz, v', e, r⟩ := k; exact ⟨a, z, E, fz, v', e, r.mono h⟩
  | dead => trivial

def FH := Nat → Option Blk
def FH.upd (F : FH) (b : Nat) (x : Blk) : FH := fun k => if k = b then some x else F k
def FH.live (F : FH) (b : Nat) : Prop := ∃ x, F b = some x ∧ x ≠ .dead
def Mu.upd (μ : Mu) (b : Nat) (i : Bi) : Mu := fun k => if k = b then some i else μ k

theorem FH.upd_same (F : FH) (b : Nat) (x : Blk) : F.upd b x b = some x := by simp [FH.upd]
theorem FH.upd_other (F : FH) {b k : Nat} (x : Blk) (h : k ≠ b) : F.upd b x k = F k := by simp [FH.upd, h]
theorem Mu.upd_same (μ : Mu) (b : Nat) (i : Bi) : μ.upd b i b = some i := by simp [Mu.upd]
theorem Mu.upd_other (μ : Mu) {b k : Nat} (i : Bi) (h : k ≠ b) : μ.upd b i k = μ k := by simp [Mu.upd, h]
theorem Mu.le_upd {μ : Mu} {b : Nat} (i : Bi) (h : μ b = none) : μ.le (μ.upd b i) := by
  intro k j e
  by_cases hk : k = b
  · subst hk; rw [h] at e; cases e
  · rw [Mu.upd_other _ _ hk]; exact e

/-- The abstract heap and the world: each live block lies in a block of the world of its own; below B0 the world is as it was. -/
structure HR (μ : Mu) (tok : Nat → Value) (B0 : Nat) (w0 : World) (F : FH) (w : World) : Prop where
  blk : ∀ b x, F b = some x → x ≠ .dead → ∃ i o, μ b = some i ∧ w.heap[i.cb]? = some o ∧ BR μ tok B0 i o x
  inj : ∀ b b' i i', F.live b → F.live b' → μ b = some i → μ b' = some i' → i.cb = i'.cb → b = b'
  old : ∀ b i, μ b = some i → i.cb < w.heap.size
  below : Below B0 w0 w
  b0 : B0 ≤ w0.heap.size
  tokOk : ∀ k, cellOk (tok k) = true
  tokB : TokB tok

def setBlk (w : World) (b : Nat) (o : Obj) : World := { w with heap := w.heap.setIfInBounds b o }

theorem setBlk_same {w : World} {b : Nat} {o : Obj} (h : b < w.heap.size) : (setBlk w b o).heap[b]? = some o := by simp [setBlk, h]
theorem setBlk_other {w : World} {b k : Nat} {o : Obj} (h : k ≠ b) : (setBlk w b o).heap[k]? = w.heap[k]? := by simp [setBlk, Ne.symm h]
theorem setBlk_size {w : World} {b : Nat} {o : Obj} : (setBlk w b o).heap.size = w.heap.size := by simp [setBlk]
theorem setBlk_setBlk {w : World} {b : Nat} {o o' : Obj} : setBlk (setBlk w b o) b o' = setBlk w b o' := by
  simp only [setBlk]
  congr 1
  apply Array.ext_getElem?
  intro i
  simp only [Array.getElem?_setIfInBounds]
  by_cases h : b = i <;> simp [h]

theorem alloc_size {w : World} {o : Obj} : (w.alloc o).heap.size = w.heap.size + 1 := by
  show (w.heap.push o).size = _
  simp
theorem alloc_new {w : World} {o : Obj} : (w.alloc o).heap[w.heap.size]? = some o := by
  show (w.heap.push o)[w.heap.size]? = _
  simp

theorem Below.setBlk {B0 : Nat} {w0 w : World} (h : Below B0 w0 w) {b : Nat} (hb : B0 ≤ b) (o : Obj) : Below B0 w0 (setBlk w b o) :=
  h.trans ⟨rfl, rfl, rfl, by simp [setBlk_size], fun k hk => setBlk_other (by omega)⟩

section
variable {μ : Mu} {tok : Nat → Value} {B0 : Nat} {w0 w : World} {F : FH}

/-- A live block's object is changed. -/
theorem HR.change (h : HR μ tok B0 w0 F w) {b : Nat} {x : Blk} {i : Bi} {o : Obj} (hb : F.live b) (hi : μ b = some i) (hB : B0 ≤ i.cb) (hx : x ≠ .dead → BR μ tok B0 i o x) :
    HR μ tok B0 w0 (F.upd b x) (setBlk w i.cb o) where
  blk := by
    intro k y hk hy
    by_cases e : k = b
    · subst e
      rw [FH.upd_same] at hk; cases hk
      exact ⟨i, o, hi, setBlk_same (h.old _ _ hi), hx hy⟩
    · rw [FH.upd_other _ _ e] at hk
      obtain ⟨j, u, hj, hu, hr⟩ := h.blk k y hk hy
      refine ⟨j, u, hj, ?_, hr⟩
      rw [setBlk_other]; exact hu
      intro ec
      exact e (h.inj k b j i ⟨y, hk, hy⟩ hb hj hi ec)
  inj := by
    intro k k' j j' hk hk' hj hj' e
    refine h.inj k k' j j' ?_ ?_ hj hj' e
    · by_cases ek : k = b
      · subst ek; exact hb
      · obtain ⟨y, hy, hd⟩ := hk; rw [FH.upd_other _ _ ek] at hy; exact ⟨y, hy, hd⟩
    · by_cases ek : k' = b
      · subst ek; exact hb
      · obtain ⟨y, hy, hd⟩ := hk'; rw [FH.upd_other _ _ ek] at hy; exact ⟨y, hy, hd⟩
  old := fun b i e => by rw [setBlk_size]; exact h.old b i e
  below := Below.setBlk h.below hB o
  b0 := h.b0
  tokOk := h.tokOk
  tokB := h.tokB

/-- A new block. -/
theorem HR.new (h : HR μ tok B0 w0 F w) {n : Nat} {x : Blk} {i : Bi} {o : Obj} (hF : F n = none) (hμ : μ n = none) (hi : i.cb = w.heap.size) (hx : BR (μ.upd n i) tok B0 i o x) :
    HR (μ.upd n i) tok B0 w0 (F.upd n x) (w.alloc o) where
  blk := by
    have hle := Mu.le_upd i hμ
    intro k y hk hy
    by_cases e : k = n
    · subst e
      rw [FH.upd_same] at hk; cases hk
      exact ⟨i, o, Mu.upd_same _ _ _, by rw [hi]; exact alloc_new, hx⟩
    · rw [FH.upd_other _ _ e] at hk
      obtain ⟨j, u, hj, hu, hr⟩ := h.blk k y hk hy
      refine ⟨j, u, hle _ _ hj, ?_, hr.mono hle⟩
      rw [Below.heap_alloc _ _ _ (h.old _ _ hj)]; exact hu
  inj := by
    intro k k' j j' hk hk' hj hj' e
    have other : ∀ {a u}, a ≠ n → (μ.upd n i) a = some u → u.cb < w.heap.size := fun {a u} ha hu => h.old a u (by rwa [Mu.upd_other _ _ ha] at hu)
    have here : ∀ {u}, (μ.upd n i) n = some u → u.cb = w.heap.size := fun {u} hu => by rw [Mu.upd_same] at hu; cases hu; exact hi
    by_cases ek : k = n
    · by_cases ek' : k' = n
      · rw [ek, ek']
      · subst ek; have := other ek' hj'; have := here hj; omega
    · by_cases ek' : k' = n
      · subst ek'; have := other ek hj; have := here hj'; omega
      · obtain ⟨y, hy, hd⟩ := hk; rw [FH.upd_other _ _ ek] at hy
        obtain ⟨y', hy', hd'⟩ := hk'; rw [FH.upd_other _ _ ek'] at hy'
        rw [Mu.upd_other _ _ ek] at hj; rw [Mu.upd_other _ _ ek'] at hj'
        exact h.inj k k' j j' ⟨y, hy, hd⟩ ⟨y', hy', hd'⟩ hj hj' e
  old := by
    intro k j e
    rw [alloc_size]
    by_cases ek : k = n
    · subst ek; rw [Mu.upd_same] at e; cases e; omega
    · rw [Mu.upd_other _ _ ek] at e; have := h.old k j e; omega
  below := h.below.alloc (Nat.le_trans h.b0 h.below.size) o
  b0 := h.b0
  tokOk := h.tokOk
  tokB := h.tokB

/-- A block that is given up. -/
theorem HR.kill (h : HR μ tok B0 w0 F w) (b : Nat) : HR μ tok B0 w0 (F.upd b .dead) w where
  blk := by
    intro k y hk hy
    by_cases e : k = b
    · subst e; rw [FH.upd_same] at hk; cases hk; exact absurd rfl hy
    · rw [FH.upd_other _ _ e] at hk; exact h.blk k y hk hy
  inj := by
    have sub : ∀ {k}, (F.upd b .dead).live k → F.live k := by
      intro k ⟨y, hy, hd⟩
      by_cases e : k = b
      · subst e; rw [FH.upd_same] at hy; cases hy; exact absurd rfl hd
      · rw [FH.upd_other _ _ e] at hy; exact ⟨y, hy, hd⟩
    exact fun k k' j j' hk hk' => h.inj k k' j j' (sub hk) (sub hk')
  old := h.old
  below := h.below
  b0 := h.b0
  tokOk := h.tokOk
  tokB := h.tokB

/-- A block is given up, and another one lies in its place, changed. -/
theorem HR.reuse (h : HR μ tok B0 w0 F w) {b n : Nat} {x : Blk} {i i1 : Bi} {o : Obj} (hb : F.live b) (hi : μ b = some i) (hB : B0 ≤ i.cb) (hF : F n = none) (hμ : μ n = none) (h1 : i1.cb = i.cb)
    (hx : BR (μ.upd n i1) tok B0 i1 o x) : HR (μ.upd n i1) tok B0 w0 ((F.upd b .dead).upd n x) (setBlk w i.cb o) := by
  have hle := Mu.le_upd i1 hμ
  have hbn : b ≠ n := by rintro rfl; obtain ⟨y, hy, _⟩ := hb; rw [hF] at hy; cases hy
  refine ⟨?_, ?_, ?_, Below.setBlk h.below hB o, h.b0, h.tokOk, h.tokB⟩
  · intro k y hk hy
    by_cases e : k = n
    · subst e
      rw [FH.upd_same] at hk; cases hk
      exact ⟨i1, o, Mu.upd_same _ _ _, by rw [h1]; exact setBlk_same (h.old _ _ hi), hx⟩
    · rw [FH.upd_other _ _ e] at hk
      by_cases e' : k = b
      · subst e'; rw [FH.upd_same] at hk; cases hk; exact absurd rfl hy
      · rw [FH.upd_other _ _ e'] at hk
        obtain ⟨j, u, hj, hu, hr⟩ := h.blk k y hk hy
        refine ⟨j, u, hle _ _ hj, ?_, hr.mono hle⟩
        rw [setBlk_other]; exact hu
        intro ec
        exact e' (h.inj k b j i ⟨y, hk, hy⟩ hb hj hi ec)
  · intro k k' j j' hk hk' hj hj' e
    have sub : ∀ {a}, a ≠ n → FH.live ((F.upd b .dead).upd n x) a → F.live a ∧ a ≠ b := by
      intro a ha ⟨y, hy, hd⟩
      rw [FH.upd_other _ _ ha] at hy
      by_cases e : a = b
      · subst e; rw [FH.upd_same] at hy; cases hy; exact absurd rfl hd
      · rw [FH.upd_other _ _ e] at hy; exact ⟨⟨y, hy, hd⟩, e⟩
    have here : ∀ {u}, (μ.upd n i1) n = some u → u.cb = i.cb := fun {u} hu => by rw [Mu.upd_same] at hu; cases hu; exact h1
    by_cases ek : k = n
    · by_cases ek' : k' = n
      · rw [ek, ek']
      · obtain ⟨hl, hne⟩ := sub ek' hk'
        rw [Mu.upd_other _ _ ek'] at hj'
        subst ek
        exact absurd (h.inj k' b j' i hl hb hj' hi (by rw [← e]; exact here hj)) hne
    · by_cases ek' : k' = n
      · obtain ⟨hl, hne⟩ := sub ek hk
        rw [Mu.upd_other _ _ ek] at hj
        subst ek'
        exact absurd (h.inj k b j i hl hb hj hi (by rw [e]; exact here hj')) hne
      · rw [Mu.upd_other _ _ ek] at hj; rw [Mu.upd_other _ _ ek'] at hj'
        exact h.inj k k' j j' (sub ek hk).1 (sub ek' hk').1 hj hj' e
  · intro k j e
    rw [setBlk_size]
    by_cases ek : k = n
    · subst ek; rw [Mu.upd_same] at e; cases e; rw [h1]; exact h.old b i hi
    · rw [Mu.upd_other _ _ ek] at e; exact h.old k j e

/-- Worlds with more blocks, the elder ones unchanged. -/
theorem HR.keeps (h : HR μ tok B0 w0 F w) {w1 : World} (k : Below w.heap.size w w1) : HR μ tok B0 w0 F w1 where
  blk := by
    intro b x hb hx
    obtain ⟨i, o, hi, ho, hr⟩ := h.blk b x hb hx
    exact ⟨i, o, hi, by rw [k.block _ (h.old _ _ hi)]; exact ho, hr⟩
  inj := h.inj
  old := fun b i e => Nat.lt_of_lt_of_le (h.old b i e) k.size
  below := h.below.trans (k.mono (Nat.le_trans h.b0 h.below.size))
  b0 := h.b0
  tokOk := h.tokOk
  tokB := h.tokB

theorem HR.ext (h : HR μ tok B0 w0 F w) {F' : FH} (e : ∀ b, F' b = F b) : HR μ tok B0 w0 F' w := by
  have : F' = F := funext e
  rw [this]; exact h

end
end Go.Ev
