/-
  SOUNDNESS, FIRST PART: tries, lists, what a type's row tells, runs without effects.
-/
import Derived.Test.YtcnkdagngaomdaaGreatDoorEvB
import Derived.Calls
import Derived.Below
namespace Go.Ev
open Go Go.RowKit


theorem T.get_e {α : Type} (k : Nat) : (T.e : T α).get k = none := rfl

theorem T.get_n {α : Type} (v : Option α) (l r : T α) (k : Nat) : (T.n v l r).get k = if k = 0 then v else if k % 2 = 1 then l.get (k / 2) else r.get (k / 2 - 1) := by
  show cond (Nat.beq k 0) v (cond (Nat.beq (k % 2) 1) (l.get (k / 2)) (r.get (k / 2).pred)) = _
  by_cases h0 : k = 0
  · subst h0; rfl
  · have e0 : Nat.beq k 0 = false := by cases h : Nat.beq k 0 with | false => rfl | true => exact absurd (Nat.eq_of_beq_eq_true h) h0
    rw [e0, if_neg h0]
    by_cases h1 : k % 2 = 1
    · rw [h1, if_pos rfl]; rfl
    · have e1 : Nat.beq (k % 2) 1 = false := by cases h : Nat.beq (k % 2) 1 with | false => rfl | true => exact absurd (Nat.eq_of_beq_eq_true h) h1
      rw [e1, if_neg h1]; rfl

theorem beq0 {k : Nat} (h0 : k ≠ 0) : Nat.beq k 0 = false := by cases h : Nat.beq k 0 with | false => rfl | true => exact absurd (Nat.eq_of_beq_eq_true h) h0
theorem beq1 {k : Nat} (h1 : k % 2 ≠ 1) : Nat.beq (Nat.mod k 2) 1 = false := by cases h : Nat.beq (Nat.mod k 2) 1 with | false => rfl | true => exact absurd (Nat.eq_of_beq_eq_true h) h1
theorem beq1' {k : Nat} (h1 : k % 2 = 1) : Nat.beq (Nat.mod k 2) 1 = true := by show Nat.beq (k % 2) 1 = true; rw [h1]; rfl

theorem T.set_get {α : Type} : ∀ (f : Nat) (t : T α) (k : Nat) (x : α) (k' : Nat), k + 1 < 2 ^ f → (t.set f k x).get k' = if k' = k then some x else t.get k'
  | 0, t, k, x, k', h => by simp at h
  | f + 1, t, k, x, k', h => by
    have key : ∀ (v : Option α) (l r : T α), (cond (Nat.beq k 0) (T.n (some x) l r) (cond (Nat.beq (Nat.mod k 2) 1) (T.n v (T.set f l (Nat.div k 2) x) r) (T.n v l (T.set f r (Nat.pred (Nat.div k 2)) x)))).get k'
        = if k' = k then some x else (T.n v l r).get k' := by
      intro v l r
      have hp : 2 ^ (f + 1) = 2 * 2 ^ f := by rw [Nat.pow_succ]; omega
      by_cases h0 : k = 0
      · subst h0
        show (T.n (some x) l r).get k' = _
        rw [T.get_n, T.get_n]
        by_cases e : k' = 0
        · rw [if_pos e, if_pos e]
        · rw [if_neg e, if_neg e, if_neg e]
      · rw [beq0 h0]
        by_cases h1 : k % 2 = 1
        · rw [beq1' h1]
          show (T.n v (T.set f l (k / 2) x) r).get k' = _
          rw [T.get_n, T.get_n]
          have hlt : k / 2 + 1 < 2 ^ f := by omega
          by_cases e : k' = k
          · subst e
            rw [if_neg h0, if_pos h1, if_pos rfl, T.set_get f l _ x _ hlt, if_pos rfl]
          · rw [if_neg e]
            by_cases e0 : k' = 0
            · rw [if_pos e0, if_pos e0]
            · rw [if_neg e0, if_neg e0]
              by_cases e1 : k' % 2 = 1
              · rw [if_pos e1, if_pos e1, T.set_get f l _ x _ hlt, if_neg (by omega)]
              · rw [if_neg e1, if_neg e1]
        · rw [beq1 h1]
          show (T.n v l (T.set f r (k / 2 - 1) x)).get k' = _
          rw [T.get_n, T.get_n]
          have hlt : k / 2 - 1 + 1 < 2 ^ f := by omega
          by_cases e : k' = k
          · subst e
            rw [if_neg h0, if_neg h1, if_pos rfl, T.set_get f r _ x _ hlt, if_pos rfl]
          · rw [if_neg e]
            by_cases e0 : k' = 0
            · rw [if_pos e0, if_pos e0]
            · rw [if_neg e0, if_neg e0]
              by_cases e1 : k' % 2 = 1
              · rw [if_pos e1, if_pos e1]
              · rw [if_neg e1, if_neg e1, T.set_get f r _ x _ hlt, if_neg (by omega)]
    cases t with
    | n v l r => exact key v l r
    | e =>
      have hk := key none .e .e
      have he : ∀ k'', (T.n none (T.e : T α) .e).get k'' = none := by
        intro k''; rw [T.get_n]; simp only [T.get_e]; simp
      rw [he] at hk
      rw [T.get_e]
      exact hk

theorem mkT_get {α : Type} {f : Nat → Option α} : ∀ (d m b k : Nat) (x : α), (mkT f d m b).get k = some x → f (b + m * k) = some x
  | 0, _, _, _, _, h => by cases h
  | d + 1, m, b, k, x, h => by
    rw [mkT, T.get_n] at h
    by_cases h0 : k = 0
    · rw [if_pos h0] at h; subst h0; simpa using h
    · rw [if_neg h0] at h
      by_cases h1 : k % 2 = 1
      · rw [if_pos h1] at h
        have := mkT_get d (2 * m) (b + m) (k / 2) x h
        have e : b + m + 2 * m * (k / 2) = b + m * k := by
          have hk : k = 2 * (k / 2) + 1 := by omega
          calc b + m + 2 * m * (k / 2) = b + m * (2 * (k / 2) + 1) := by rw [Nat.mul_add, Nat.mul_one, Nat.mul_comm 2 m, Nat.mul_assoc]; omega
            _ = b + m * k := by rw [← hk]
        rwa [e] at this
      · rw [if_neg h1] at h
        have := mkT_get d (2 * m) (b + 2 * m) (k / 2 - 1) x h
        have e : b + 2 * m + 2 * m * (k / 2 - 1) = b + m * k := by
          have hk : k = 2 * (k / 2 - 1) + 2 := by omega
          calc b + 2 * m + 2 * m * (k / 2 - 1) = b + m * (2 * (k / 2 - 1) + 2) := by rw [Nat.mul_add, Nat.mul_comm 2 m, Nat.mul_assoc]; omega
            _ = b + m * k := by rw [← hk]
        rwa [e] at this

/-- Pure runs are runs. -/
theorem pureRun_run {α : Type} {P : Program} : ∀ {s : Sem α} {a : α}, pureRun P s = some a → ∀ w, s.run P w = .ok a w
  | .pure a, b, h, w => by simp only [pureRun, Option.some.injEq] at h; subst h; rfl
  | .program k, b, h, w => by
    have := pureRun_run (s := k P) (by simpa [pureRun] using h) w
    simpa [Sem.run] using this
  | .load .., _, h, _ | .store .., _, h, _ | .new .., _, h, _ | .shape .., _, h, _ | .freeze .., _, h, _ | .frozen .., _, h, _ | .getObj .., _, h, _
  | .setObj .., _, h, _ | .choose .., _, h, _ | .sys .., _, h, _ | .mark .., _, h, _ | .halt _, _, h, _ => by simp [pureRun] at h

theorem takeN_spec {α : Type} : ∀ {n : Nat} {l r : List α}, takeN n l = some r → r = l.take n ∧ n ≤ l.length
  | 0, l, r, h => by simp [takeN] at h; subst h; simp
  | n + 1, [], r, h => by simp [takeN] at h
  | n + 1, a :: l, r, h => by
    simp only [takeN] at h
    split at h
    · rename_i s hs
      obtain ⟨e, hn⟩ := takeN_spec hs
      cases h; subst e; simp; exact hn
    · cases h

theorem dropN_spec {α : Type} : ∀ {n : Nat} {l r : List α}, dropN n l = some r → r = l.drop n ∧ n ≤ l.length
  | 0, l, r, h => by simp [dropN] at h; subst h; simp
  | n + 1, [], r, h => by simp [dropN] at h
  | n + 1, a :: l, r, h => by
    simp only [dropN] at h
    obtain ⟨e, hn⟩ := dropN_spec h
    subst e; simp; exact hn

theorem sliceN_spec {α : Type} {o n : Nat} {l r : List α} (h : sliceN o n l = some r) : r = (l.drop o).take n ∧ o + n ≤ l.length := by
  unfold sliceN at h
  split at h
  · rename_i s hs
    obtain ⟨e, h1⟩ := dropN_spec hs
    obtain ⟨e2, h2⟩ := takeN_spec h
    subst e; subst e2
    refine ⟨rfl, ?_⟩
    simp at h2; omega
  · cases h

theorem nth_eq {α : Type} : ∀ (l : List α) (n : Nat), nth l n = l[n]?
  | [], n => by cases n <;> rfl
  | a :: l, 0 => rfl
  | a :: l, n + 1 => by simpa [nth] using nth_eq l n

theorem len_eq {α : Type} : ∀ l : List α, len l = l.length
  | [] => rfl
  | _ :: r => by simp [len, len_eq r]

theorem over_spec {α : Type} : ∀ {l s r : List α}, over l s = some r → r = s ++ l.drop s.length ∧ s.length ≤ l.length
  | l, [], r, h => by simp [over] at h; subst h; simp
  | [], _ :: _, r, h => by simp [over] at h
  | a :: l, x :: s, r, h => by
    simp only [over] at h
    split at h
    · rename_i t ht
      obtain ⟨e, hn⟩ := over_spec ht
      cases h; subst e; simp; exact hn
    · cases h

theorem splice_spec {α : Type} : ∀ {n : Nat} {l s r : List α}, splice n l s = some r → r = l.take n ++ (s ++ l.drop (n + s.length)) ∧ n + s.length ≤ l.length
  | 0, l, s, r, h => by
    obtain ⟨e, hn⟩ := over_spec (by simpa [splice] using h)
    subst e; simp; exact hn
  | n + 1, [], s, r, h => by simp [splice] at h
  | n + 1, a :: l, s, r, h => by
    simp only [splice] at h
    split at h
    · rename_i t ht
      obtain ⟨e, hn⟩ := splice_spec ht
      cases h; subst e
      have e : n + 1 + s.length = (n + s.length) + 1 := by omega
      rw [e]
      exact ⟨by simp, by simp; omega⟩
    · cases h

theorem allB_spec {α : Type} {p : α → Bool} : ∀ {l : List α}, allB p l = true → ∀ x ∈ l, p x = true
  | [], _, x, hx => by cases hx
  | a :: l, h, x, hx => by
    simp only [allB] at h
    cases ha : p a with
    | false => rw [ha] at h; cases h
    | true =>
      rw [ha] at h
      cases hx with
      | head => exact ha
      | tail _ hx => exact allB_spec (by simpa using h) x hx

theorem cond_some {α : Type} {b : Bool} {x : Option α} {y : α} (h : cond b x none = some y) : b = true ∧ x = some y := by cases b <;> simp_all
theorem cond_some' {α : Type} {b : Bool} {x : Option α} {y : α} (h : cond b none x = some y) : b = false ∧ x = some y := by cases b <;> simp_all

theorem nbeq {a b : Nat} (h : Nat.beq a b = true) : a = b := Nat.eq_of_beq_eq_true h
theorem nble {a b : Nat} (h : Nat.ble a b = true) : a ≤ b := Nat.le_of_ble_eq_true h
theorem nblt {a b : Nat} (h : Nat.blt a b = true) : a < b := Nat.le_of_ble_eq_true h
theorem nble' {a b : Nat} (h : Nat.ble a b = false) : b < a := by
  rcases Nat.lt_or_ge b a with h' | h'
  · exact h'
  · rw [Nat.ble_eq_true_of_le h'] at h; cases h
theorem nbeq' {a b : Nat} (h : Nat.beq a b = false) : a ≠ b := by intro e; subst e; rw [Nat.beq_refl] at h; cases h

/-- What a type's row tells. -/
structure Tells (P : Program) (t : TypeId) (ti : TI) : Prop where
  info : ∃ i, P.info? t = some i ∧ i.size = ti.size ∧ i.bytes = ti.bytes ∧ i.zero = ti.zero
  under : ∃ d, P.underlying t = some d ∧ tkOf d = ti.k

theorem info_of {P : Program} {t : TypeId} {i : TypeInfo} (h : P.types.toList[t]? = some i) : P.info? t = some i := by
  have hlt : t < P.types.size := by
    have := (List.getElem?_eq_some_iff.1 h).1; simpa using this
  unfold Tables.info?
  rw [if_pos hlt]
  simpa using h

theorem tiOf_tells {P : Program} {t : TypeId} {ti : TI} (h : tiOf P t = some ti) : Tells P t ti := by
  unfold tiOf at h
  split at h
  · cases h
  · rename_i i hi
    have hinfo := info_of hi
    split at h
    · rename_i n u hd
      split at h
      · rename_i j hj
        cases h
        refine ⟨⟨i, hinfo, rfl, rfl, rfl⟩, ⟨j.desc, ?_, rfl⟩⟩
        unfold Program.underlying
        rw [hinfo]
        obtain ⟨desc, str, size, bytes, hp, al, fal, zero, cmp, ms⟩ := i
        simp only at hd; subst hd
        simp only [info_of hj, Option.map_some]
      · cases h
    · rename_i d hd
      cases h
      refine ⟨⟨i, hinfo, rfl, rfl, rfl⟩, ⟨i.desc, ?_, rfl⟩⟩
      unfold Program.underlying
      rw [hinfo]
      obtain ⟨desc, str, size, bytes, hp, al, fal, zero, cmp, ms⟩ := i
      cases desc <;> first | rfl | (exfalso; exact hd _ _ rfl)

/-- The table of types that the evaluator is handed. -/
def TT (P : Program) (tt : T TI) : Prop := ∀ t ti, tt.get t = some ti → Tells P t ti

theorem TT_mk (P : Program) (d : Nat) : TT P (mkT (tiOf P) d 1 0) := by
  intro t ti h
  have := mkT_get d 1 0 t ti h
  simp at this
  exact tiOf_tells this

end Go.Ev
