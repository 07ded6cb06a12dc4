/-
  SOUNDNESS, THIRTEENTH PART: maps.
-/
import Derived.Test.YtcnkdagngaomdaaGreatDoorEvS12
import Derived.Laws.StructEq
namespace Go.Ev
open Go Go.RowKit

section
variable {P : Program} {tt : T TI} {w : World}
variable {μ : Mu} {tok : Nat → Value} {B0 : Nat} {w0 : World} {F : FH} {h h' : Hp}

theorem bytesEq_spec : ∀ {a b : List UInt8}, bytesEq a b = decide (a = b)
  | [], [] => rfl
  | [], _ :: _ => rfl
  | _ :: _, [] => rfl
  | a :: x, b :: y => by
    simp only [bytesEq, bytesEq_spec (a := x) (b := y)]
    cases h : Nat.beq a.toNat b.toNat with
    | true =>
      have : a = b := UInt8.toNat_inj.1 (nbeq h)
      subst this
      simp
    | false =>
      have : a ≠ b := by rintro rfl; rw [Nat.beq_refl] at h; cases h
      simp [this]

theorem intEq_spec : ∀ {a b : Int}, intEq a b = decide (a = b)
  | .ofNat a, .ofNat b => by
    simp only [intEq]
    cases h : Nat.beq a b with
    | true => have := nbeq h; subst this; simp
    | false => have := nbeq' h; simp [Int.ofNat_inj, this]
  | .negSucc a, .negSucc b => by
    simp only [intEq]
    cases h : Nat.beq a b with
    | true => have := nbeq h; subst this; simp
    | false => have := nbeq' h; simp [this]
  | .ofNat a, .negSucc b => by simp [intEq]
  | .negSucc a, .ofNat b => by simp [intEq]

/-- The kinds of keys that are served. -/
def KD (d : TypeDesc) (k : Value) : Prop := (d = .string ∧ ∃ s, k = .string s) ∨ (d = .int .i64 ∧ ∃ n, k = .int .i64 n)

theorem keyOk_KD {d : TypeDesc} {k : Value} (h : keyOk (tkOf d) k = true) : KD d k := by
  unfold keyOk at h
  split at h
  · rename_i s hk; exact .inl ⟨tk_string hk, _, rfl⟩
  · rename_i n hk; exact .inr ⟨tk_int hk, _, rfl⟩
  · cases h

theorem KD.flat1 {d : TypeDesc} {k : Value} (h : KD d k) : Ev.flat1 k = true := by
  rcases h with ⟨_, s, rfl⟩ | ⟨_, n, rfl⟩ <;> rfl

theorem sameNow_of {d : TypeDesc} {k k' : Value} {b : Bool} (hk : KD d k) (e : keyEq k k' = some b) : Instr.sameNow d k k' = some b := by
  rcases hk with ⟨rfl, s, rfl⟩ | ⟨rfl, n, rfl⟩
  · unfold keyEq at e
    split at e
    · rename_i a b' h1
      cases h1
      cases e
      show some ((⟨⟨a⟩⟩ : ByteArray) == ⟨⟨b'⟩⟩) = some (bytesEq a b')
      rw [bytesEq_spec]
      congr 1
      rw [beq_toListBytes, Bool.eq_iff_iff, beq_iff_eq, decide_eq_true_eq]
      simp
    · rename_i h1; cases h1
    · cases e
  · unfold keyEq at e
    split at e
    · rename_i h1; cases h1
    · rename_i a b' h1
      cases h1
      cases e
      show (if (IntKind.i64 : IntKind) = .i64 then some (n == b') else none) = some (intEq n b')
      rw [if_pos rfl, intEq_spec]
      congr 1
    · cases e

theorem findNow_of {d : TypeDesc} {k : Value} (hk : KD d k) : ∀ {es es' : List MapEntry} {i : Nat} {r : Option (Nat × MapEntry)}, findK k es i = some r → RE μ tok es es' →
    match r with
    | none => Instr.findNow d k es' i = some none
    | some (j, e) => ∃ v', Instr.findNow d k es' i = some (some (j, v')) ∧ RV μ tok e.val v' ∧ i ≤ j ∧ es[j - i]? = some e ∧ es'[j - i]? = some ⟨e.key, v', e.born⟩ ∧ keyEq k e.key = some true
  | [], es', i, r, e, re => by
    cases re
    simp only [findK, Option.some.injEq] at e
    subst e
    rfl
  | x :: es, es', i, r, e, re => by
    cases re with
    | @cons kk v v' n _ l' f rv re =>
      simp only [findK] at e
      split at e
      · rename_i hq
        cases e
        refine ⟨v', ?_, rv, Nat.le_refl _, by simp, by simp, hq⟩
        simp only [Instr.findNow, sameNow_of hk hq]
      · rename_i hq
        have ih := findNow_of hk e re
        cases r with
        | none =>
          simp only [Instr.findNow, sameNow_of hk hq]
          exact ih
        | some p =>
          obtain ⟨j, e0⟩ := p
          obtain ⟨v', h1, h2, h3, h4, h5, h6⟩ := ih
          have h3' : i + 1 ≤ j := h3
          refine ⟨v', ?_, h2, by omega, ?_, ?_, h6⟩
          · simp only [Instr.findNow, sameNow_of hk hq]
            exact h1
          · rw [show j - i = (j - (i + 1)) + 1 from by omega]; simpa using h4
          · rw [show j - i = (j - (i + 1)) + 1 from by omega]; simpa using h5
      · cases e

theorem checkKey_run {t : TypeId} {d : TypeDesc} {k : Value} (hd : ∀ w, (underlying t).run P w = .ok d w) (hk : KD d k) (b : Bool) (n : Nat) (w : World) : (Instr.checkKey b (n + 1) t k).run P w = .ok () w := by
  unfold Instr.checkKey
  simp only [Sem.run_bind, hd, then_ok]
  rcases hk with ⟨rfl, s, rfl⟩ | ⟨rfl, m, rfl⟩ <;> rfl

theorem findKey_run {t : TypeId} {d : TypeDesc} {k : Value} {es : List MapEntry} {r : Option (Nat × Value)} (hd : ∀ w, (underlying t).run P w = .ok d w) (h : Instr.findNow d k es 0 = some r) (w : World) : (Instr.findKey t k es).run P w = .ok r w := by
  unfold Instr.findKey
  simp only [Sem.run_bind, hd, then_ok, h, Sem.run_pure]

theorem map_at (s : Sub h F) (r : HR μ tok B0 w0 F w) {b : Nat} {es : List MapEntry} {clk : Nat} (e : h.get b = some (.map es clk)) {i : Bi} (hi : μ b = some i) :
    B0 ≤ i.cb ∧ ∃ es', RE μ tok es es' ∧ w.heap[i.cb]? = some (.map ⟨es'⟩ clk) ∧ ∀ w', w'.heap = w.heap → (getObj i.cb).run P w' = .ok (.map ⟨es'⟩ clk) w' := by
  obtain ⟨j, o, hj, ho, hb⟩ := r.blk b _ (s b _ e) (by simp)
  rw [hi] at hj; cases hj
  obtain ⟨hB, es', rfl, re⟩ := hb
  exact ⟨hB, es', re, ho, fun w' hw => by simp only [getObj, Sem.run, hw, ho]⟩

theorem aLookup_run (hT : TT P tt) (s : Sub h F) (r : HR μ tok B0 w0 F w) {t : TypeId} {m k m' k' v : Value} {ok : Bool} (e : aLookup tt h t m k ok = some (.val v h')) (rm : RV μ tok m m') (rk : RV μ tok k k') :
    ∃ v', (Instr.lookup t m' k' ok).run P w = .ok v' w ∧ RV μ tok v v' ∧ h' = h := by
  unfold aLookup at e
  split at e
  · rename_i kt et _ _ _ q hst
    split at e
    · rename_i ki hki
      obtain ⟨hko, e1⟩ := cond_some e
      clear e
      obtain ⟨d, hkd, _, hd⟩ := tells_k hT hst
      obtain rfl := tk_map hkd
      obtain ⟨dk, hdk, _, hdk2⟩ := r_under (hT _ _ hki)
      rw [← hdk] at hko
      have hKD := keyOk_KD hko
      have hkk : k' = k := rk.flat1 hKD.flat1
      subst hkk
      split at e1
      · cases e1
      · rename_i es hes
        have hm : ∃ es', RE μ tok es es' ∧ ((m' = .map none ∧ es' = []) ∨ ∃ q clk, m' = .map (some q) ∧ (getObj q).run P w = .ok (.map ⟨es'⟩ clk) w) := by
          unfold mapAt at hes
          split at hes
          · cases hes
            cases rm
            exact ⟨[], .nil, .inl ⟨rfl, rfl⟩⟩
          · rename_i q
            split at hes
            · rename_i es0 clk hq
              cases hes
              cases rm with
              | map hi =>
                obtain ⟨hB, es', re, ho, hg⟩ := map_at (P := P) s r hq hi
                exact ⟨es', re, .inr ⟨_, clk, rfl, hg w rfl⟩⟩
            · cases hes
        obtain ⟨es', re, hm⟩ := hm
        have hck := fun b => checkKey_run hdk2 hKD b 9999 w
        split at e1
        · rename_i j e0 hf
          cases e1
          obtain ⟨v', h1, h2, _⟩ := findNow_of hKD hf re
          have hfk := findKey_run hdk2 h1 w
          refine ⟨if ok then .tuple #[v', .bool true] else v', ?_, ?_, rfl⟩
          · rcases hm with ⟨rfl, rfl⟩ | ⟨q, clk, rfl, hg⟩
            · unfold Instr.lookup
              simp only [Sem.run_bind, hd, then_ok, Sem.run_pure, hck, hfk]
            · unfold Instr.lookup
              simp only [Sem.run_bind, hd, then_ok, Sem.run_pure, hg, hck, hfk]
          · cases ok with
            | true => exact .tuple (.cons h2 (.cons (.bool true) .nil))
            | false => exact h2
        · rename_i hf
          have h1 := findNow_of hKD hf re
          simp only at h1
          have hfk := findKey_run hdk2 h1 w
          split at e1
          · rename_i z hz
            obtain ⟨hfz, e⟩ := cond_some e1
            cases e
            obtain ⟨ti, ht, hz2⟩ := zeroL_tells hT hz
            refine ⟨if ok then .tuple #[z, .bool false] else z, ?_, ?_, rfl⟩
            · rcases hm with ⟨rfl, rfl⟩ | ⟨q, clk, rfl, hg⟩
              · unfold Instr.lookup
                simp only [Sem.run_bind, hd, then_ok, Sem.run_pure, hck, hfk, r_zero ht hz2]
              · unfold Instr.lookup
                simp only [Sem.run_bind, hd, then_ok, Sem.run_pure, hg, hck, hfk, r_zero ht hz2]
            · cases ok with
              | true => exact .tuple (.cons (.ofFlat hfz) (.cons (.bool false) .nil))
              | false => exact .ofFlat hfz
          · cases e1
        · cases e1
    · cases e
  · cases e

end
end Go.Ev
