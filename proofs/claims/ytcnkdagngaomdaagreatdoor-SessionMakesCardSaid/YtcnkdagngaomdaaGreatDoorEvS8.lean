/-
  SOUNDNESS, EIGHTH PART: slice expressions.
-/
import Derived.Test.YtcnkdagngaomdaaGreatDoorEvS7
namespace Go.Ev
open Go Go.RowKit

section
variable {P : Program} {tt : T TI} {w : World}
variable {μ : Mu} {tok : Nat → Value} {B0 : Nat} {w0 : World} {F : FH} {h h' : Hp}

theorem extract_list (s : List UInt8) (l r : Nat) : (⟨⟨s⟩⟩ : ByteArray).extract l r = ⟨⟨(s.drop l).take (r - l)⟩⟩ := by
  apply ByteArray.ext
  rw [ByteArray.data_extract]
  simp

theorem RO_none {a : Option Value} (h : RO μ tok none a) : a = none := by cases a with | none => rfl | some _ => exact h.elim
theorem isNone_eq {α : Type} {a : Option α} (h : isNone a = true) : a = none := by cases a with | none => rfl | some _ => cases h

theorem exactAt {b o : Nat} {i : Bi} (hi0 : μ b = some i) (s : Option Nat) (l sz m r : Nat) :
    RV μ tok (.slice (some (cond (Nat.beq m l) ⟨b, o, none⟩ (addA ⟨b, o, s⟩ (Nat.mul l sz) none))) (Nat.sub r l) (Nat.sub m l))
      (.slice (if m = l then (some ⟨i.cb, i.co + o, none⟩ : Option Addr) else (some ⟨i.cb, i.co + o, none⟩ : Option Addr).map (·.add (l * sz))) (r - l) (m - l)) := by
  by_cases em : m = l
  · subst em
    rw [Nat.beq_refl, if_pos rfl]
    exact .sexact _ _ hi0
  · have : Nat.beq m l = false := by cases hx : Nat.beq m l with | false => rfl | true => exact absurd (nbeq hx) em
    rw [this, if_neg em]
    have := RV.sexact (tok := tok) (o := o + l * sz) (Nat.sub r l) (Nat.sub m l) hi0
    rw [← Nat.add_assoc] at this
    show RV μ tok _ (.slice (some ((⟨i.cb, i.co + o, none⟩ : Addr).add (l * sz))) _ _)
    rw [add_at]
    exact this

theorem aSlice_run (hT : TT P tt) {t : TypeId} {x x' v : Value} {lo hi mx lo' hi' mx' : Option Value} (e : aSlice tt h t x lo hi mx = some (.val v h')) (rx : RV μ tok x x') (rl : RO μ tok lo lo') (rh : RO μ tok hi hi') (rm : RO μ tok mx mx') (w : World) :
    ∃ v', (Instr.sliceAt t x' lo' hi' mx').run P w = .ok v' w ∧ RV μ tok v v' ∧ h' = h := by
  have arrCase : ∀ {a : Addr} {n el : Nat} {cb co : Nat} {i : Bi} {b o : Nat}, a = ⟨b, o, none⟩ → μ b = some i → cb = i.cb → co = i.co + o → aSlice.arr tt h lo hi mx a n el = some (.val v h') →
      ∃ ti l r m, Tells P el ti ∧ (∀ w, (Instr.sliceBounds false n n lo' hi' mx').run P w = .ok (l, r, m) w) ∧ RV μ tok v (.slice (some (if m = l then ⟨cb, co, none⟩ else (⟨cb, co, none⟩ : Addr).add (l * ti.size))) (r - l) (m - l)) ∧ h' = h := by
    intro a n el cb co i b o ha hi0 hcb hco e
    subst ha hcb hco
    unfold aSlice.arr at e
    split at e
    · rename_i sz l r m hsz hb
      cases e
      obtain ⟨ti, ht, rfl⟩ := sizeL_tells hT hsz
      obtain ⟨hrun, h1, h2, h3, h4⟩ := bounds_run (P := P) (isSlice := false) hb (Nat.le_refl n) rl rh rm w
      have hm : cond (isNone mx) n m = m := by
        cases hx : isNone mx with
        | false => rfl
        | true => rw [h4 hx]; rfl
      refine ⟨ti, l, r, m, ht, fun w => by rw [(bounds_run (P := P) (isSlice := false) hb (Nat.le_refl n) rl rh rm w).1, hm], ?_, rfl⟩
      by_cases e : m = l
      · subst e
        rw [Nat.beq_refl, if_pos rfl]
        exact .sexact _ _ hi0
      · have : Nat.beq m l = false := by cases hx : Nat.beq m l with | false => rfl | true => exact absurd (nbeq hx) e
        rw [this, if_neg e, add_at]
        have := RV.sexact (tok := tok) (o := o + l * ti.size) (Nat.sub r l) (Nat.sub m l) hi0
        rw [← Nat.add_assoc] at this
        exact this
    · cases e
  unfold aSlice at e
  split at e
  · rename_i _ _ _ s hti
    obtain ⟨hmx, e⟩ := cond_some e
    have hmx := isNone_eq hmx
    subst hmx
    have hmx' := RO_none rm
    subst hmx'
    split at e
    · rename_i l r m hb
      split at e
      · rename_i u hu
        cases e
        obtain ⟨d, hk, _, hd⟩ := tells_k hT hti
        obtain rfl := tk_string hk
        cases rx
        obtain ⟨hrun, _⟩ := bounds_run (P := P) (isSlice := false) hb (Nat.le_refl _) rl rh (by trivial : RO μ tok none none) w
        obtain ⟨hu1, _⟩ := sliceN_spec hu
        refine ⟨.string ⟨⟨u⟩⟩, ?_, .string _, rfl⟩
        have hs : (⟨⟨s⟩⟩ : ByteArray).size = Ev.len s := by rw [len_eq]; rfl
        simp only [Instr.sliceAt, Sem.run_bind, hd, then_ok, Instr.slice, Option.isSome_none, Bool.false_eq_true, if_false, Sem.run_pure, hs, hrun, extract_list]
        rw [hu1]; rfl
      · cases e
    · cases e
  · rename_i el _ _ _ a n c hti
    obtain ⟨d, hk, _, hd⟩ := tells_k hT hti
    obtain rfl := tk_slice hk
    split at e
    · rename_i sz l r m hsz hb
      obtain ⟨ti, ht, rfl⟩ := sizeL_tells hT hsz
      have hrun : ∀ (a' : Option Addr) (c' m' : Nat), (Instr.sliceBounds true n c' lo' hi' mx').run P w = .ok (l, r, m') w →
          (Instr.sliceAt t (.slice a' n c') lo' hi' mx').run P w = .ok (.slice (if m' = l then a' else a'.map (·.add (l * ti.size))) (r - l) (m' - l)) w := by
        intro a' c' m' hb'
        simp only [Instr.sliceAt, Sem.run_bind, hd, then_ok, Instr.slice, hb', r_size ht, Sem.run_pure]
      split at e
      · -- nil
        cases e
        cases rx
        obtain ⟨hrb, _, _, _, h4⟩ := bounds_run (P := P) (isSlice := true) hb (Nat.le_refl _) rl rh rm w
        have hm : cond (isNone mx) c m = m := by
          cases hx : isNone mx with
          | false => rfl
          | true => rw [h4 hx]; rfl
        rw [hm] at hrb
        refine ⟨_, hrun none c m hrb, ?_, rfl⟩
        have : (if m = l then (none : Option Addr) else (none : Option Addr).map (·.add (l * ti.size))) = none := by split <;> rfl
        rw [this]
        exact .snil _ _
      · rename_i a
        obtain ⟨hspot, e⟩ := cond_some e
        simp only [Option.some.injEq] at e
        cases rx with
        | @sexact b o _ _ i hi0 =>
          obtain ⟨hrb, _, _, _, h4⟩ := bounds_run (P := P) (isSlice := true) hb (Nat.le_refl _) rl rh rm w
          have hm : cond (isNone mx) c m = m := by
            cases hx : isNone mx with
            | false => rfl
            | true => rw [h4 hx]; rfl
          rw [hm] at hrb
          refine ⟨_, hrun _ c m hrb, ?_⟩
          have e' : OR.val (.slice (some (cond (Nat.beq m l) ⟨b, o, none⟩ (addA ⟨b, o, none⟩ (Nat.mul l ti.size) none))) (Nat.sub r l) (Nat.sub m l)) h = .val v h' := by
            rw [← e]; unfold cutAt'; cases isNone mx <;> rfl
          cases e'
          refine ⟨?_, rfl⟩
          exact exactAt hi0 _ _ _ _ _
        | @sloose b o z _ _ c' i hi0 hc ho hC =>
          have hz : z = ti.size := by
            have := nbeq hspot; have h2 : z + 2 = ti.size + 2 := this; omega
          subst hz
          obtain ⟨hrb, h1, h2, h3, h4⟩ := bounds_run (P := P) (isSlice := true) hb hc rl rh rm w
          cases hx : isNone mx with
          | true =>
            rw [hx, cond_true] at hrb
            obtain rfl := h4 hx
            refine ⟨_, hrun _ c' c' hrb, ?_⟩
            rw [hx] at e
            unfold cutAt' at e
            simp only at e
            by_cases em : m = l
            · subst em
              rw [Nat.beq_refl, cond_true] at e
              by_cases e0 : m = 0
              · subst e0
                rw [Nat.beq_refl, cond_true] at e
                cases e
                refine ⟨?_, rfl⟩
                have hr0 : r = 0 := by omega
                subst hr0
                have : (if c' = 0 then (some ⟨i.cb, i.co + o, none⟩ : Option Addr) else (some ⟨i.cb, i.co + o, none⟩ : Option Addr).map (·.add (0 * ti.size))) = some ⟨i.cb, i.co + o, none⟩ := by
                  split
                  · rfl
                  · simp [Addr.add]
                rw [this]
                exact .sloose _ hi0 (by omega) ho hC
              · have : Nat.beq m 0 = false := by cases hx : Nat.beq m 0 with | false => rfl | true => exact absurd (nbeq hx) e0
                rw [this, cond_false] at e
                cases e
                refine ⟨?_, rfl⟩
                have hr0 : r - m = 0 := by omega
                rw [hr0]
                split
                · exact .sempty _ _ _ _
                · exact .sempty _ _ _ _
            · have : Nat.beq m l = false := by cases hx : Nat.beq m l with | false => rfl | true => exact absurd (nbeq hx) em
              rw [this, cond_false] at e
              cases e
              refine ⟨?_, rfl⟩
              rw [if_neg (by omega)]
              show RV μ tok _ (.slice (some ((⟨i.cb, i.co + o, none⟩ : Addr).add (l * ti.size))) _ _)
              rw [add_at, Nat.add_assoc]
              have hsub : (m - l) * ti.size + l * ti.size = m * ti.size := by rw [← Nat.add_mul]; congr 1; omega
              have hsub' : (c' - l) * ti.size + l * ti.size = c' * ti.size := by rw [← Nat.add_mul]; congr 1; omega
              exact .sloose (z := ti.size) (o := o + l * ti.size) _ hi0 (Nat.sub_le_sub_right hc l) (by show o + l * ti.size + (m - l) * ti.size = _; omega) (by show i.co + (o + l * ti.size) + (c' - l) * ti.size ≤ _; omega)
          | false =>
            rw [hx, cond_false] at hrb
            refine ⟨_, hrun _ c' m hrb, ?_⟩
            rw [hx] at e
            unfold cutAt' at e
            simp only at e
            cases e
            exact ⟨exactAt hi0 _ _ _ _ _, rfl⟩
        | sempty b o a' c' =>
          have := nbeq hspot
          have h2 : (1 : Nat) = ti.size + 2 := this
          omega
    · cases e
  · rename_i n el _ _ _ a hti
    obtain ⟨d, hk, _, hd⟩ := tells_k hT hti
    obtain rfl := tk_array hk
    cases rx with
    | @ptr b o i hi0 =>
      obtain ⟨ti, l, r, m, ht, hb, rv, rfl⟩ := arrCase rfl hi0 rfl rfl e
      refine ⟨_, ?_, rv, rfl⟩
      simp only [Instr.sliceAt, Sem.run_bind, hd, then_ok, Instr.sureAddr, Sem.run_pure, hb, r_size ht]
  · rename_i u _ _ _ a hti
    split at e
    · rename_i n el _ _ _ hu
      obtain ⟨d, hk, _, hd⟩ := tells_k hT hti
      obtain rfl := tk_ptr hk
      obtain ⟨d2, hk2, _, hd2⟩ := tells_k hT hu
      obtain rfl := tk_array hk2
      cases rx with
      | @ptr b o i hi0 =>
        obtain ⟨ti, l, r, m, ht, hb, rv, rfl⟩ := arrCase rfl hi0 rfl rfl e
        refine ⟨_, ?_, rv, rfl⟩
        simp only [Instr.sliceAt, Instr.slice, Sem.run_bind, hd, hd2, then_ok, asAddr, Sem.run_pure, hb, r_size ht]
    · cases e
  · cases e

end
end Go.Ev
