/-
  SOUNDNESS, SEVENTH PART: places, fields, indexes, slices.
-/
import Derived.Test.YtcnkdagngaomdaaGreatDoorEvS6
namespace Go.Ev
open Go Go.RowKit

section
variable {P : Program} {tt : T TI} {w : World}
variable {μ : Mu} {tok : Nat → Value} {B0 : Nat} {w0 : World} {F : FH} {h h' : Hp}

theorem natOf_int {v : Value} {n : Nat} (e : natOf v = some n) : ∃ k, v = .int k (n : Int) := by
  unfold natOf at e
  split at e <;> first | (cases e; exact ⟨_, rfl⟩) | cases e

theorem natOf_rv {v v' : Value} {n : Nat} (e : natOf v = some n) (r : RV μ tok v v') : ∃ k, v' = .int k (n : Int) := by
  obtain ⟨k, rfl⟩ := natOf_int e
  cases r; exact ⟨k, rfl⟩

theorem fieldAddr_run (hT : TT P tt) {s f off ft n sz by_ : Nat} {z : Option Value} {fs : List (Nat × TypeId)} {a : Addr} {p' : Value} (hs : tt.get s = some ⟨.struct fs, sz, by_, z⟩) (hf : nth fs f = some (off, ft)) (hn : sizeL tt ft = some n)
    (h0 : n ≠ 0) (ra : RV μ tok (.pointer (some a)) p') (w : World) : ∃ v', (Instr.fieldAt s p' f).run P w = .ok v' w ∧ RV μ tok (.pointer (some (addA a off none))) v' := by
  obtain ⟨d, hk, _, hd⟩ := tells_k hT hs
  obtain ⟨fields, rfl, hfs⟩ := tk_struct hk
  subst hfs
  rw [nth_eq, List.getElem?_map] at hf
  cases hfl : fields.toList[f]? with
  | none => rw [hfl] at hf; cases hf
  | some fd =>
    rw [hfl] at hf
    simp only [Option.map_some, Option.some.injEq, Prod.mk.injEq] at hf
    obtain ⟨rfl, rfl⟩ := hf
    obtain ⟨ti, ht, hsz⟩ := sizeL_tells hT hn
    have hfa : fields[f]? = some fd := by simpa using hfl
    cases ra with
    | ptr hi =>
      rename_i b o i
      refine ⟨.pointer (some ⟨i.cb, i.co + o + fd.offset, none⟩), ?_, ?_⟩
      · simp only [Instr.fieldAt, Sem.run_bind, hd, then_ok, hfa, Instr.sureAddr, Sem.run_pure, fieldPlace, r_size ht]
        rw [if_neg (by omega), add_at]
        rfl
      · have := RV.ptr (tok := tok) (o := o + fd.offset) hi
        rw [← Nat.add_assoc] at this
        exact this

theorem field_run (hT : TT P tt) {s f off ft sz by_ : Nat} {z : Option Value} {fs : List (Nat × TypeId)} {c : List Value} {x' v : Value} (hs : tt.get s = some ⟨.struct fs, sz, by_, z⟩) (hf : nth fs f = some (off, ft))
    (e : partL tt ft c off = some v) (rx : RV μ tok (.agg ⟨c⟩) x') (w : World) : ∃ v', (Instr.field s x' f).run P w = .ok v' w ∧ RV μ tok v v' := by
  obtain ⟨d, hk, _, hd⟩ := tells_k hT hs
  obtain ⟨fields, rfl, hfs⟩ := tk_struct hk
  subst hfs
  rw [nth_eq, List.getElem?_map] at hf
  cases hfl : fields.toList[f]? with
  | none => rw [hfl] at hf; cases hf
  | some fd =>
    rw [hfl] at hf
    simp only [Option.map_some, Option.some.injEq, Prod.mk.injEq] at hf
    obtain ⟨rfl, rfl⟩ := hf
    have hfa : fields[f]? = some fd := by simpa using hfl
    cases rx with
    | agg rl =>
      obtain ⟨v', hv, rv⟩ := partL_run hT e rl w
      refine ⟨v', ?_, rv⟩
      simp only [Instr.field, Sem.run_bind, hd, then_ok, hfa, asAgg, Sem.run_pure]
      exact hv

theorem indexAddr_run (hT : TT P tt) {t : TypeId} {x x' i i' v : Value} (e : aIndexAddr tt h t x i = some (.val v h')) (rx : RV μ tok x x') (ri : RV μ tok i i') (w : World) :
    ∃ v', (Instr.indexAt t x' i').run P w = .ok v' w ∧ RV μ tok v v' ∧ h' = h := by
  unfold aIndexAddr at e
  split at e
  · cases e
  · rename_i n hn
    obtain ⟨k, rfl⟩ := natOf_rv hn ri
    split at e
    · rename_i m el _ _ _ a hti
      split at e
      · rename_i sz hsz
        obtain ⟨hlt, e⟩ := cond_some e
        have hlt := nblt hlt
        cases e
        obtain ⟨d, hk, _, hd⟩ := tells_k hT hti
        obtain rfl := tk_array hk
        obtain ⟨ti, ht, rfl⟩ := sizeL_tells hT hsz
        cases rx with
        | ptr hi =>
          rename_i b o j
          refine ⟨.pointer (some ⟨j.cb, j.co + o + n * ti.size, none⟩), ?_, ?_, rfl⟩
          · simp only [Instr.indexAt, Sem.run_bind, asIntOf, Sem.run_pure, hd, then_ok, Instr.sureAddr]
            rw [if_pos ⟨by omega, by omega⟩]
            simp only [Sem.run_bind, r_size ht, then_ok, Int.toNat_natCast, add_at, Sem.run_pure]
          · have := RV.ptr (tok := tok) (o := o + n * ti.size) hi
            rw [← Nat.add_assoc] at this
            exact this
      · cases e
    · rename_i el _ _ _ a m _ hti
      split at e
      · rename_i sz hsz
        obtain ⟨hlt, e⟩ := cond_some e
        have hlt := nblt hlt
        cases e
        obtain ⟨d, hk, _, hd⟩ := tells_k hT hti
        obtain rfl := tk_slice hk
        obtain ⟨ti, ht, rfl⟩ := sizeL_tells hT hsz
        have key : ∀ (cb co : Nat) (c' : Nat), (Instr.indexAt t (.slice (some ⟨cb, co, none⟩) m c') (.int k (n : Int))).run P w = .ok (.pointer (some ⟨cb, co + n * ti.size, none⟩)) w := by
          intro cb co c'
          simp only [Instr.indexAt, Sem.run_bind, asIntOf, Sem.run_pure, hd, then_ok, Bool.and_false, Bool.false_eq_true, if_false]
          rw [if_pos ⟨by omega, by omega⟩]
          simp only [Sem.run_bind, r_size ht, then_ok, Int.toNat_natCast, add_at, Sem.run_pure]
        cases rx with
        | sexact _ _ hi =>
          rename_i b o j
          refine ⟨_, key _ _ _, ?_, rfl⟩
          have := RV.ptr (tok := tok) (o := o + n * ti.size) hi
          rw [← Nat.add_assoc] at this
          exact this
        | @sloose b o _ _ _ _ j hi _ _ _ =>
          refine ⟨_, key _ _ _, ?_, rfl⟩
          have := RV.ptr (tok := tok) (o := o + n * ti.size) hi
          rw [← Nat.add_assoc] at this
          exact this
        | sempty => omega
      · cases e
    · cases e

theorem index_run (hT : TT P tt) {t : TypeId} {x x' i i' v : Value} (e : aIndex tt h t x i = some (.val v h')) (rx : RV μ tok x x') (ri : RV μ tok i i') (w : World) :
    ∃ v', (Instr.index t x' i').run P w = .ok v' w ∧ RV μ tok v v' ∧ h' = h := by
  unfold aIndex at e
  split at e
  · cases e
  · rename_i n hn
    obtain ⟨k, rfl⟩ := natOf_rv hn ri
    split at e
    · rename_i _ _ _ s hti
      split at e
      · rename_i b hb
        cases e
        obtain ⟨d, hk, _, hd⟩ := tells_k hT hti
        obtain rfl := tk_string hk
        cases rx
        refine ⟨.int .u8 b.toNat, ?_, .int _ _, rfl⟩
        rw [nth_eq] at hb
        have hb' : (⟨⟨s⟩⟩ : ByteArray)[n]? = some b := by
          obtain ⟨hlt, hg⟩ := List.getElem?_eq_some_iff.1 hb
          rw [getElem?_pos (⟨⟨s⟩⟩ : ByteArray) n hlt]
          exact congrArg some hg
        simp only [Instr.index, Sem.run_bind, asIntOf, Sem.run_pure, hd, then_ok, Int.natCast_nonneg, if_true, Int.toNat_natCast, hb']
      · cases e
    · rename_i m el _ _ _ c hti
      split at e
      · rename_i sz hsz
        obtain ⟨hlt, e⟩ := cond_some e
        have hlt := nblt hlt
        unfold ret at e
        split at e
        · rename_i u hu
          cases e
          obtain ⟨d, hk, _, hd⟩ := tells_k hT hti
          obtain rfl := tk_array hk
          obtain ⟨ti, ht, rfl⟩ := sizeL_tells hT hsz
          cases rx with
          | agg rl =>
            obtain ⟨v', hv, rv⟩ := partL_run hT hu rl w
            refine ⟨v', ?_, rv, rfl⟩
            simp only [Instr.index, Sem.run_bind, asIntOf, Sem.run_pure, hd, then_ok]
            rw [if_pos ⟨by omega, by omega⟩]
            simp only [Sem.run_bind, r_size ht, then_ok, Int.toNat_natCast]
            exact hv
        · cases e
      · cases e
    · cases e

/-- Two operands that may be absent. -/
def RO (μ : Mu) (tok : Nat → Value) : Option Value → Option Value → Prop
  | none, none => True
  | some a, some b => RV μ tok a b
  | _, _ => False

theorem sliceBound_run {k : IntKind} {n y : Nat} {code : BoundsCode} (h : n ≤ y) (w : World) : (Instr.sliceBound (.int k (n : Int)) y code).run P w = .ok n w := by
  simp only [Instr.sliceBound, asIntOf, Sem.run_bind, Sem.run_pure, then_ok]
  rw [if_pos ⟨by omega, by omega⟩]
  simp

theorem bounds_run {isSlice : Bool} {len cap cap' : Nat} {lo hi mx lo' hi' mx' : Option Value} {l r m : Nat} (e : boundsL len cap lo hi mx = some (l, r, m)) (hc : cap ≤ cap') (rl : RO μ tok lo lo') (rh : RO μ tok hi hi') (rm : RO μ tok mx mx') (w : World) :
    (Instr.sliceBounds isSlice len cap' lo' hi' mx').run P w = .ok (l, r, cond (isNone mx) cap' m) w ∧ l ≤ r ∧ r ≤ m ∧ m ≤ cap ∧ (isNone mx = true → m = cap) := by
  unfold boundsL at e
  split at e
  · cases e
  · rename_i m0 hm0
    split at e
    · cases e
    · rename_i r0 hr0
      split at e
      · cases e
      · rename_i l0 hl0
        obtain ⟨h1, e⟩ := cond_some e
        obtain ⟨h2, e⟩ := cond_some e
        obtain ⟨h3, e⟩ := cond_some e
        have h1 := nble h1
        have h2 := nble h2
        have h3 := nble h3
        cases e
        refine ⟨?_, h3, h2, h1, ?_⟩
        · have hl : (lo' = none ∧ l = 0) ∨ ∃ k, lo' = some (.int k (l : Int)) := by
            cases lo with
            | none => cases lo' with
              | some _ => exact rl.elim
              | none => simp only [Option.some.injEq] at hl0; exact .inl ⟨rfl, hl0.symm⟩
            | some a => cases lo' with
              | none => exact rl.elim
              | some a' => obtain ⟨k, rfl⟩ := natOf_rv hl0 rl; exact .inr ⟨k, rfl⟩
          cases mx with
          | none =>
            cases mx' with
            | some _ => exact rm.elim
            | none =>
              simp only [Option.some.injEq] at hm0
              subst hm0
              have hh : (hi' = none ∧ r = len) ∨ ∃ k, hi' = some (.int k (r : Int)) := by
                cases hi with
                | none => cases hi' with
                  | some _ => exact rh.elim
                  | none => simp only [cond_false, Option.some.injEq] at hr0; exact .inl ⟨rfl, hr0.symm⟩
                | some a => cases hi' with
                  | none => exact rh.elim
                  | some a' => obtain ⟨k, rfl⟩ := natOf_rv hr0 rh; exact .inr ⟨k, rfl⟩
              unfold Instr.sliceBounds
              rcases hl with ⟨rfl, rfl⟩ | ⟨k, rfl⟩ <;> rcases hh with ⟨rfl, rfl⟩ | ⟨k', rfl⟩ <;>
                simp [Sem.run_bind, Sem.run_pure, sliceBound_run h3, sliceBound_run (Nat.le_trans h2 hc), isNone]
          | some c =>
            cases mx' with
            | none => exact rm.elim
            | some c' =>
              obtain ⟨km, rfl⟩ := natOf_rv hm0 rm
              cases hi with
              | none => simp at hr0
              | some b =>
                cases hi' with
                | none => exact rh.elim
                | some b' =>
                  obtain ⟨k', rfl⟩ := natOf_rv hr0 rh
                  unfold Instr.sliceBounds
                  rcases hl with ⟨rfl, rfl⟩ | ⟨k, rfl⟩ <;> simp [Sem.run_bind, sliceBound_run h3, sliceBound_run (Nat.le_trans h1 hc), sliceBound_run h2, isNone]
        · intro hm
          cases mx with
          | some _ => cases hm
          | none => simpa using hm0.symm

end
end Go.Ev
