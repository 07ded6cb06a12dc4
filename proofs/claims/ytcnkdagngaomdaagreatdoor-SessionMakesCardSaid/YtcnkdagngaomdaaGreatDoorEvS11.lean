/-
  SOUNDNESS, ELEVENTH PART: append, whole; copy.
-/
import Derived.Test.YtcnkdagngaomdaaGreatDoorEvS10
namespace Go.Ev
open Go Go.RowKit

section
variable {P : Program} {tt : T TI} {w : World}
variable {μ : Mu} {tok : Nat → Value} {B0 : Nat} {w0 : World} {F : FH} {h h' : Hp}

theorem putCells_all (ok : HpOk h) (s : Sub h F) (r : HR μ tok B0 w0 F w) {b off : Nat} {new new' : List Value} (e : putCells h b off new = some h') (rn : RL μ tok new new') {i : Bi} (hi : μ b = some i) :
    ∃ w', (storeCells ⟨i.cb, i.co + off, none⟩ new').run P w = .ok () w' ∧ Good μ tok B0 w0 F h h' μ w' := by
  unfold putCells at e
  split at e
  · cases e
    cases rn
    exact ⟨w, rfl, Good.same ok s r⟩
  · split at e
    · rename_i c sz hc
      obtain ⟨h1, e⟩ := cond_some e
      split at e
      · rename_i c1 hc1
        cases e
        exact putCells_run ok s r hc hi hc1 (allB_spec h1) rn
      · cases e
    · cases e

theorem aAppend_run (hT : TT P tt) (ok : HpOk h) (s : Sub h F) (r : HR μ tok B0 w0 F w) {ts : Array TypeId} {ty : TypeId} {a0 x a0' x' v : Value} (e : aAppend tt h ts.toList [a0, x] = some (.val v h')) (f : Fresh μ F h.c h'.c) (ra : RV μ tok a0 a0') (rx : RV μ tok x x') :
    ∃ μ' v' w', (Builtin.append_ ts ty #[a0', x']).run P w = .ok v' w' ∧ RV μ' tok v v' ∧ Good μ tok B0 w0 F h h' μ' w' := by
  unfold aAppend at e
  split at e
  · rename_i st xt rest base n c x0 hts hargs
    simp only [List.cons.injEq, and_true] at hargs
    obtain ⟨rfl, rfl⟩ := hargs
    have h0 : ts[0]? = some st := by rw [← Array.getElem?_toList, hts]; rfl
    have h1 : ts[1]? = some xt := by rw [← Array.getElem?_toList, hts]; rfl
    split at e
    · rename_i el _ _ _ hst
      split at e
      · rename_i ek sz by_ z xi hel hxt
        obtain ⟨hsz0, e⟩ := cond_some' e
        obtain ⟨hz, e⟩ := cond_some e
        obtain ⟨hzl, e⟩ := cond_some e
        rw [len_eq] at hzl
        have hzl := nbeq hzl
        split at e
        · cases e
        · rename_i k new hnew
          obtain ⟨hnl, e⟩ := cond_some e
          rw [len_eq] at hnl
          have hnl : new.length = k * sz := nbeq hnl
          obtain ⟨d, hk, _, hd⟩ := tells_k hT hst
          obtain rfl := tk_slice hk
          have htel := hT _ _ hel
          obtain ⟨dx, hkx, _, hdx⟩ := r_under (hT _ _ hxt)
          obtain ⟨zeros, hz1, hN, hz2, hA⟩ := newL_run (B0 := B0) (w0 := w0) htel hz hzl hnew rx s r.tokOk
          have heq : ∀ base' c' w, (Builtin.append_ ts ty #[.slice base' n c', x']).run P w = (sAppend el sz zeros base' n c' x').run P w :=
            fun base' c' w => append_eq ts ty h0 h1 hd htel hdx (hz1 dx hkx) base' n c' x' hz2 w
          cases hroom : Nat.ble (Nat.add n k) c with
          | true =>
            rw [hroom, cond_true] at e
            have hle : n + k ≤ c := nble hroom
            obtain ⟨new', hA', rn⟩ := hA w r
            cases ra with
            | snil _ _ =>
              unfold roomL at e
              cases e
              exact ⟨μ, .slice none (n + k) c, w, by rw [heq]; exact sAppend_room hN hle hA' (fun a ha => by cases ha) (fun _ => rfl), RV.snil (n + k) c, Good.same ok s r⟩
            | @sexact b o _ _ i hi =>
              unfold roomL at e
              simp only at e
              split at e
              · rename_i h1' hput
                cases e
                obtain ⟨w', hw, g⟩ := putCells_all (P := P) ok s r hput rn hi
                refine ⟨μ, .slice (some ⟨i.cb, i.co + o, none⟩) (n + k) c, w', ?_, RV.sexact (n + k) c hi, g⟩
                rw [heq]
                refine sAppend_room hN hle hA' (fun a ha => ?_) (fun hn => by cases hn)
                cases ha
                rw [add_at]
                have : i.co + o + n * sz = i.co + (Nat.add o (Nat.mul n sz)) := by show i.co + o + n * sz = i.co + (o + n * sz); omega
                rw [this]; exact hw
              · cases e
            | @sloose b o z' _ _ c' i hi hc ho hC =>
              unfold roomL at e
              simp only at e
              split at e
              · rename_i h1' hput
                cases e
                obtain ⟨w', hw, g⟩ := putCells_all (P := P) ok s r hput rn hi
                refine ⟨μ, .slice (some ⟨i.cb, i.co + o, none⟩) (n + k) c', w', ?_, RV.sloose (n + k) hi hc ho hC, g⟩
                rw [heq]
                refine sAppend_room hN (Nat.le_trans hle hc) hA' (fun a ha => ?_) (fun hn => by cases hn)
                cases ha
                rw [add_at]
                have : i.co + o + n * sz = i.co + (Nat.add o (Nat.mul n sz)) := by show i.co + o + n * sz = i.co + (o + n * sz); omega
                rw [this]; exact hw
              · cases e
            | sempty b o a' c' =>
              have hk0 : k = 0 := by omega
              subst hk0
              have : new = [] := List.eq_nil_of_length_eq_zero (by omega)
              subst this
              cases rn
              unfold roomL at e
              simp only [putCells] at e
              cases e
              exact ⟨μ, .slice (some a') 0 c', w, by rw [heq]; exact sAppend_room hN (by omega) hA' (fun a ha => rfl) (fun hn => by cases hn), RV.sempty b o a' c', Good.same ok s r⟩
          | false =>
            rw [hroom, cond_false] at e
            have hlt : c < n + k := nble' hroom
            obtain ⟨hby, e⟩ := cond_some e
            have hby : (n + k) * (by_ + 1) ≤ 100000000 := nble hby
            have rd := r.drew
            have hz' : ∀ q, (rep z.cells.toList q).length = q * sz := by
              intro q
              rw [rep_length]
              have := ((RV.ofFlat (μ := μ) (tok := tok) hz).cells r.tokOk).len
              rw [← this, hzl]
            obtain ⟨new', hA0, rn⟩ := hA { w with drawn := w.drawn + 1 } rd
            have grown : ∀ {base' : Option Addr} {c' : Nat} {old' : List Value}, c' < n + k → (Builtin.firstCells sz n (.slice base' n c')).run P { w with drawn := w.drawn + 1 } = .ok ⟨old'⟩ { w with drawn := w.drawn + 1 } →
                ∃ cap, n + k ≤ cap ∧ (Builtin.append_ ts ty #[.slice base' n c', x']).run P w = .ok (.slice (some ⟨w.heap.size, 0, none⟩) (n + k) cap)
                  (World.alloc { w with drawn := w.drawn + 1 } (.cells ⟨(old' ++ new') ++ rep z.cells.toList (cap - (n + k))⟩ el)) := by
              intro base' c' old' hlt' hO
              obtain ⟨cap, hcap, hrun⟩ := sAppend_grow (x := x') (zeros := zeros) htel rfl hN hlt' hby hO hA0
              exact ⟨cap, hcap, by rw [heq]; exact hrun⟩
            unfold growL at e
            cases base with
            | none =>
              simp only at e
              obtain ⟨hn0, e⟩ := cond_some e
              have hn0 := nbeq hn0
              subst hn0
              obtain ⟨id, he, hv⟩ := newVal_spec e
              cases ra
              obtain ⟨cap, hcap, hrun⟩ := grown (base' := none) (c' := c) (old' := []) hlt (by simp [Builtin.firstCells])
              obtain ⟨μ', rv, g⟩ := fresh_run ok s r he f (by simpa using rn) el (need := 0 + k) (cap := cap) (sz := sz) (by simpa using hnl) (hz' _) hcap
              refine ⟨μ', _, _, hrun, ?_, ?_⟩
              · rw [hv]; exact rv
              · simpa using g
            | some a =>
              simp only at e
              split at e
              · rename_i cs bz ro hc
                split at e
                · cases e
                · rename_i old hold
                  have holdl : old.length = n * sz := by
                    obtain ⟨eo, hl⟩ := sliceN_spec hold
                    rw [eo]; simp
                    have : a.off + n * sz ≤ cs.length := hl
                    omega
                  have hsum : (old ++ new).length = (n + k) * sz := by rw [List.length_append, holdl, hnl, Nat.add_mul]
                  -- the old cells, as the world has them
                  have oldrun : ∀ {a' : Addr} {c' : Nat}, RV μ tok (.slice (some a) n c) (.slice (some a') n c') → a.spot ≠ some 1 →
                      ∃ old', (Builtin.firstCells sz n (.slice (some a') n c')).run P { w with drawn := w.drawn + 1 } = .ok ⟨old'⟩ { w with drawn := w.drawn + 1 } ∧ RL μ tok old old' := by
                    intro a' c' ra' hsp
                    refine srcL_run s rd (x := .slice (some a) n c) ?_ ra'
                    have hsrc : srcL h sz n (.slice (some a) n c) = (match a.spot with | some 1 => cond (Nat.beq n 0) (some []) none | _ => match h.get a.block with | some (.cells c _ _) => sliceN a.off (Nat.mul n sz) c | _ => none) := rfl
                    rw [hsrc]
                    split
                    · rename_i h1; exact absurd h1 hsp
                    · rw [hc]; exact hold
                  have freshCase : ∀ {a' : Addr} {c' : Nat} {old' : List Value} {hp : Hp} {id : Nat}, c' < n + k → (Builtin.firstCells sz n (.slice (some a') n c')).run P { w with drawn := w.drawn + 1 } = .ok ⟨old'⟩ { w with drawn := w.drawn + 1 } → RL μ tok old old' →
                      Good μ tok B0 w0 F h hp μ w → hp.new (.cells (old ++ new) 0 false) = some (id, h') → v = .slice (some ⟨id, 0, some (sz + 2)⟩) (n + k) (n + k) →
                      ∃ μ' v' w', (Builtin.append_ ts ty #[.slice (some a') n c', x']).run P w = .ok v' w' ∧ RV μ' tok v v' ∧ Good μ tok B0 w0 F h h' μ' w' := by
                    intro a' c' old' hp id hlt' hO ro' g0 he hv
                    obtain ⟨cap, hcap, hrun⟩ := grown hlt' hO
                    have f' : Fresh μ (ovr F hp) hp.c h'.c := f.later g0.ext g0.step
                    obtain ⟨μ', rv, g⟩ := fresh_run g0.step.ok (ovr_sub F hp) g0.hr he f' (ro'.append rn) el (need := n + k) (cap := cap) (sz := sz) hsum (hz' _) hcap
                    refine ⟨μ', _, _, hrun, by rw [hv]; exact rv, ?_⟩
                    exact g0.trans g
                  split at e
                  · rename_i hspot
                    obtain ⟨id, he, hv⟩ := newVal_spec e
                    cases ra with
                    | @sexact b o _ _ i hi =>
                      obtain ⟨old', hO, ro'⟩ := oldrun (.sexact _ _ hi) (by simp)
                      exact freshCase hlt hO ro' (Good.same ok s r) he hv
                    | sloose _ _ _ _ _ => cases hspot
                    | sempty _ _ _ _ => cases hspot
                  · rename_i q hspot
                    obtain ⟨hro, e1⟩ := cond_some' e
                    obtain ⟨hq, e2⟩ := cond_some e1
                    obtain ⟨hnc, e3⟩ := cond_some e2
                    obtain ⟨hcell, e4⟩ := cond_some e3
                    clear e1 e2 e3
                    have hq := nbeq hq
                    have hnc := nble hnc
                    subst hro
                    obtain ⟨id, he, hv⟩ := newVal_spec e4
                    cases ra with
                    | sexact _ _ _ => cases hspot
                    | sempty _ _ _ _ =>
                      simp only [Option.some.injEq] at hspot
                      have h2 : q = sz + 2 := hq
                      omega
                    | @sloose b o zz _ _ c' i hi hcc ho hC =>
                      have hzz : zz = sz := by
                        simp only [Option.some.injEq] at hspot
                        have h2 : q = sz + 2 := hq
                        omega
                      subst hzz
                      obtain ⟨old', hO, ro'⟩ := oldrun (.sloose _ hi hcc ho hC) (by simp)
                      by_cases hin : n + k ≤ c'
                      · -- in place
                        obtain ⟨new1, hA1, rn1⟩ := hA w r
                        obtain ⟨μ', w', hst, rv, g⟩ := reuse_run (P := P) ok s r hc hi rfl he f hold ho hC hnc rn1 hnl hin (allB_spec hcell)
                        refine ⟨μ', _, w', ?_, by rw [hv]; exact rv, g⟩
                        rw [heq]
                        exact sAppend_room hN hin hA1 (fun a ha => by cases ha; rw [add_at]; exact hst) (fun hn => by cases hn)
                      · exact freshCase (by omega) hO ro' (Good.kill ok s r hc) he hv
              · cases e
      · cases e
    · cases e
  · cases e

end
end Go.Ev
