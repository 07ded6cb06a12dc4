/-
  SOUNDNESS, FIFTH PART: loads and stores.
-/
import Derived.Test.YtcnkdagngaomdaaGreatDoorEvS4
namespace Go.Ev
open Go Go.RowKit

theorem then_ok {α β : Type} (a : α) (w : World) (f : α → World → Result β) : (Result.ok a w).andThen f = f a w := rfl

section
variable {P : Program} {tt : T TI} {w : World}

theorem r_under {t : TypeId} {ti : TI} (h : Tells P t ti) : ∃ d, tkOf d = ti.k ∧ P.underlying t = some d ∧ ∀ w, (underlying t).run P w = .ok d w := by
  obtain ⟨d, hd, hk⟩ := h.under
  refine ⟨d, hk, hd, fun w => ?_⟩
  simp [underlying, program, Sem.run, hd]

theorem r_size {t : TypeId} {ti : TI} (h : Tells P t ti) (w : World) : (sizeOf t).run P w = .ok ti.size w := by
  obtain ⟨i, hi, hs, _⟩ := h.info
  simp [sizeOf, typeInfo, program, Sem.run, hi, hs]

theorem r_info {t : TypeId} {ti : TI} (h : Tells P t ti) : ∃ i, i.size = ti.size ∧ i.bytes = ti.bytes ∧ i.zero = ti.zero ∧ ∀ w, (typeInfo t).run P w = .ok i w := by
  obtain ⟨i, hi, hs, hb, hz⟩ := h.info
  exact ⟨i, hs, hb, hz, fun w => by simp [typeInfo, program, Sem.run, hi]⟩

theorem r_zero {t : TypeId} {ti : TI} {z : Value} (h : Tells P t ti) (hz : ti.zero = some z) (w : World) : (zeroValue t).run P w = .ok z w := by
  obtain ⟨i, hi, _, _, h0⟩ := h.info
  rw [hz] at h0
  simp [zeroValue, typeInfo, program, Sem.run, hi, h0]

theorem r_agg {t : TypeId} {ti : TI} (h : Tells P t ti) (w : World) : (isAgg t).run P w = .ok ti.k.agg w := by
  obtain ⟨d, hk, _, hr⟩ := r_under h
  rw [← hk]
  unfold isAgg
  simp only [Sem.run_bind, hr, then_ok]
  cases d <;> rfl

theorem sizeL_tells (hT : TT P tt) {t : TypeId} {n : Nat} (h : sizeL tt t = some n) : ∃ ti, Tells P t ti ∧ ti.size = n := by
  unfold sizeL at h
  split at h
  · rename_i ti hti; cases h; exact ⟨ti, hT t ti hti, rfl⟩
  · cases h

theorem zeroL_tells (hT : TT P tt) {t : TypeId} {z : Value} (h : zeroL tt t = some z) : ∃ ti, Tells P t ti ∧ ti.zero = some z := by
  unfold zeroL at h
  split at h
  · rename_i ti hti; exact ⟨ti, hT t ti hti, h⟩
  · cases h

variable {μ : Mu} {tok : Nat → Value} {B0 : Nat} {w0 : World} {F : FH} {h : Hp}

/-- A part of related cells. -/
theorem partL_run (hT : TT P tt) {t : TypeId} {c cs : List Value} {off : Nat} {v : Value} (e : partL tt t c off = some v) (r : RL μ tok c cs) (w : World) :
    ∃ v', (part t ⟨cs⟩ off).run P w = .ok v' w ∧ RV μ tok v v' := by
  unfold partL at e
  split at e
  · cases e
  · rename_i ti hti
    have ht := hT t ti hti
    cases ha : ti.k.agg with
    | true =>
      rw [ha] at e
      simp only [cond_true] at e
      split at e
      · rename_i l hl
        cases e
        obtain ⟨el, hlen⟩ := sliceN_spec hl
        refine ⟨.agg ⟨(cs.drop off).take ti.size⟩, ?_, .agg (by rw [el]; exact (r.drop off).take _)⟩
        unfold part
        simp only [Sem.run_bind, r_agg ht, ha, then_ok, if_true, r_size ht, Sem.run_pure]
        congr 2
        simp
      · cases e
    | false =>
      rw [ha] at e
      simp only [cond_false] at e
      rw [nth_eq] at e
      obtain ⟨v', hv, rv⟩ := r.get e
      refine ⟨v', ?_, rv⟩
      unfold part
      simp only [Sem.run_bind, r_agg ht, ha, then_ok, Bool.false_eq_true, if_false]
      have : (⟨cs⟩ : Array Value)[off]? = some v' := by simpa using hv
      rw [this]; rfl

theorem cell_of {w : World} {cb : Nat} {L : List Value} {E : TypeId} {fz : Nat × Nat} (hb : w.heap[cb]? = some (.cells ⟨L⟩ E fz)) (o : Nat) : w.cell? ⟨cb, o, none⟩ = L[o]? := by
  unfold World.cell?
  simp only [hb]
  simp

theorem frozen_of {w : World} {cb : Nat} {L : Array Value} {E : TypeId} {fz : Nat × Nat} (hb : w.heap[cb]? = some (.cells L E fz)) {o : Nat} (h : ¬ (fz.1 ≤ o ∧ o < fz.2)) : w.frozen? ⟨cb, o, none⟩ = false := by
  unfold World.frozen?
  simp only [hb]
  obtain ⟨lo, hi⟩ := fz
  simp only [Bool.and_eq_false_iff, decide_eq_false_iff_not]
  by_cases h1 : lo ≤ o
  · exact .inr (fun h2 => h ⟨h1, h2⟩)
  · exact .inl h1

theorem add_at (cb o j : Nat) : (⟨cb, o, none⟩ : Addr).add j = ⟨cb, o + j, none⟩ := by
  unfold Addr.add
  split
  · rename_i h; subst h; rfl
  · rfl

theorem getElem?_mid {pre c suf : List Value} {o : Nat} (h : o < c.length) : (pre ++ (c ++ suf))[pre.length + o]? = c[o]? := by
  rw [List.getElem?_append_right (by omega)]
  rw [List.getElem?_append_left (by omega)]
  congr 1; omega

/-- A load of what the abstract heap has at a place. -/
theorem loadVar_run (hT : TT P tt) {t : TypeId} {c c' pre suf : List Value} {E : TypeId} {fz : Nat × Nat} {off cb co : Nat} {v : Value} (e : partL tt t c off = some v) (r : RL μ tok c c')
    (hb : w.heap[cb]? = some (.cells ⟨pre ++ (c' ++ suf)⟩ E fz)) (hp : pre.length = co) : ∃ v', (loadVar t ⟨cb, co + off, none⟩).run P w = .ok v' w ∧ RV μ tok v v' := by
  subst hp
  unfold partL at e
  split at e
  · cases e
  · rename_i ti hti
    have ht := hT t ti hti
    cases ha : ti.k.agg with
    | true =>
      rw [ha] at e
      simp only [cond_true] at e
      split at e
      · rename_i l hl
        cases e
        obtain ⟨el, hlen⟩ := sliceN_spec hl
        have hlen' : off + ti.size ≤ c'.length := by rw [← r.len]; exact hlen
        have hcs : ((c'.drop off).take ti.size).length = ti.size := by simp; omega
        refine ⟨.agg ⟨(c'.drop off).take ti.size⟩, ?_, .agg (by rw [el]; exact (r.drop off).take _)⟩
        unfold loadVar
        simp only [Sem.run_bind, r_agg ht, ha, then_ok, if_true, r_size ht]
        have := run_loadCells_list (P := P) w ⟨cb, pre.length + off, none⟩ ((c'.drop off).take ti.size) (by
          intro j v hj
          rw [add_at, cell_of hb]
          have hj' : j < ti.size := by
            have := (List.getElem?_eq_some_iff.1 hj).1; rw [hcs] at this; exact this
          rw [show pre.length + off + j = pre.length + (off + j) from by omega, getElem?_mid (by omega)]
          rw [List.getElem?_take_of_lt hj', List.getElem?_drop] at hj
          exact hj)
        rw [hcs] at this
        rw [this]
        rfl
      · cases e
    | false =>
      rw [ha] at e
      simp only [cond_false] at e
      rw [nth_eq] at e
      obtain ⟨v', hv, rv⟩ := r.get e
      refine ⟨v', ?_, rv⟩
      unfold loadVar
      simp only [Sem.run_bind, r_agg ht, ha, then_ok, Bool.false_eq_true, if_false]
      have hlt := (List.getElem?_eq_some_iff.1 hv).1
      have hc : w.cell? ⟨cb, pre.length + off, none⟩ = some v' := by rw [cell_of hb, getElem?_mid hlt]; exact hv
      simp [load, Sem.run, hc]

theorem setBlk_id {w : World} {b : Nat} {o : Obj} (h : w.heap[b]? = some o) : setBlk w b o = w := by
  unfold setBlk
  have : w.heap.setIfInBounds b o = w.heap := by
    apply Array.ext_getElem?
    intro i
    rw [Array.getElem?_setIfInBounds]
    by_cases e : b = i
    · subst e
      have hb : b < w.heap.size := by
        rcases Nat.lt_or_ge b w.heap.size with h' | h'
        · exact h'
        · rw [Array.getElem?_eq_none h'] at h; cases h
      rw [if_pos rfl, if_pos hb, h]
    · rw [if_neg e]
  rw [this]

theorem setCell_blk {w : World} {cb off : Nat} {C : Array Value} {E : TypeId} {fz : Nat × Nat} {v : Value} (hb : w.heap[cb]? = some (.cells C E fz)) :
    w.setCell ⟨cb, off, none⟩ v = setBlk w cb (.cells (C.setIfInBounds off v) E fz) := by
  have hlt : cb < w.heap.size := by
    rcases Nat.lt_or_ge cb w.heap.size with h' | h'
    · exact h'
    · rw [Array.getElem?_eq_none h'] at hb; cases hb
  unfold World.setCell setBlk
  congr 1
  apply Array.ext_getElem?
  intro i
  rw [Array.getElem?_modify, Array.getElem?_setIfInBounds]
  by_cases e : cb = i
  · subst e
    rw [if_pos rfl, if_pos rfl, if_pos hlt, hb]
    rfl
  · rw [if_neg e, if_neg e]

theorem oneCell_of {v : Value} (h : cellOk v = true) : v.oneCell' = true := by cases v <;> first | rfl | cases h

theorem run_storeCells_blk (cb o : Nat) (E : TypeId) (fz : Nat × Nat) : ∀ (vs pre mid suf : List Value) (k : Nat) (w : World), mid.length = vs.length →
    w.heap[cb]? = some (.cells ⟨pre ++ (mid ++ suf)⟩ E fz) → (∀ off, off < pre.length + (mid.length + suf.length) → ¬ (fz.1 ≤ off ∧ off < fz.2)) → (∀ v ∈ vs, cellOk v = true) → pre.length = o + k →
    (storeCells ⟨cb, o, none⟩ vs k).run P w = .ok () (setBlk w cb (.cells ⟨pre ++ (vs ++ suf)⟩ E fz))
  | [], pre, mid, suf, k, w, hl, hb, _, _, _ => by
    have : mid = [] := by simpa using hl
    subst this
    rw [setBlk_id (by simpa using hb)]
    rfl
  | v :: vs, pre, [], suf, k, w, hl, _, _, _, _ => by simp at hl
  | v :: vs, pre, m :: mid, suf, k, w, hl, hb, hf, hok, hk => by
    have hv := hok v (by simp)
    have hc : w.cell? ⟨cb, o + k, none⟩ = some m := by
      rw [cell_of hb, ← hk]
      simp
    have hz : w.frozen? ⟨cb, o + k, none⟩ = false := frozen_of hb (hf _ (by simp; omega))
    have hs : (store ((⟨cb, o, none⟩ : Addr).add k) v).run P w = .ok () (w.setCell ⟨cb, o + k, none⟩ v) := by
      rw [add_at, run_store P w _ v .plain (oneCell_of hv), hc, hz]
      rfl
    have hset : w.setCell ⟨cb, o + k, none⟩ v = setBlk w cb (.cells ⟨(pre ++ [v]) ++ (mid ++ suf)⟩ E fz) := by
      rw [setCell_blk hb]
      congr 2
      rw [← hk]
      simp
    have hlt : cb < w.heap.size := by
      rcases Nat.lt_or_ge cb w.heap.size with h' | h'
      · exact h'
      · rw [Array.getElem?_eq_none h'] at hb; cases hb
    unfold storeCells
    simp only [Sem.run_bind, hs, then_ok]
    rw [hset]
    have ih := run_storeCells_blk cb o E fz vs (pre ++ [v]) mid suf (k + 1) (setBlk w cb (.cells ⟨(pre ++ [v]) ++ (mid ++ suf)⟩ E fz)) (by simpa using hl) (setBlk_same hlt)
      (by intro off ho; exact hf off (by simp at ho ⊢; omega)) (fun x hx => hok x (by simp [hx])) (by simp; omega)
    rw [ih, setBlk_setBlk]
    simp

/-- What is live at a place. -/
theorem at_blk (s : Sub h F) (r : HR μ tok B0 w0 F w) {b : Nat} {c : List Value} {sz : Nat} {ro : Bool} (e : h.get b = some (.cells c sz ro)) {i : Bi} (hi : μ b = some i) :
    ∃ o, w.heap[i.cb]? = some o ∧ BR μ tok B0 i o (.cells c sz ro) := by
  obtain ⟨j, o, hj, ho, hb⟩ := r.blk b _ (s b _ e) (by simp)
  rw [hi] at hj; cases hj
  exact ⟨o, ho, hb⟩

theorem loadL_run (hT : TT P tt) (s : Sub h F) (r : HR μ tok B0 w0 F w) {t : TypeId} {a : Addr} {v p' : Value} (e : loadL tt h t a = some v) (ra : RV μ tok (.pointer (some a)) p') :
    ∃ v', (Instr.loadAt t p').run P w = .ok v' w ∧ RV μ tok v v' := by
  unfold loadL at e
  split at e
  · rename_i c sz ro hc
    cases ra with
    | ptr hi =>
      obtain ⟨o, ho, E, fz, pre, c', suf, rfl, hp, rl, _⟩ := at_blk s r hc hi
      obtain ⟨v', hv, rv⟩ := loadVar_run (w := w) hT e rl ho hp
      exact ⟨v', by simpa [Instr.loadAt, Instr.sureAddr] using hv, rv⟩
  · cases e

/-- New cells over those of a block, from a place on. -/
theorem putCells_run (ok : HpOk h) (s : Sub h F) (r : HR μ tok B0 w0 F w) {b off : Nat} {new new' : List Value} {c c1 : List Value} {sz : Nat} (hc : h.get b = some (.cells c sz false)) {i : Bi} (hi : μ b = some i)
    (hs : splice off c new = some c1) (hok : ∀ x ∈ new, cellOk x = true) (rn : RL μ tok new new') :
    ∃ w', (storeCells ⟨i.cb, i.co + off, none⟩ new').run P w = .ok () w' ∧ Good μ tok B0 w0 F h (h.put b (.cells c1 sz false)) μ w' := by
  obtain ⟨o, ho, E, fz, pre, c', suf, rfl, hp, rl, hL, hCS, hro⟩ := at_blk s r hc hi
  obtain ⟨hB, hfz⟩ := hro rfl
  obtain ⟨e1, hlen⟩ := splice_spec hs
  have hcl := rl.len
  have hnl := rn.len
  have hsplit : pre ++ (c' ++ suf) = (pre ++ c'.take off) ++ ((c'.drop off).take new'.length ++ (c'.drop (off + new'.length) ++ suf)) := by
    have h1 : c' = c'.take off ++ ((c'.drop off).take new'.length ++ c'.drop (off + new'.length)) := by
      rw [← List.drop_drop, List.take_append_drop, List.take_append_drop]
    conv => lhs; rw [h1]
    simp [List.append_assoc]
  have hst := run_storeCells_blk (P := P) i.cb (i.co + off) E fz new' (pre ++ c'.take off) ((c'.drop off).take new'.length) (c'.drop (off + new'.length) ++ suf) 0 w
    (by simp; omega) (by rw [← hsplit]; exact ho) (by intro k hk; exact hfz k (by simp at hk; omega)) (rn.cellOk r.tokOk hok) (by simp; omega)
  refine ⟨_, hst, Good.put ok s r hc (by simp) hi hB ?_⟩
  intro _
  refine ⟨E, fz, pre, c'.take off ++ (new' ++ c'.drop (off + new'.length)), suf, by simp, hp, ?_, ?_, ?_, fun _ => ⟨hB, hfz⟩⟩
  · rw [e1, hnl]
    exact (rl.take off).append (rn.append (rl.drop _))
  · rw [e1]; simp; omega
  · simp; omega

theorem storeL_run (hT : TT P tt) (ok : HpOk h) (s : Sub h F) (r : HR μ tok B0 w0 F w) {t : TypeId} {a : Addr} {v v' p' : Value} {h' : Hp} (e : storeL tt h t a v = some h') (ra : RV μ tok (.pointer (some a)) p') (rv : RV μ tok v v') :
    ∃ w', (Instr.storeAt t p' v').run P w = .ok () w' ∧ Good μ tok B0 w0 F h h' μ w' := by
  unfold storeL at e
  split at e
  · cases e
  · rename_i ti hti
    split at e
    · rename_i c sz hc
      obtain ⟨hlen, e⟩ := cond_some e
      obtain ⟨hcell, e⟩ := cond_some e
      split at e
      · rename_i c1 hc1
        cases e
        cases ra with
        | ptr hi =>
          have rc := rv.cells r.tokOk
          obtain ⟨w', hw, g⟩ := putCells_run (P := P) ok s r hc hi hc1 (allB_spec hcell) rc
          refine ⟨w', ?_, g⟩
          have hsize : v'.cells.size = ti.size := by
            have := rc.len; rw [len_eq] at hlen; have := nbeq hlen; simp at *; omega
          simp only [Instr.storeAt, Instr.sureAddr, storeVar, Sem.run_bind, Sem.run_pure, then_ok, r_size (hT t ti hti)]
          rw [if_neg (by simp [hsize])]
          exact hw
      · cases e
    · cases e

end
end Go.Ev
