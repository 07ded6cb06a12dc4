/-
  SOUNDNESS, SIXTH PART: values that are built, parts of them, places, slices, new blocks.
-/
import Derived.Test.YtcnkdagngaomdaaGreatDoorEvS5
namespace Go.Ev
open Go Go.RowKit

section
variable {P : Program} {tt : T TI} {w : World}
variable {μ : Mu} {tok : Nat → Value} {B0 : Nat} {w0 : World} {F : FH} {h h' : Hp}

theorem foldl_put (off : Nat) : ∀ (vs pre mid suf : List Value) (k : Nat), mid.length = vs.length → pre.length = off + k →
    (vs.zipIdx k).foldl (fun (cs : Array Value) (x : Value × Nat) => cs.setIfInBounds (off + x.2) x.1) ⟨pre ++ (mid ++ suf)⟩ = ⟨pre ++ (vs ++ suf)⟩
  | [], pre, mid, suf, k, hl, _ => by
    have : mid = [] := by simpa using hl
    subst this; rfl
  | v :: vs, pre, [], suf, k, hl, _ => by simp at hl
  | v :: vs, pre, m :: mid, suf, k, hl, hk => by
    have ih := foldl_put off vs (pre ++ [v]) mid suf (k + 1) (by simpa using hl) (by simp; omega)
    simp only [List.zipIdx_cons, List.foldl_cons]
    rw [← hk]
    simp only [List.append_assoc, List.cons_append, List.nil_append] at ih
    simp only [List.setIfInBounds_toArray, List.cons_append, List.set_append_right _ _ (Nat.le_refl _), Nat.sub_self, List.set_cons_zero]
    exact ih

theorem fill_run (tokOk : ∀ k, cellOk (tok k) = true) {place place' : Nat → Option (Nat × Nat)} (hp : ∀ i p, place i = some p → place' i = some p) {ρ ρ' : Operand → Value} :
    ∀ (l : List (Nat × Operand)) (c c' r : List Value), fillL place (l.map fun p => (p.1, ρ p.2)) c = some r → RL μ tok c c' → (∀ p ∈ l, RV μ tok (ρ p.2) (ρ' p.2)) →
      ∃ r', Instr.fill place' ⟨c'⟩ (l.map fun p => (p.1, ρ' p.2)) = some ⟨r'⟩ ∧ RL μ tok r r'
  | [], c, c', r, e, rc, _ => by
    simp only [List.map_nil, fillL, Option.some.injEq] at e
    subst e
    exact ⟨c', rfl, rc⟩
  | p :: l, c, c', r, e, rc, hρ => by
    simp only [List.map_cons, fillL] at e
    split at e
    · cases e
    · rename_i off size hpl
      obtain ⟨hlen, e⟩ := cond_some e
      split at e
      · rename_i c1 hc1
        have rv := (hρ p (by simp)).cells tokOk
        obtain ⟨e1, hl1⟩ := splice_spec hc1
        have hcl := rc.len
        have hvl := rv.len
        rw [len_eq] at hlen
        have hlen := nbeq hlen
        have hsz : (ρ' p.2).cells.toList.length = (ρ' p.2).cells.size := by simp
        have hput : (ρ' p.2).cells.zipIdx.foldl (fun (cs : Array Value) (x : Value × Nat) => cs.setIfInBounds (off + x.2) x.1) ⟨c'⟩ = ⟨c'.take off ++ ((ρ' p.2).cells.toList ++ c'.drop (off + (ρ' p.2).cells.toList.length))⟩ := by
          rw [← Array.foldl_toList, Array.toList_zipIdx]
          have := foldl_put off (ρ' p.2).cells.toList (c'.take off) ((c'.drop off).take (ρ' p.2).cells.toList.length) (c'.drop (off + (ρ' p.2).cells.toList.length)) 0 (by simp; omega) (by simp; omega)
          rw [← this]
          congr 1
          congr 1
          rw [← List.drop_drop, List.take_append_drop, List.take_append_drop]
        obtain ⟨r', hr', rr⟩ := fill_run tokOk hp l c1 _ r e (by rw [e1, hvl]; exact (rc.take off).append (rv.append (rc.drop _))) (fun q hq => hρ q (by simp [hq]))
        refine ⟨r', ?_, rr⟩
        simp only [List.map_cons, Instr.fill, hp _ _ hpl]
        rw [if_neg]
        · rw [hput]; exact hr'
        · simp only [Bool.or_eq_true, decide_eq_true_eq, not_or, ne_eq, Decidable.not_not]
          constructor
          · omega
          · simp only [List.size_toArray]; omega
      · cases e

theorem mapM_sizes (hT : TT P tt) : ∀ (l : List Field), allB (fun (p : Nat × TypeId) => match sizeL tt p.2 with | some _ => true | none => false) (l.map fun f => (f.offset, f.type)) = true →
    ∃ r : List (Nat × Nat), (∀ w, (l.mapM fun f => (do pure (f.offset, ← sizeOf f.type) : Sem (Nat × Nat))).run P w = .ok r w) ∧ ∀ (i : Nat) (p : Nat × Nat), placeS tt (l.map fun f => (f.offset, f.type)) i = some p → r[i]? = some p
  | [], _ => ⟨[], fun w => by simp, fun i p hp => by simp [placeS, nth] at hp⟩
  | f :: l, h => by
    simp only [List.map_cons, allB] at h
    cases hs : sizeL tt f.type with
    | none => rw [hs] at h; cases h
    | some n =>
      rw [hs] at h
      obtain ⟨r, hr, hg⟩ := mapM_sizes hT l (by simpa using h)
      obtain ⟨ti, ht, hn⟩ := sizeL_tells hT hs
      refine ⟨(f.offset, n) :: r, ?_, ?_⟩
      · intro w
        rw [List.mapM_cons]
        simp only [Sem.run_bind, r_size ht, then_ok, Sem.run_pure, hr, hn]
      · intro i p hp
        cases i with
        | zero => simpa [placeS, nth, hs] using hp
        | succ i => simpa using hg i p (by simpa [placeS, nth] using hp)

theorem tk_struct {d : TypeDesc} {fs : List (Nat × TypeId)} (h : tkOf d = .struct fs) : ∃ fields, d = .struct fields ∧ fs = fields.toList.map fun f => (f.offset, f.type) := by
  cases d <;> simp [tkOf] at h
  exact ⟨_, rfl, h.symm⟩
theorem tk_array {d : TypeDesc} {n e : Nat} (h : tkOf d = .array n e) : d = .array n e := by
  cases d <;> simp [tkOf] at h
  obtain ⟨rfl, rfl⟩ := h; rfl
theorem tk_slice {d : TypeDesc} {e : Nat} (h : tkOf d = .slice e) : d = .slice e := by
  cases d <;> simp [tkOf] at h
  subst h; rfl
theorem tk_ptr {d : TypeDesc} {e : Nat} (h : tkOf d = .ptr e) : d = .pointer e := by
  cases d <;> simp [tkOf] at h
  subst h; rfl
theorem tk_map {d : TypeDesc} {k e : Nat} (h : tkOf d = .map k e) : d = .map k e := by
  cases d <;> simp [tkOf] at h
  obtain ⟨rfl, rfl⟩ := h; rfl
theorem tk_string {d : TypeDesc} (h : tkOf d = .string) : d = .string := by
  cases d <;> simp [tkOf] at h
  rfl
theorem tk_int {d : TypeDesc} {k : IntKind} (h : tkOf d = .int k) : d = .int k := by
  cases d <;> simp [tkOf] at h
  subst h; rfl
theorem tk_iface {d : TypeDesc} (h : tkOf d ≠ .iface) : ∀ ms, d ≠ .interface ms := by
  rintro ms rfl; exact h rfl

/-- A type's row by its kind. -/
theorem tells_k {t : TypeId} {k : TK} {sz by_ : Nat} {z : Option Value} (hT : TT P tt) (h : tt.get t = some ⟨k, sz, by_, z⟩) : ∃ d, tkOf d = k ∧ P.underlying t = some d ∧ ∀ w, (underlying t).run P w = .ok d w := r_under (hT t _ h)

theorem aBuild_run (hT : TT P tt) (tokOk : ∀ k, cellOk (tok k) = true) {t : TypeId} {ps : Array (Nat × Operand)} {ρ ρ' : Operand → Value} {v : Value} (e : aBuild tt h t (ps.toList.map fun p => (p.1, ρ p.2)) = some (.val v h'))
    (hρ : ∀ p ∈ ps.toList, RV μ tok (ρ p.2) (ρ' p.2)) (w : World) : ∃ v', (Instr.build t (ps.map fun (i, x) => (i, ρ' x))).run P w = .ok v' w ∧ RV μ tok v v' ∧ h' = h := by
  have hl : (ps.map fun (i, x) => (i, ρ' x)).toList = ps.toList.map fun p => (p.1, ρ' p.2) := by simp
  unfold aBuild at e
  split at e
  · rename_i fs sz by_ z hti
    obtain ⟨hz, e⟩ := cond_some e
    obtain ⟨hs, e⟩ := cond_some e
    split at e
    · rename_i c hc
      cases e
      obtain ⟨d, hk, _, hd⟩ := tells_k hT hti
      obtain ⟨fields, rfl, hfs⟩ := tk_struct hk
      subst hfs
      obtain ⟨r, hr, hg⟩ := mapM_sizes hT fields.toList hs
      have rz : RL μ tok (cellsL z) z.cells.toList := (RV.ofFlat hz).cells tokOk
      let pl : Nat → Option (Nat × Nat) := fun i => r[i]?
      obtain ⟨r', hf, rr⟩ := fill_run tokOk (place' := pl) (fun i p hp => hg i p hp) ps.toList _ _ c hc rz hρ
      refine ⟨.agg ⟨r'⟩, ?_, .agg rr, rfl⟩
      unfold Instr.build
      simp only [Sem.run_bind, r_zero (hT t _ hti) rfl, then_ok, hd, Array.mapM_eq_mapM_toList, map_eq_pure_bind, Sem.run_pure, hr, hl]
      have hf' : Instr.fill (fun (x : Nat) => r.toArray[x]?) z.cells (ps.toList.map fun p => (p.1, ρ' p.2)) = some ⟨r'⟩ := by
        have : (fun (x : Nat) => r.toArray[x]?) = fun (i : Nat) => r[i]? := by funext i; simp
        rw [this]; exact hf
      rw [hf']
      rfl
    · cases e
  · rename_i n el sz by_ z hti
    obtain ⟨hz, e⟩ := cond_some e
    split at e
    · rename_i m hm
      split at e
      · rename_i c hc
        cases e
        obtain ⟨d, hk, _, hd⟩ := tells_k hT hti
        obtain rfl := tk_array hk
        obtain ⟨ti, ht, hn⟩ := sizeL_tells hT hm
        subst hn
        have rz : RL μ tok (cellsL z) z.cells.toList := (RV.ofFlat hz).cells tokOk
        obtain ⟨r', hf, rr⟩ := fill_run tokOk (place' := fun i => some (i * ti.size, ti.size)) (fun i p hp => hp) ps.toList _ _ c hc rz hρ
        refine ⟨.agg ⟨r'⟩, ?_, .agg rr, rfl⟩
        unfold Instr.build
        simp only [Sem.run_bind, r_zero (hT t _ hti) rfl, then_ok, hd, r_size ht, hl]
        have hf' : Instr.fill (fun i => some (i * ti.size, ti.size)) z.cells (ps.toList.map fun p => (p.1, ρ' p.2)) = some ⟨r'⟩ := hf
        rw [hf']
        rfl
      · cases e
    · cases e
  · cases e

/-- New cells: the block of a variable, of a slice. -/
theorem newCells_run (ok : HpOk h) (s : Sub h F) (r : HR μ tok B0 w0 F w) {c c' : List Value} {id : Nat} (e : h.new (.cells c 0 false) = some (id, h')) (f : Fresh μ F h.c h'.c) (rc : RL μ tok c c') (t : TypeId) :
    ∃ i, i.cb = w.heap.size ∧ i.co = 0 ∧ (newRow t ⟨c'⟩).run P w = .ok ⟨w.heap.size, 0, none⟩ (w.alloc (.cells ⟨c'⟩ t)) ∧ (μ.upd id i) id = some i ∧ Good μ tok B0 w0 F h h' (μ.upd id i) (w.alloc (.cells ⟨c'⟩ t)) := by
  refine ⟨⟨w.heap.size, 0, c.length, c'.length⟩, rfl, rfl, ?_, Mu.upd_same _ _ _, Good.new ok s r e f rfl ?_⟩
  · simp only [newRow, newObj, Sem.run_bind, Sem.run, then_ok, Sem.run_pure]
    rfl
  · refine ⟨t, (0, 0), [], c', [], by simp, rfl, rc.mono (Mu.le_upd _ (f _ ?_ ?_).1), rfl, by simp, fun _ => ⟨Nat.le_trans r.b0 r.below.size, fun off _ => by simp⟩⟩
    · obtain ⟨hid, hc, _⟩ := Hp.new_spec ok e; omega
    · obtain ⟨hid, hc, _⟩ := Hp.new_spec ok e; omega

theorem newVal_spec {b : Blk} {k : Nat → Value} {v : Value} (e : newVal h b k = some (.val v h')) : ∃ id, h.new b = some (id, h') ∧ v = k id := by
  unfold newVal at e
  split at e
  · rename_i id h1 he
    cases e
    exact ⟨id, he, rfl⟩
  · cases e

theorem newVar_run (ok : HpOk h) (s : Sub h F) (r : HR μ tok B0 w0 F w) {x x' : Value} {v : Value} (e : newVal h (.cells (cellsL x) 0 false) ptr0 = some (.val v h')) (f : Fresh μ F h.c h'.c) (rx : RV μ tok x x') (t : TypeId) :
    ∃ μ' v' w', (do pure (.pointer (some (← newVar t x'))) : Sem Value).run P w = .ok v' w' ∧ RV μ' tok v v' ∧ Good μ tok B0 w0 F h h' μ' w' := by
  obtain ⟨id, he, rfl⟩ := newVal_spec e
  have rc := rx.cells r.tokOk
  obtain ⟨i, hcb, hco, hrun, hμ, g⟩ := newCells_run (P := P) ok s r he f rc t
  refine ⟨_, .pointer (some ⟨w.heap.size, 0, none⟩), _, ?_, ?_, g⟩
  · have : newVar t x' = newRow t ⟨x'.cells.toList⟩ := by simp [newVar]
    simp only [Sem.run_bind, this, hrun, then_ok, Sem.run_pure]
  · have := RV.ptr (μ := μ.upd id i) (tok := tok) (o := 0) hμ
    rw [hcb, hco] at this
    exact this

end
end Go.Ev
