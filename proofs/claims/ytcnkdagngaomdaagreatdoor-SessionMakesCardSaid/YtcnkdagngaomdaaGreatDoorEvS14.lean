/-
  SOUNDNESS, FOURTEENTH PART: maps that are written, gone through.
-/
import Derived.Test.YtcnkdagngaomdaaGreatDoorEvS13
namespace Go.Ev
open Go Go.RowKit

section
variable {P : Program} {tt : T TI} {w : World}
variable {μ : Mu} {tok : Nat → Value} {B0 : Nat} {w0 : World} {F : FH} {h h' : Hp}

theorem RE.len {es es' : List MapEntry} (r : RE μ tok es es') : es.length = es'.length := by
  induction r with
  | nil => rfl
  | cons _ _ _ ih => simp [ih]

theorem RE.snoc {es es' : List MapEntry} (r : RE μ tok es es') {k v v' : Value} {n : Nat} (f : Ev.flat1 k = true) (rv : RV μ tok v v') : RE μ tok (Ev.snoc es ⟨k, v, n⟩) (es' ++ [⟨k, v', n⟩]) := by
  induction r with
  | nil => exact .cons f rv .nil
  | cons f' rv' _ ih => exact .cons f' rv' ih

theorem RE.setAt {es es' : List MapEntry} (r : RE μ tok es es') {j : Nat} {k v v' : Value} {n : Nat} (f : Ev.flat1 k = true) (rv : RV μ tok v v') : RE μ tok (Ev.setAt es j ⟨k, v, n⟩) (es'.set j ⟨k, v', n⟩) := by
  induction r generalizing j with
  | nil => exact .nil
  | cons f' rv' r' ih => cases j with
    | zero => exact .cons f rv r'
    | succ j => exact .cons f' rv' ih

theorem RE.cutAt {es es' : List MapEntry} (r : RE μ tok es es') (j : Nat) : RE μ tok (Ev.cutAt es j) (es'.eraseIdx j) := by
  induction r generalizing j with
  | nil => exact .nil
  | cons f' rv' r' ih => cases j with
    | zero => exact r'
    | succ j => exact .cons f' rv' (ih j)

theorem setObj_run {i : Nat} {es : Array MapEntry} {clk : Nat} (ho : w.heap[i]? = some (.map es clk)) (o : Obj) : (setObj i o).run P w = .ok () (setBlk w i o) := by
  simp only [setObj, Sem.run, ho]
  rfl

theorem sameBits_flat {k k' : Value} {d : TypeDesc} (hk : KD d k) (e : keyEq k k' = some true) : k' = k ∧ Instr.sameBits 10000 k' k = true := by
  rcases hk with ⟨rfl, s, rfl⟩ | ⟨rfl, n, rfl⟩
  · unfold keyEq at e
    split at e
    · rename_i a b h1
      cases h1
      simp only [Option.some.injEq] at e
      rw [bytesEq_spec, decide_eq_true_eq] at e
      subst e
      refine ⟨rfl, ?_⟩
      show ((⟨⟨a⟩⟩ : ByteArray) == ⟨⟨a⟩⟩) = true
      rw [beq_toListBytes]
      simp
    · rename_i h1; cases h1
    · cases e
  · unfold keyEq at e
    split at e
    · rename_i h1; cases h1
    · rename_i a b h1
      cases h1
      simp only [Option.some.injEq] at e
      rw [intEq_spec, decide_eq_true_eq] at e
      subst e
      refine ⟨rfl, ?_⟩
      show ((IntKind.i64 : IntKind) == .i64 && n == n) = true
      simp
    · cases e

theorem aMapUpdate_run (hT : TT P tt) (ok : HpOk h) (s : Sub h F) (r : HR μ tok B0 w0 F w) {t : TypeId} {m k v m' k' v' x : Value} (e : aMapUpdate tt h t m k v = some (.val x h')) (rm : RV μ tok m m') (rk : RV μ tok k k') (rv : RV μ tok v v') :
    ∃ w', (Instr.mapUpdate t m' k' v').run P w = .ok () w' ∧ x = undef ∧ Good μ tok B0 w0 F h h' μ w' := by
  unfold aMapUpdate at e
  split at e
  · rename_i kt et _ _ _ q hst
    split at e
    · rename_i ki hki
      obtain ⟨hko, e1⟩ := cond_some e
      clear e
      obtain ⟨d, hkd, _, hd⟩ := tells_k hT hst
      obtain rfl := tk_map hkd
      obtain ⟨dk, hdk, _, hdk2⟩ := r_under (hT _ _ hki)
      rw [← hdk] at hko
      have hKD := keyOk_KD hko
      have hkk : k' = k := rk.flat1 hKD.flat1
      subst hkk
      cases rm with
      | @map _ i hi =>
        split at e1
        · rename_i es clk hq
          obtain ⟨hB, es', re, ho, hg⟩ := map_at (P := P) s r hq hi
          have hck := fun b => checkKey_run hdk2 hKD b 9999 w
          split at e1
          · rename_i j e0 hf
            cases e1
            obtain ⟨u', h1, h2, _, h4, h5, h6⟩ := findNow_of hKD hf re
            have hfk := findKey_run hdk2 h1 w
            simp only [Nat.sub_zero] at h4 h5
            obtain ⟨hkey, hsb⟩ := sameBits_flat hKD h6
            have hstay : (Instr.keyThatStays e0.key k').run P w = .ok k' w := by
              unfold Instr.keyThatStays
              rw [if_pos hsb]
              rfl
            have hmod : (⟨es'⟩ : Array MapEntry).modify j (fun e => { e with key := k', val := v' }) = ⟨es'.set j ⟨k', v', e0.born⟩⟩ := by
              apply Array.ext'
              rw [Array.toList_modify]
              apply List.ext_getElem?
              intro n
              rw [List.getElem?_modify, List.getElem?_set]
              by_cases hn : j = n
              · subst hn
                rw [h5]
                have := (List.getElem?_eq_some_iff.1 h5).1
                simp [this]
              · simp [hn]
            refine ⟨setBlk w i.cb (.map ⟨es'.set j ⟨k', v', e0.born⟩⟩ clk), ?_, rfl, Good.put ok s r hq (by simp) hi hB fun _ => ⟨hB, _, rfl, re.setAt hKD.flat1 rv⟩⟩
            unfold Instr.mapUpdate
            have hget : ((⟨es'⟩ : Array MapEntry)[j]?.map (·.key)).getD k' = e0.key := by
              have : (⟨es'⟩ : Array MapEntry)[j]? = some ⟨e0.key, u', e0.born⟩ := by simpa using h5
              rw [this]; rfl
            simp only [Sem.run_bind, hd, then_ok, hg w rfl, hck, hfk, hget, hstay, hmod]
            exact setObj_run ho _
          · rename_i hf
            cases e1
            have h1 := findNow_of hKD hf re
            simp only at h1
            have hfk := findKey_run hdk2 h1 w
            refine ⟨setBlk w i.cb (.map ⟨es' ++ [⟨k', v', clk⟩]⟩ (clk + 1)), ?_, rfl, Good.put ok s r hq (by simp) hi hB fun _ => ⟨hB, _, rfl, re.snoc hKD.flat1 rv⟩⟩
            unfold Instr.mapUpdate
            simp only [Sem.run_bind, hd, then_ok, hg w rfl, hck, hfk]
            have := setObj_run (P := P) ho (.map ((⟨es'⟩ : Array MapEntry).push ⟨k', v', clk⟩) (clk + 1))
            simpa using this
          · cases e1
        · cases e1
    · cases e
  · cases e

theorem aDelete_run (hT : TT P tt) (ok : HpOk h) (s : Sub h F) (r : HR μ tok B0 w0 F w) {ts : Array TypeId} {ty : TypeId} {m k m' k' x : Value} (e : aDelete tt h ts.toList [m, k] = some (.val x h')) (rm : RV μ tok m m') (rk : RV μ tok k k') :
    ∃ w', (Builtin.delete_ ts ty #[m', k']).run P w = .ok (.tuple ⟨[]⟩) w' ∧ x = .tuple ⟨[]⟩ ∧ Good μ tok B0 w0 F h h' μ w' := by
  unfold aDelete at e
  split at e
  · rename_i mt rest q k0 hts hargs
    simp only [List.cons.injEq, and_true] at hargs
    obtain ⟨rfl, rfl⟩ := hargs
    have h0 : ts[0]? = some mt := by rw [← Array.getElem?_toList, hts]; rfl
    have e2 : (#[m', k'] : Array Value)[0]? = some m' := rfl
    have e3 : (#[m', k'] : Array Value)[1]? = some k' := rfl
    split at e
    · rename_i kt et _ _ _ hst
      split at e
      · rename_i ki hki
        obtain ⟨hko, e1⟩ := cond_some e
        clear e
        obtain ⟨d, hkd, _, hd⟩ := tells_k hT hst
        obtain rfl := tk_map hkd
        obtain ⟨dk, hdk, _, hdk2⟩ := r_under (hT _ _ hki)
        rw [← hdk] at hko
        have hKD := keyOk_KD hko
        have hkk : k' = k := rk.flat1 hKD.flat1
        subst hkk
        have hck := fun b => checkKey_run hdk2 hKD b 9999 w
        split at e1
        · cases e1
          cases rm
          refine ⟨w, ?_, rfl, Good.same ok s r⟩
          unfold Builtin.delete_
          rw [h0, e2, e3]
          simp only [Sem.run_bind, hd, then_ok, hck, Sem.run_pure]
        · rename_i q
          cases rm with
          | @map _ i hi =>
            split at e1
            · rename_i es clk hq
              obtain ⟨hB, es', re, ho, hg⟩ := map_at (P := P) s r hq hi
              split at e1
              · rename_i j e0 hf
                cases e1
                obtain ⟨u', h1, h2, _, h4, h5, h6⟩ := findNow_of hKD hf re
                have hfk := findKey_run hdk2 h1 w
                refine ⟨setBlk w i.cb (.map ⟨es'.eraseIdx j⟩ clk), ?_, rfl, Good.put ok s r hq (by simp) hi hB fun _ => ⟨hB, _, rfl, re.cutAt j⟩⟩
                unfold Builtin.delete_
                rw [h0, e2, e3]
                have herase : (⟨es'⟩ : Array MapEntry).eraseIdxIfInBounds j = ⟨es'.eraseIdx j⟩ := by
                  apply Array.ext'
                  simp
                simp only [Sem.run_bind, hd, then_ok, hg w rfl, hck, hfk, herase, setObj_run ho, Sem.run_pure]
              · rename_i hf
                cases e1
                have h1 := findNow_of hKD hf re
                simp only at h1
                have hfk := findKey_run hdk2 h1 w
                refine ⟨setBlk w i.cb (.map ⟨es'⟩ clk), ?_, rfl, Good.put ok s r hq (by simp) hi hB fun _ => ⟨hB, _, rfl, re⟩⟩
                unfold Builtin.delete_
                rw [h0, e2, e3]
                simp only [Sem.run_bind, hd, then_ok, hg w rfl, hck, hfk, setObj_run ho, Sem.run_pure]
              · cases e1
            · cases e1
      · cases e
    · cases e
  · cases e

/-- A new map, a new iterator: a block that is no row of cells. -/
theorem newObj_run (ok : HpOk h) (s : Sub h F) (r : HR μ tok B0 w0 F w) {b : Blk} {id : Nat} {o : Obj} (e : h.new b = some (id, h')) (f : Fresh μ F h.c h'.c) (hb : ∀ i, i.cb = w.heap.size → i.co = 0 → BR μ tok B0 i o b) :
    ∃ i, i.cb = w.heap.size ∧ i.co = 0 ∧ (newObj o).run P w = .ok w.heap.size (w.alloc o) ∧ (μ.upd id i) id = some i ∧ Good μ tok B0 w0 F h h' (μ.upd id i) (w.alloc o) := by
  have hid := Hp.new_spec ok e
  have hf := f id (by omega) (by omega)
  refine ⟨⟨w.heap.size, 0, 0, 0⟩, rfl, rfl, rfl, Mu.upd_same _ _ _, Good.new ok s r e f rfl ((hb _ rfl rfl).mono (Mu.le_upd _ hf.1))⟩

theorem aRange_run (hT : TT P tt) (ok : HpOk h) (s : Sub h F) (r : HR μ tok B0 w0 F w) {t : TypeId} {x x' v : Value} (e : aRange tt h t x = some (.val v h')) (f : Fresh μ F h.c h'.c) (rx : RV μ tok x x') :
    ∃ μ' v' w', (Instr.range t x').run P w = .ok v' w' ∧ RV μ' tok v v' ∧ Good μ tok B0 w0 F h h' μ' w' := by
  have hB : B0 ≤ w.heap.size := Nat.le_trans r.b0 r.below.size
  have fin : ∀ {μ1 : Mu} {id : Nat} {i : Bi}, i.cb = w.heap.size → i.co = 0 → μ1 id = some i → RV μ1 tok (ptr0 id) (.pointer (some ⟨w.heap.size, 0, none⟩)) := by
    intro μ1 id i h1 h2 h3
    have := RV.ptr (tok := tok) (o := 0) h3
    rw [h1, h2] at this
    exact this
  unfold aRange at e
  split at e
  · rename_i kt et _ _ _ hst
    obtain ⟨d, hkd, _, hd⟩ := tells_k hT hst
    obtain rfl := tk_map hkd
    cases rx
    obtain ⟨id, he, rfl⟩ := newVal_spec e
    obtain ⟨i, hcb, hco, hrun, hμ, g⟩ := newObj_run (P := P) (o := .mapIter none 0 #[] 0) ok s r he f (fun i h1 h2 => ⟨by rw [h1]; exact hB, h2, none, rfl, rfl⟩)
    refine ⟨_, _, _, ?_, fin hcb hco hμ, g⟩
    unfold Instr.range
    simp only [Sem.run_bind, hd, then_ok, Sem.run_pure, hrun]
  · rename_i kt et _ _ _ m hst
    obtain ⟨d, hkd, _, hd⟩ := tells_k hT hst
    obtain rfl := tk_map hkd
    cases rx with
    | @map _ j hj =>
      split at e
      · rename_i es clk hq
        obtain ⟨hB2, es', re, ho, hg⟩ := map_at (P := P) s r hq hj
        obtain ⟨id, he, rfl⟩ := newVal_spec e
        obtain ⟨i, hcb, hco, hrun, hμ, g⟩ := newObj_run (P := P) (o := .mapIter (some j.cb) clk #[] clk) ok s r he f (fun i h1 h2 => ⟨by rw [h1]; exact hB, h2, some j.cb, rfl, j, hj, rfl⟩)
        refine ⟨_, _, _, ?_, fin hcb hco hμ, g⟩
        unfold Instr.range
        simp only [Sem.run_bind, hd, then_ok, hg w rfl, Sem.run_pure, hrun]
      · cases e
  · cases e

theorem iter_at (s : Sub h F) (r : HR μ tok B0 w0 F w) {b since last : Nat} {m : Option Nat} {seen : List Nat} (e : h.get b = some (.iter m since seen last)) {i : Bi} (hi : μ b = some i) :
    B0 ≤ i.cb ∧ i.co = 0 ∧ ∃ m', MR μ m m' ∧ w.heap[i.cb]? = some (.mapIter m' since ⟨seen⟩ last) ∧ (getObj i.cb).run P w = .ok (.mapIter m' since ⟨seen⟩ last) w := by
  obtain ⟨j, o, hj, ho, hb⟩ := r.blk b _ (s b _ e) (by simp)
  rw [hi] at hj; cases hj
  obtain ⟨hB, hz, m', rfl, hm⟩ := hb
  exact ⟨hB, hz, m', hm, ho, by simp only [getObj, Sem.run, ho]⟩

end
end Go.Ev
