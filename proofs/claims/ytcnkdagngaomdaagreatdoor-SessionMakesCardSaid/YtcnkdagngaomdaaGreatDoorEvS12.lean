/-
  SOUNDNESS, TWELFTH PART: copy, slices that are made, lengths.
-/
import Derived.Test.YtcnkdagngaomdaaGreatDoorEvS11
import Derived.Laws.BytesString
namespace Go.Ev
open Go Go.RowKit

section
variable {P : Program} {tt : T TI} {w : World}
variable {μ : Mu} {tok : Nat → Value} {B0 : Nat} {w0 : World} {F : FH} {h h' : Hp}

theorem aCopy_run (hT : TT P tt) (ok : HpOk h) (s : Sub h F) (r : HR μ tok B0 w0 F w) {ts : Array TypeId} {ty : TypeId} {a0 x a0' x' v : Value} (e : aCopy tt h ts.toList [a0, x] = some (.val v h')) (ra : RV μ tok a0 a0') (rx : RV μ tok x x') :
    ∃ μ' v' w', (Builtin.copy_ ts ty #[a0', x']).run P w = .ok v' w' ∧ RV μ' tok v v' ∧ Good μ tok B0 w0 F h h' μ' w' := by
  unfold aCopy at e
  split at e
  · rename_i dt rest base dn c x0 hts hargs
    simp only [List.cons.injEq, and_true] at hargs
    obtain ⟨rfl, rfl⟩ := hargs
    have h0 : ts[0]? = some dt := by rw [← Array.getElem?_toList, hts]; rfl
    split at e
    · rename_i el _ _ _ hst
      split at e
      · rename_i sz k hsz hk
        obtain ⟨d, hkd, _, hd⟩ := tells_k hT hst
        obtain rfl := tk_slice hkd
        obtain ⟨ti, ht, rfl⟩ := sizeL_tells hT hsz
        have hmin : cond (Nat.ble k dn) k dn = Nat.min k dn := by
          cases hb : Nat.ble k dn with
          | true => exact (Nat.min_eq_left (nble hb)).symm
          | false => exact (Nat.min_eq_right (Nat.le_of_lt (nble' hb))).symm
        rw [hmin] at e
        simp only at e
        split at e
        · cases e
        · rename_i l hl
          obtain ⟨l', hl', rl⟩ := srcL_run (P := P) s r hl rx
          have key : ∀ {base' : Option Addr} {c' : Nat} {w1 : World}, (∀ a, base' = some a → (storeCells a l').run P w = .ok () w1) → (base' = none → w1 = w) →
              (Builtin.copy_ ts ty #[.slice base' dn c', x']).run P w = .ok (.int .i64 (Nat.min k dn : Nat)) w1 := by
            intro base' c' w1 h1 h2
            unfold Builtin.copy_
            have e2 : (#[Value.slice base' dn c', x'] : Array Value)[0]? = some (.slice base' dn c') := rfl
            have e3 : (#[Value.slice base' dn c', x'] : Array Value)[1]? = some x' := rfl
            rw [h0, e2, e3]
            simp only [Sem.run_bind, hd, then_ok, lenL_run hk rx, r_size ht, hl']
            cases base' with
            | none => rw [h2 rfl]; rfl
            | some a => simp only [Sem.run_bind, h1 a rfl, then_ok]; rfl
          cases base with
          | none =>
            simp only at e
            cases e
            cases ra
            exact ⟨μ, _, w, key (fun a ha => by cases ha) (fun _ => rfl), RV.int _ _, Good.same ok s r⟩
          | some a =>
            simp only at e
            split at e
            · rename_i h1 hput
              cases e
              cases ra with
              | @sexact b o _ _ i hi =>
                obtain ⟨w', hw, g⟩ := putCells_all (P := P) ok s r hput rl hi
                exact ⟨μ, _, w', key (fun a ha => by cases ha; exact hw) (fun hn => by cases hn), RV.int _ _, g⟩
              | @sloose b o z _ _ c' i hi _ _ _ =>
                obtain ⟨w', hw, g⟩ := putCells_all (P := P) ok s r hput rl hi
                exact ⟨μ, _, w', key (fun a ha => by cases ha; exact hw) (fun hn => by cases hn), RV.int _ _, g⟩
              | sempty b o a' c' =>
                have h00 : l = [] := by
                  have hm : Nat.min k 0 = 0 := Nat.min_zero k
                  rw [hm] at hl
                  unfold srcL at hl
                  split at hl
                  · cases hl; rfl
                  · split at hl
                    · obtain ⟨_, hl⟩ := cond_some hl; cases hl; rfl
                    · split at hl
                      · obtain ⟨el, _⟩ := sliceN_spec hl
                        rw [el]; show List.take (0 * ti.size) _ = []; rw [Nat.zero_mul]; rfl
                      · cases hl
                  · obtain ⟨el, _⟩ := takeN_spec hl; rw [el]; rfl
                  · cases hl
                subst h00
                cases rl
                simp only [putCells] at hput
                cases hput
                exact ⟨μ, _, w, key (fun a ha => by cases ha; rfl) (fun hn => by cases hn), RV.int _ _, Good.same ok s r⟩
            · cases e
      · cases e
    · cases e
  · cases e

theorem repCells (z : Value) (n : Nat) : (Array.range (n * z.cells.size)).map (z.cells[· % z.cells.size]!) = ⟨rep z.cells.toList n⟩ := zeroCells_rep z.cells n

theorem newSlice_run (ok : HpOk h) (s : Sub h F) (r : HR μ tok B0 w0 F w) {c c' : List Value} {n m : Nat} {v : Value} (e : newVal h (.cells c 0 false) (fun id => .slice (some ⟨id, 0, none⟩) n m) = some (.val v h')) (f : Fresh μ F h.c h'.c) (rc : RL μ tok c c') (t : TypeId) :
    ∃ μ' w', (newRow t ⟨c'⟩).run P w = .ok ⟨w.heap.size, 0, none⟩ w' ∧ RV μ' tok v (.slice (some ⟨w.heap.size, 0, none⟩) n m) ∧ Good μ tok B0 w0 F h h' μ' w' := by
  obtain ⟨id, he, rfl⟩ := newVal_spec e
  obtain ⟨i, hcb, hco, hrun, hμ, g⟩ := newCells_run (P := P) ok s r he f rc t
  refine ⟨_, _, hrun, ?_, g⟩
  have := RV.sexact (μ := μ.upd id i) (tok := tok) (o := 0) n m hμ
  rw [hcb, hco] at this
  exact this

theorem aBuildSlice_run (hT : TT P tt) (ok : HpOk h) (s : Sub h F) (r : HR μ tok B0 w0 F w) {t : TypeId} {n : Nat} {ps : Array (Nat × Operand)} {ρ ρ' : Operand → Value} {v : Value} (e : aBuildSlice tt h t n (ps.toList.map fun p => (p.1, ρ p.2)) = some (.val v h')) (f : Fresh μ F h.c h'.c)
    (hρ : ∀ p ∈ ps.toList, RV μ tok (ρ p.2) (ρ' p.2)) : ∃ μ' v' w', (Instr.buildSlice t n (ps.map fun (i, x) => (i, ρ' x))).run P w = .ok v' w' ∧ RV μ' tok v v' ∧ Good μ tok B0 w0 F h h' μ' w' := by
  have hl : (ps.map fun (i, x) => (i, ρ' x)).toList = ps.toList.map fun p => (p.1, ρ' p.2) := by simp
  unfold aBuildSlice at e
  split at e
  · rename_i el _ _ _ hst
    split at e
    · rename_i ek sz by_ z hel
      obtain ⟨hz, e1⟩ := cond_some e
      obtain ⟨hbig, e2⟩ := cond_some e1
      obtain ⟨hzl, e3⟩ := cond_some e2
      clear e e1 e2
      rw [len_eq] at hzl
      have hzl := nbeq hzl
      have hbig : n * sz ≤ 10000 := nble hbig
      split at e3
      · rename_i c hc
        obtain ⟨d, hkd, _, hd⟩ := tells_k hT hst
        obtain rfl := tk_slice hkd
        have htel := hT _ _ hel
        have rz := (RV.ofFlat (μ := μ) (tok := tok) hz).cells r.tokOk
        have hzs : z.cells.size = sz := by have := rz.len; simp at this; omega
        obtain ⟨r', hf, rr⟩ := fill_run r.tokOk (place' := fun i => some (i * sz, sz)) (fun i p hp => hp) ps.toList _ _ c hc (rz.rep n) hρ
        obtain ⟨μ', w', hrun, rv, g⟩ := newSlice_run (P := P) ok s r e3 f rr el
        refine ⟨μ', _, w', ?_, rv, g⟩
        have h48 : (2 : Nat) ^ 24 = 16777216 := by decide
        unfold Instr.buildSlice
        simp only [Sem.run_bind, hd, then_ok, r_size htel, hl]
        rw [if_neg (by omega)]
        have hf' : Instr.fill (fun i => some (i * sz, sz)) ⟨rep z.cells.toList n⟩ (ps.toList.map fun p => (p.1, ρ' p.2)) = some ⟨r'⟩ := hf
        by_cases h0 : n * sz = 0
        · have hcells : (Array.range (n * sz)).map ((#[] : Array Value)[· % (#[] : Array Value).size]!) = ⟨rep z.cells.toList n⟩ := by
            rw [h0]
            have : (rep z.cells.toList n).length = 0 := by rw [rep_length, Array.length_toList, hzs]; exact h0
            rw [List.eq_nil_of_length_eq_zero this]
            simp
          simp only [if_pos h0, Sem.run_bind, Sem.run_pure, then_ok, hcells, hf', hrun]
        · have hcells : (Array.range (n * sz)).map (z.cells[· % z.cells.size]!) = ⟨rep z.cells.toList n⟩ := by
            have := repCells z n
            rw [hzs] at this
            rw [hzs]
            exact this
          simp only [if_neg h0, Sem.run_bind, r_zero htel rfl, Sem.run_pure, then_ok, hcells, hf', hrun]
      · cases e3
    · cases e
  · cases e

theorem aMakeSlice_run (hT : TT P tt) (ok : HpOk h) (s : Sub h F) (r : HR μ tok B0 w0 F w) {t : TypeId} {l c l' c' : Value} {v : Value} (e : aMakeSlice tt h t l c = some (.val v h')) (f : Fresh μ F h.c h'.c)
    (rl : RV μ tok l l') (rc : RV μ tok c c') : ∃ μ' v' w', (Instr.makeSlice t l' c').run P w = .ok v' w' ∧ RV μ' tok v v' ∧ Good μ tok B0 w0 F h h' μ' w' := by
  unfold aMakeSlice at e
  split at e
  · rename_i l0 c0 hl0 hc0
    obtain ⟨kl, rfl⟩ := natOf_rv hl0 rl
    obtain ⟨kc, rfl⟩ := natOf_rv hc0 rc
    split at e
    · rename_i el _ _ _ hst
      split at e
      · rename_i ek sz by_ z hel
        obtain ⟨hz, e1⟩ := cond_some e
        obtain ⟨hlc, e2⟩ := cond_some e1
        obtain ⟨hby, e3⟩ := cond_some e2
        obtain ⟨hzl, e4⟩ := cond_some e3
        obtain ⟨hcb, e5⟩ := cond_some e4
        clear e e1 e2 e3 e4
        rw [len_eq] at hzl
        have hzl := nbeq hzl
        have hlc := nble hlc
        have hby : by_ * c0 ≤ 1000000 := nble hby
        have hcb := nble hcb
        obtain ⟨d, hkd, _, hd⟩ := tells_k hT hst
        obtain rfl := tk_slice hkd
        have htel := hT _ _ hel
        obtain ⟨i, hi1, hi2, hi3, hinfo⟩ := r_info htel
        have hi2' : i.bytes = by_ := hi2
        have rz := (RV.ofFlat (μ := μ) (tok := tok) hz).cells r.tokOk
        have hzs : z.cells.size = sz := by have := rz.len; simp at this; omega
        obtain ⟨μ', w', hrun, rv, g⟩ := newSlice_run (P := P) ok s r e5 f (rz.rep c0) el
        refine ⟨μ', _, w', ?_, rv, g⟩
        have hwrap : ∀ n : Nat, n ≤ 1000000 → IntKind.i64.wrap (n : Int) = n := by
          intro n hn
          unfold IntKind.wrap IntKind.bits IntKind.signed
          simp only
          have e1 : (2 : Int) ^ 64 = 18446744073709551616 := by decide
          have e2 : (2 : Int) ^ (64 - 1) = 9223372036854775808 := by decide
          rw [e1, e2, Int.emod_eq_of_lt (by omega) (by omega)]
          simp only [Bool.true_and, decide_eq_true_eq, ge_iff_le]
          rw [if_neg (by omega)]
        have hroom : ∀ b w, (askRoom b).run P w = .ok () w := by
          intro b w
          unfold askRoom
          split <;> rfl
        have h48 : (2 : Int) ^ 48 = 281474976710656 := by decide
        have hnot : (decide ((c0 : Int) < 0) || decide ((i.bytes : Int) * (c0 : Int) > 2 ^ 48) || decide ((l0 : Int) < 0) || decide ((l0 : Int) > (c0 : Int))) = false := by
          have a1 : ¬ ((c0 : Int) < 0) := by omega
          have a2 : ¬ ((i.bytes : Int) * (c0 : Int) > 2 ^ 48) := by rw [hi2', h48, ← Int.natCast_mul]; omega
          have a3 : ¬ ((l0 : Int) < 0) := by omega
          have a4 : ¬ ((l0 : Int) > (c0 : Int)) := by omega
          simp only [a1, a2, a3, a4, decide_false, Bool.or_false]
        unfold Instr.makeSlice
        simp only [Sem.run_bind, hd, then_ok, asInt, asIntOf, Sem.run_pure, hinfo, hwrap l0 (by omega), hwrap c0 hcb]
        rw [if_neg (by rw [hnot]; simp)]
        simp only [Sem.run_bind, hroom, then_ok, r_size htel, Int.toNat_natCast]
        by_cases h0 : c0 * sz = 0
        · have hcells : (Array.range (c0 * sz)).map ((#[] : Array Value)[· % (#[] : Array Value).size]!) = ⟨rep z.cells.toList c0⟩ := by
            rw [h0]
            have : (rep z.cells.toList c0).length = 0 := by rw [rep_length, Array.length_toList, hzs]; exact h0
            rw [List.eq_nil_of_length_eq_zero this]
            simp
          simp only [if_pos h0, Sem.run_bind, Sem.run_pure, then_ok, hcells, hrun]
        · have hcells : (Array.range (c0 * sz)).map (z.cells[· % z.cells.size]!) = ⟨rep z.cells.toList c0⟩ := by
            have := repCells z c0
            rw [hzs] at this
            rw [hzs]
            exact this
          simp only [if_neg h0, Sem.run_bind, r_zero htel rfl, Sem.run_pure, then_ok, hcells, hrun]
      · cases e
    · cases e
  · cases e

theorem aLen_run (hT : TT P tt) (s : Sub h F) (r : HR μ tok B0 w0 F w) {ts : Array TypeId} {ty : TypeId} {x x' v : Value} (e : aLen tt h ts.toList [x] = some (.val v h')) (rx : RV μ tok x x') :
    ∃ v', (Builtin.len_ ts ty #[x']).run P w = .ok v' w ∧ RV μ tok v v' ∧ h' = h := by
  unfold aLen at e
  split at e
  · rename_i t rest x0 hts hargs
    simp only [List.cons.injEq, and_true] at hargs
    subst hargs
    have h0 : ts[0]? = some t := by rw [← Array.getElem?_toList, hts]; rfl
    have e2 : (#[x'] : Array Value)[0]? = some x' := rfl
    split at e
    · rename_i _ _ _ u hst
      cases e
      obtain ⟨d, hkd, _, hd⟩ := tells_k hT hst
      obtain rfl := tk_string hkd
      cases rx
      refine ⟨_, ?_, RV.int _ _, rfl⟩
      unfold Builtin.len_
      rw [h0, e2]
      simp only [Sem.run_bind, hd, then_ok, Sem.run_pure, len_eq]
      rfl
    · rename_i el _ _ _ a n c hst
      cases e
      obtain ⟨d, hkd, _, hd⟩ := tells_k hT hst
      obtain rfl := tk_slice hkd
      unfold Builtin.len_
      rw [h0, e2]
      cases rx <;> exact ⟨_, by simp only [Sem.run_bind, hd, then_ok, Sem.run_pure]; rfl, RV.int _ _, rfl⟩
    · rename_i n el _ _ _ _ hst
      cases e
      obtain ⟨d, hkd, _, hd⟩ := tells_k hT hst
      obtain rfl := tk_array hkd
      unfold Builtin.len_
      rw [h0, e2]
      exact ⟨_, by simp only [Sem.run_bind, hd, then_ok, Sem.run_pure]; rfl, RV.int _ _, rfl⟩
    · rename_i kt el _ _ _ m hst
      obtain ⟨d, hkd, _, hd⟩ := tells_k hT hst
      obtain rfl := tk_map hkd
      split at e
      · rename_i es hes
        cases e
        unfold Builtin.len_
        rw [h0, e2]
        unfold mapAt at hes
        split at hes
        · cases hes
          cases rx
          exact ⟨_, by simp only [Sem.run_bind, hd, then_ok, Sem.run_pure]; rfl, RV.int _ _, rfl⟩
        · rename_i q
          split at hes
          · rename_i es' clk hq
            cases hes
            cases rx with
            | @map _ i hi =>
              obtain ⟨j, o, hj, ho, hb⟩ := r.blk q _ (s q _ hq) (by simp)
              rw [hi] at hj; cases hj
              obtain ⟨_, es2, rfl, re⟩ := hb
              have hlen : es2.length = es.length := by
                clear hq ho
                induction re with
                | nil => rfl
                | cons _ _ _ ih => simp [ih]
              refine ⟨_, ?_, RV.int _ _, rfl⟩
              simp only [Sem.run_bind, hd, then_ok]
              have hg : (getObj i.cb).run P w = .ok (.map ⟨es2⟩ clk) w := by
                simp only [getObj, Sem.run, ho]
              simp only [hg, then_ok, Sem.run_pure, len_eq]
              rw [← hlen]; rfl
          · cases hes
      · cases e
    · rename_i u _ _ _ _ hst
      split at e
      · rename_i n el _ _ _ hu
        cases e
        obtain ⟨d, hkd, _, hd⟩ := tells_k hT hst
        obtain rfl := tk_ptr hkd
        obtain ⟨d2, hkd2, _, hd2⟩ := tells_k hT hu
        obtain rfl := tk_array hkd2
        unfold Builtin.len_
        rw [h0, e2]
        exact ⟨_, by simp only [Sem.run_bind, hd, hd2, then_ok, Sem.run_pure]; rfl, RV.int _ _, rfl⟩
      · cases e
    · cases e
  · cases e

theorem aCap_run (hT : TT P tt) {ts : Array TypeId} {ty : TypeId} {x x' v : Value} (e : aCap tt h ts.toList [x] = some (.val v h')) (rx : RV μ tok x x') :
    ∃ v', (Builtin.cap_ ts ty #[x']).run P w = .ok v' w ∧ RV μ tok v v' ∧ h' = h := by
  unfold aCap at e
  split at e
  · rename_i t rest x0 hts hargs
    simp only [List.cons.injEq, and_true] at hargs
    subst hargs
    have h0 : ts[0]? = some t := by rw [← Array.getElem?_toList, hts]; rfl
    have e2 : (#[x'] : Array Value)[0]? = some x' := rfl
    split at e
    · rename_i el _ _ _ n c hst
      cases e
      obtain ⟨d, hkd, _, hd⟩ := tells_k hT hst
      obtain rfl := tk_slice hkd
      cases rx
      unfold Builtin.cap_
      rw [h0, e2]
      exact ⟨_, by simp only [Sem.run_bind, hd, then_ok, Sem.run_pure]; rfl, RV.int _ _, rfl⟩
    · rename_i el _ _ _ b o n c hst
      cases e
      obtain ⟨d, hkd, _, hd⟩ := tells_k hT hst
      obtain rfl := tk_slice hkd
      cases rx
      unfold Builtin.cap_
      rw [h0, e2]
      exact ⟨_, by simp only [Sem.run_bind, hd, then_ok, Sem.run_pure]; rfl, RV.int _ _, rfl⟩
    · cases e
  · cases e

end
end Go.Ev
