/-
  SOUNDNESS, TENTH PART: append, the two ways.
-/
import Derived.Test.YtcnkdagngaomdaaGreatDoorEvS9
namespace Go.Ev
open Go Go.RowKit

section
variable {P : Program} {tt : T TI} {w : World}
variable {μ : Mu} {tok : Nat → Value} {B0 : Nat} {w0 : World} {F : FH} {h h' : Hp}

theorem sAppend_room {el : TypeId} {sz n c k : Nat} {zeros : Bool} {base : Option Addr} {x : Value} {new : List Value} {w1 : World} (hn : ∀ w, (sN el zeros x).run P w = .ok k w) (hle : n + k ≤ c) (hA : (sA el zeros sz k x).run P w = .ok ⟨new⟩ w)
    (hs : ∀ a, base = some a → (storeCells (a.add (n * sz)) new).run P w = .ok () w1) (h0 : base = none → w1 = w) : (sAppend el sz zeros base n c x).run P w = .ok (.slice base (n + k) c) w1 := by
  unfold sAppend
  simp only [Sem.run_bind, hn, then_ok]
  rw [if_pos hle]
  simp only [Sem.run_bind, hA, then_ok]
  cases base with
  | none => rw [h0 rfl]; rfl
  | some a => simp only [Sem.run_bind, hs a rfl, then_ok]; rfl

theorem sAppend_grow {el : TypeId} {ti : TI} {n c k : Nat} {zeros : Bool} {base : Option Addr} {x z : Value} {new old : List Value} (ht : Tells P el ti) (hz : ti.zero = some z) (hn : ∀ w, (sN el zeros x).run P w = .ok k w) (hlt : c < n + k)
    (hb : (n + k) * (ti.bytes + 1) ≤ 100000000) (hO : (Builtin.firstCells ti.size n (.slice base n c)).run P { w with drawn := w.drawn + 1 } = .ok ⟨old⟩ { w with drawn := w.drawn + 1 })
    (hA : (sA el zeros ti.size k x).run P { w with drawn := w.drawn + 1 } = .ok ⟨new⟩ { w with drawn := w.drawn + 1 }) :
    ∃ cap, n + k ≤ cap ∧ (sAppend el ti.size zeros base n c x).run P w = .ok (.slice (some ⟨w.heap.size, 0, none⟩) (n + k) cap)
      (World.alloc { w with drawn := w.drawn + 1 } (.cells ⟨(old ++ new) ++ rep z.cells.toList (cap - (n + k))⟩ el)) := by
  obtain ⟨i, hi1, hi2, hi3, hinfo⟩ := r_info ht
  have hnext := room_ok hlt hb
  refine ⟨(n + k) + (w.tape w.drawn (.appendCap (n + k) c el)) % (2 ^ 63 - (n + k)), Nat.le_add_right _ _, ?_⟩
  have hbig : ¬ (((n + k : Nat) : Int) > IntKind.i64.max ∧ (zeros = true ∨ i.bytes = 0)) := by
    intro ⟨hg, _⟩
    have e2 : IntKind.i64.max = 9223372036854775807 := by decide
    rw [e2] at hg
    have : (n + k) * 1 ≤ (n + k) * (ti.bytes + 1) := Nat.mul_le_mul_left _ (by omega)
    omega
  unfold sAppend
  simp only [Sem.run_bind, hn, then_ok]
  rw [if_neg (by omega)]
  simp only [Sem.run_bind, hinfo, then_ok]
  rw [if_neg hbig]
  simp only [Sem.run_bind, hinfo, then_ok]
  rw [if_neg (by rw [hi2]; exact hnext)]
  have hroom : ∀ b w, (askRoom b).run P w = .ok () w := by
    intro b w
    unfold askRoom
    split <;> rfl
  have hch : (choose (.appendCap (n + k) c el)).run P w = .ok ((n + k) + (w.tape w.drawn (.appendCap (n + k) c el)) % (2 ^ 63 - (n + k))) { w with drawn := w.drawn + 1 } := rfl
  simp only [Sem.run_bind, hch, then_ok, hinfo, hroom, hO, hA, r_zero ht hz, zeroCells_rep, newRow, newObj, Sem.run, Sem.run_pure]
  congr 2
  simp

theorem Good.kill (ok : HpOk h) (s : Sub h F) (r : HR μ tok B0 w0 F w) {b : Nat} {y : Blk} (hy : h.get b = some y) : Good μ tok B0 w0 F h (h.put b .dead) μ w := by
  have hb : h.get b ≠ none := by rw [hy]; simp
  refine ⟨Step.put ok hb, Ext.refl _ _ _, (r.kill b).ext ?_⟩
  intro k
  unfold ovr
  rw [Hp.get_put ok hb]
  by_cases e : k = b
  · subst e; rw [if_pos rfl, FH.upd_same]
  · rw [if_neg e, FH.upd_other _ _ e]
    cases g : h.get k with
    | none => rfl
    | some z => exact (s k z g).symm

/-- A fresh block behind a draw. -/
theorem fresh_run (ok : HpOk h) (s : Sub h F) (r : HR μ tok B0 w0 F w) {c c' suf : List Value} {id : Nat} (e : h.new (.cells c 0 false) = some (id, h')) (f : Fresh μ F h.c h'.c) (rc : RL μ tok c c') (el : TypeId) {need cap sz : Nat}
    (hl : c.length = need * sz) (hs : suf.length = (cap - need) * sz) (hle : need ≤ cap) :
    ∃ μ', RV μ' tok (.slice (some ⟨id, 0, some (sz + 2)⟩) need need) (.slice (some ⟨w.heap.size, 0, none⟩) need cap) ∧
      Good μ tok B0 w0 F h h' μ' (World.alloc { w with drawn := w.drawn + 1 } (.cells ⟨c' ++ suf⟩ el)) := by
  have hid := Hp.new_spec ok e
  have hf := f id (by omega) (by omega)
  refine ⟨μ.upd id ⟨w.heap.size, 0, c.length, (c' ++ suf).length⟩, ?_, ?_⟩
  · have hcap : need * sz + (cap - need) * sz = cap * sz := by rw [← Nat.add_mul]; congr 1; omega
    have := RV.sloose (μ := μ.upd id ⟨w.heap.size, 0, c.length, (c' ++ suf).length⟩) (tok := tok) (b := id) (o := 0) (z := sz) need (c := need) (c' := cap) (i := ⟨w.heap.size, 0, c.length, (c' ++ suf).length⟩) (Mu.upd_same _ _ _) hle
      (by show 0 + need * sz = c.length; omega) (by show 0 + 0 + cap * sz ≤ (c' ++ suf).length; rw [List.length_append, ← rc.len]; omega)
    exact this
  · refine Good.new ok s r.drew e f rfl ?_
    refine ⟨el, (0, 0), [], c', suf, by simp, rfl, rc.mono (Mu.le_upd _ hf.1), rfl, by simp, fun _ => ⟨Nat.le_trans r.b0 r.below.size, fun off _ => by simp⟩⟩

theorem cut3 {α : Type} (l : List α) (a b : Nat) : l = l.take a ++ ((l.drop a).take b ++ l.drop (a + b)) := by
  have : l.drop (a + b) = (l.drop a).drop b := by rw [List.drop_drop]
  rw [this, List.take_append_drop, List.take_append_drop]

theorem rep_length (l : List Value) (n : Nat) : (rep l n).length = n * l.length := by
  induction n with
  | zero => simp [rep]
  | succ n ih => simp only [rep, List.length_append, ih, Nat.succ_mul]; omega

/-- In place, behind the end of a loose slice whose block is given up for a new one. -/
theorem reuse_run (ok : HpOk h) (s : Sub h F) (r : HR μ tok B0 w0 F w) {b o : Nat} {cs old new new' : List Value} {bz : Nat} {hp h' : Hp} {id : Nat} {i : Bi} {n k c c' sz : Nat} (hc : h.get b = some (.cells cs bz false)) (hi : μ b = some i)
    (hp_ : hp = h.put b .dead) (e : hp.new (.cells (old ++ new) 0 false) = some (id, h')) (f : Fresh μ F h.c h'.c) (hold : sliceN o (n * sz) cs = some old) (hcap : o + c * sz = i.L) (hC : i.co + o + c' * sz ≤ i.CS) (hnc : n ≤ c)
    (rn : RL μ tok new new') (hnl : new.length = k * sz) (hin : n + k ≤ c') (hcell : ∀ x ∈ new, cellOk x = true) :
    ∃ μ' w', (storeCells ⟨i.cb, i.co + o + n * sz, none⟩ new').run P w = .ok () w' ∧ RV μ' tok (.slice (some ⟨id, 0, some (sz + 2)⟩) (n + k) (n + k)) (.slice (some ⟨i.cb, i.co + o, none⟩) (n + k) c') ∧ Good μ tok B0 w0 F h h' μ' w' := by
  obtain ⟨ob, ho, E, fz, pre, cc, suf, rfl, hp1, rl, hL, hCS, hro⟩ := at_blk s r hc hi
  obtain ⟨hB, hfz⟩ := hro rfl
  obtain ⟨eold, hlen⟩ := sliceN_spec hold
  have hccl := rl.len
  have hn'l := rn.len
  have hb : h.get b ≠ none := by rw [hc]; simp
  have okp : HpOk hp := by rw [hp_]; exact (Step.put ok hb).ok
  have hid := Hp.new_spec okp e
  have hpc : hp.c = h.c := by rw [hp_]; rfl
  have hf := f id (by omega) (by omega)
  have hks : n * sz + k * sz ≤ c' * sz := by rw [← Nat.add_mul]; exact Nat.mul_le_mul_right _ hin
  -- the cells: pre ++ cc ++ suf; the new ones go from pre.length + o + n * sz on
  have hnsz : n * sz ≤ c * sz := Nat.mul_le_mul_right _ hnc
  have hccL : cc.length = o + c * sz := by omega
  have htot : (pre ++ (cc ++ suf)).length = i.CS := by rw [hCS]; simp
  let p1 := (pre ++ (cc ++ suf)).take (i.co + o + n * sz)
  let m1 := ((pre ++ (cc ++ suf)).drop (i.co + o + n * sz)).take new'.length
  let s1 := (pre ++ (cc ++ suf)).drop (i.co + o + n * sz + new'.length)
  have hsplit : pre ++ (cc ++ suf) = p1 ++ (m1 ++ s1) := cut3 _ _ _
  have hp1l : p1.length = i.co + o + n * sz := by
    show ((pre ++ (cc ++ suf)).take _).length = _
    rw [List.length_take, htot]; omega
  have hm1l : m1.length = new'.length := by
    show (((pre ++ (cc ++ suf)).drop _).take _).length = _
    rw [List.length_take, List.length_drop, htot]; omega
  have hs1l : p1.length + (m1.length + s1.length) = i.CS := by
    rw [← htot, hsplit]; simp
  have hst := run_storeCells_blk (P := P) i.cb (i.co + o + n * sz) E fz new' p1 m1 s1 0 w hm1l (by rw [← hsplit]; exact ho) (by intro q hq; exact hfz q (by omega)) (rn.cellOk r.tokOk hcell) (by omega)
  have hp1split : p1 = (pre ++ cc.take o) ++ (cc.drop o).take (n * sz) := by
    show (pre ++ (cc ++ suf)).take (i.co + o + n * sz) = _
    rw [← hp1, show pre.length + o + n * sz = pre.length + (o + n * sz) from by omega, List.take_append, List.take_of_length_le (by omega)]
    rw [show pre.length + (o + n * sz) - pre.length = o + n * sz from by omega, List.take_append_of_le_length (by omega), List.append_assoc]
    congr 1
    rw [← List.take_append_drop o cc] 
    rw [List.take_append]
    simp only [List.length_take, List.take_append_drop]
    rw [Nat.min_eq_left (by omega), List.take_take, Nat.min_eq_right (by omega), show o + n * sz - o = n * sz from by omega]
  refine ⟨μ.upd id ⟨i.cb, i.co + o, (old ++ new).length, i.CS⟩, _, hst, ?_, ?_⟩
  · have holdl : old.length = n * sz := by rw [eold]; simp; omega
    have hsum : (n + k) * sz = n * sz + k * sz := Nat.add_mul _ _ _
    have := RV.sloose (μ := μ.upd id ⟨i.cb, i.co + o, (old ++ new).length, i.CS⟩) (tok := tok) (b := id) (o := 0) (z := sz) (n + k) (c := n + k) (c' := c') (i := ⟨i.cb, i.co + o, (old ++ new).length, i.CS⟩) (Mu.upd_same _ _ _) hin
      (by show 0 + (n + k) * sz = (old ++ new).length; rw [List.length_append]; omega) (by show i.co + o + 0 + c' * sz ≤ i.CS; omega)
    exact this
  · have hle := Mu.le_upd (μ := μ) (b := id) ⟨i.cb, i.co + o, (old ++ new).length, i.CS⟩ hf.1
    have rold : RL μ tok (old ++ new) ((cc.drop o).take (n * sz) ++ new') := by rw [eold]; exact ((rl.drop o).take _).append rn
    have hr := r.reuse (b := b) (n := id) (x := .cells (old ++ new) 0 false) (i := i) (i1 := ⟨i.cb, i.co + o, (old ++ new).length, i.CS⟩) (o := .cells ⟨p1 ++ (new' ++ s1)⟩ E fz) ⟨_, s b _ hc, by simp⟩ hi hB hf.2 hf.1 rfl
      ⟨E, fz, pre ++ cc.take o, (cc.drop o).take (n * sz) ++ new', s1, by rw [hp1split]; simp, by simp; omega,
        rold.mono hle, rfl, by
          have hA : p1.length = (pre ++ cc.take o).length + ((cc.drop o).take (n * sz)).length := by rw [hp1split, List.length_append]
          have hB' : ((cc.drop o).take (n * sz) ++ new').length = ((cc.drop o).take (n * sz)).length + new'.length := List.length_append
          show i.CS = (pre ++ cc.take o).length + (((cc.drop o).take (n * sz) ++ new').length + s1.length)
          omega, fun _ => ⟨hB, hfz⟩⟩
    have st1 := Step.put (x := .dead) ok hb
    rw [← hp_] at st1
    refine ⟨st1.trans (Step.ofNew okp e), ⟨hle, fun x hx => Mu.upd_other _ _ (by omega)⟩, hr.ext ?_⟩
    intro q
    unfold ovr
    rw [hid.2.2.2.2.1]
    by_cases eq : q = id
    · subst eq; rw [if_pos rfl, FH.upd_same]
    · rw [if_neg eq, FH.upd_other _ _ eq, hp_, Hp.get_put ok hb]
      by_cases eb : q = b
      · subst eb; rw [if_pos rfl, FH.upd_same]
      · rw [if_neg eb, FH.upd_other _ _ eb]
        cases g : h.get q with
        | none => rfl
        | some z => exact (s q z g).symm

end
end Go.Ev
