/-
  SOUNDNESS, NINTH PART: append.
-/
import Derived.Test.YtcnkdagngaomdaaGreatDoorEvS8
namespace Go.Ev
open Go Go.RowKit

section
variable {P : Program} {tt : T TI} {w : World}
variable {μ : Mu} {tok : Nat → Value} {B0 : Nat} {w0 : World} {F : FH} {h h' : Hp}

theorem zeroCells_rep (z : Array Value) (n : Nat) : Builtin.zeroCells z n = ⟨rep z.toList n⟩ := by
  unfold Builtin.zeroCells
  apply Array.ext'
  simp only [Array.toList_map, Array.toList_range]
  induction n with
  | zero => simp [rep]
  | succ n ih =>
    have e : (n + 1) * z.size = z.size + n * z.size := by rw [Nat.succ_mul, Nat.add_comm]
    rw [e, List.range_add, List.map_append, List.map_map]
    show _ = z.toList ++ rep z.toList n
    congr 1
    · apply List.ext_getElem?
      intro i
      simp only [List.getElem?_map]
      by_cases hi : i < z.size
      · rw [List.getElem?_range hi]
        simp [Nat.mod_eq_of_lt hi, hi]
      · rw [List.getElem?_eq_none (by simp; omega), List.getElem?_eq_none (by simp; omega)]
        rfl
    · rw [← ih]
      apply List.map_congr_left
      intro i _
      simp

theorem lenL_run {x x' : Value} {k : Nat} (e : lenL x = some k) (rx : RV μ tok x x') (w : World) : (Builtin.lenOf x').run P w = .ok k w := by
  unfold lenL at e
  split at e
  · cases e; cases rx <;> rfl
  · rename_i s
    cases e; cases rx
    rw [len_eq]; rfl
  · cases e

theorem srcL_run (s : Sub h F) (r : HR μ tok B0 w0 F w) {sz n : Nat} {x x' : Value} {l : List Value} (e : srcL h sz n x = some l) (rx : RV μ tok x x') :
    ∃ l', (Builtin.firstCells sz n x').run P w = .ok ⟨l'⟩ w ∧ RL μ tok l l' := by
  have fromBlk : ∀ {b o : Nat} {i : Bi} {c : List Value} {z : Nat} {ro : Bool}, h.get b = some (.cells c z ro) → μ b = some i → sliceN o (Nat.mul n sz) c = some l →
      ∃ l', (loadCells ⟨i.cb, i.co + o, none⟩ (n * sz)).run P w = .ok ⟨l'⟩ w ∧ RL μ tok l l' := by
    intro b o i c z ro hc hi hs
    obtain ⟨ob, ho, E, fz, pre, c', suf, rfl, hp, rl, _⟩ := at_blk s r hc hi
    obtain ⟨el, hlen⟩ := sliceN_spec hs
    have hlen' : o + n * sz ≤ c'.length := by rw [← rl.len]; exact hlen
    have hcs : ((c'.drop o).take (n * sz)).length = n * sz := by simp; omega
    refine ⟨(c'.drop o).take (n * sz), ?_, by rw [el]; exact (rl.drop o).take _⟩
    have := run_loadCells_list (P := P) w ⟨i.cb, i.co + o, none⟩ ((c'.drop o).take (n * sz)) (by
      intro j v hj
      rw [add_at, cell_of ho]
      have hj' : j < n * sz := by
        have := (List.getElem?_eq_some_iff.1 hj).1; rw [hcs] at this; exact this
      rw [← hp, show pre.length + o + j = pre.length + (o + j) from by omega, getElem?_mid (by omega)]
      rw [List.getElem?_take_of_lt hj', List.getElem?_drop] at hj
      exact hj)
    rw [hcs] at this
    exact this
  unfold srcL at e
  split at e
  · cases e; cases rx; exact ⟨[], rfl, .nil⟩
  · rename_i b m c
    split at e
    · rename_i hsp
      obtain ⟨hn, e⟩ := cond_some e
      have hn := nbeq hn
      subst hn
      cases e
      cases rx with
      | sexact _ _ hi => cases hsp
      | sloose _ hi _ _ _ => exact absurd hsp (by simp)
      | sempty b o a' c' => exact ⟨[], by simp [Builtin.firstCells, loadCells, loadCellsFrom], .nil⟩
    · rename_i hsp
      split at e
      · rename_i cs z ro hc
        cases rx with
        | sexact _ _ hi => exact fromBlk hc hi e
        | sloose _ hi _ _ _ => exact fromBlk hc hi e
        | sempty b o a' c' => exact absurd rfl hsp
      · cases e
  · rename_i s'
    obtain ⟨el, hlen⟩ := takeN_spec e
    cases rx
    refine ⟨l, ?_, ?_⟩
    · rw [el]
      simp only [Builtin.firstCells, Sem.run_pure]
      congr 1
      apply Array.ext'
      rw [extract_list]
      simp [List.map_take]
    · apply RL.ofFlat1
      rw [el]
      have : ∀ (u : List UInt8) (n : Nat), allB Ev.flat1 ((u.map fun b => Value.int .u8 (Int.ofNat b.toNat)).take n) = true := by
        intro u
        induction u with
        | nil => intro n; simp [allB]
        | cons a u ih => intro n; cases n with
          | zero => simp [allB]
          | succ n => simp only [List.map_cons, List.take_succ_cons, allB, Ev.flat1, cond_true]; exact ih n
      exact this _ _
  · cases e

theorem growBy_le (n : Nat) : ∀ (r c : Nat), c < n → Builtin.growBy n r c ≤ 2 * n + 192
  | 0, c, h => by simp only [Builtin.growBy]; omega
  | r + 1, c, h => by
    simp only [Builtin.growBy]
    rw [if_neg (by omega)]
    by_cases h' : c + (c + 768) / 4 < n
    · exact growBy_le n r _ h'
    · cases r with
      | zero => simp only [Builtin.growBy]; omega
      | succ r => simp only [Builtin.growBy]; rw [if_pos (by omega)]; omega

theorem nextcap_le {n c : Nat} (h : c < n) : Builtin.nextslicecap n c ≤ 2 * n + 192 := by
  unfold Builtin.nextslicecap
  split
  · omega
  · split
    · omega
    · exact growBy_le n 4 c h

theorem room_ok {n c b : Nat} (h : c < n) (hb : n * (b + 1) ≤ 100000000) : ¬ Builtin.nextslicecap n c * b > 2 ^ 48 := by
  have h1 := nextcap_le h
  have h2 : Builtin.nextslicecap n c * b ≤ (2 * n + 192) * b := Nat.mul_le_mul_right b h1
  have h3 : (2 * n + 192) * b = 2 * (n * b) + 192 * b := by rw [Nat.add_mul, Nat.mul_assoc]
  have h4 : n * (b + 1) = n * b + n := by rw [Nat.mul_succ]
  have h5 : b ≤ n * b := Nat.le_mul_of_pos_left b (by omega)
  have : (2 : Nat) ^ 48 = 281474976710656 := by decide
  omega

theorem HR.drew (r : HR μ tok B0 w0 F w) : HR μ tok B0 w0 F { w with drawn := w.drawn + 1 } := r.keeps ⟨rfl, rfl, rfl, Nat.le_refl _, fun _ _ => rfl⟩

/-- What is appended, as the model reckons it. -/
def sN (elem : TypeId) (zeros : Bool) (x' : Value) : Sem Nat :=
  if zeros then do
      let l := IntKind.i64.wrap (← asInt x')
      if l < 0 then runtimePanic (.error "makeslice: len out of range")
      if l * (← typeInfo elem).bytes > 2 ^ 48 then
        let made ← choose (.extern "append.ofMake.carriedOut" 2)
        runtimePanic (.error (if made == 1 then "makeslice: len out of range" else "growslice: len out of range"))
      pure l.toNat
    else Builtin.lenOf x'

def sA (elem : TypeId) (zeros : Bool) (size n : Nat) (x' : Value) : Sem (Array Value) :=
  if !zeros then Builtin.firstCells size n x'
    else if n * size = 0 then pure #[]
    else do pure (Builtin.zeroCells (← zeroValue elem).cells n)

theorem newL_run {e : TypeId} {ek : TK} {sz by_ : Nat} {z : Value} {xi : TI} {x x' : Value} {k : Nat} {new : List Value} (ht : Tells P e ⟨ek, sz, by_, some z⟩) (hz : flat z = true) (hzl : (cellsL z).length = sz)
    (en : newL h sz by_ z xi x = some (k, new)) (rx : RV μ tok x x') (s : Sub h F) (htok : ∀ k, cellOk (tok k) = true) :
    ∃ zeros : Bool, (∀ d, tkOf d = xi.k → (zeros = true ∧ ∃ q, d = .int q) ∨ (zeros = false ∧ ((∃ q, d = .slice q) ∨ d = .string))) ∧ (∀ w, (sN e zeros x').run P w = .ok k w) ∧ (zeros = true → ∃ kx, x' = .int kx (k : Int) ∧ IntKind.i64.wrap (k : Int) = k ∧ ¬ ((k : Int) * (by_ : Int) > 2 ^ 48)) ∧
      ∀ w, HR μ tok B0 w0 F w → ∃ new', (sA e zeros sz k x').run P w = .ok ⟨new'⟩ w ∧ RL μ tok new new' := by
  have rest : newL.restL h sz x = some (k, new) → (∀ w, (sN e false x').run P w = .ok k w) ∧ ∀ w, HR μ tok B0 w0 F w → ∃ new', (sA e false sz k x').run P w = .ok ⟨new'⟩ w ∧ RL μ tok new new' := by
    intro en
    unfold newL.restL at en
    split at en
    · rename_i m hm
      split at en
      · rename_i l hl
        cases en
        refine ⟨fun w => ?_, fun w r => ?_⟩
        · simp only [sN, Bool.false_eq_true, if_false]
          exact lenL_run hm rx w
        · simp only [sA, Bool.not_false, if_true]
          exact srcL_run s r hl rx
      · cases en
    · cases en
  unfold newL at en
  split at en
  · rename_i kk hk
    split at en
    · rename_i m hm
      obtain ⟨h1, en⟩ := cond_some en
      obtain ⟨h2, en⟩ := cond_some en
      obtain ⟨h3, en⟩ := cond_some en
      have h1 := nble h1
      have h2 := nble h2
      cases en
      obtain ⟨kx, rfl⟩ := natOf_rv hm rx
      obtain ⟨i, hi1, hi2, hi3, hinfo⟩ := r_info ht
      have hw : IntKind.i64.wrap (k : Int) = k := by
        unfold IntKind.wrap IntKind.bits IntKind.signed
        simp only
        have e1 : (2 : Int) ^ 64 = 18446744073709551616 := by decide
        have e2 : (2 : Int) ^ (64 - 1) = 9223372036854775808 := by decide
        rw [e1, e2, Int.emod_eq_of_lt (by omega) (by omega)]
        simp only [Bool.true_and, decide_eq_true_eq, ge_iff_le]
        rw [if_neg (by omega)]
      have hrep : ∀ n, (rep (cellsL z) n).length = n * sz := by
        intro n
        induction n with
        | zero => simp [rep]
        | succ n ih => simp only [rep, List.length_append, hzl, ih, Nat.succ_mul]; omega
      refine ⟨true, fun d hd => .inl ⟨rfl, kk, by rw [hk] at hd; exact tk_int hd⟩, fun w => ?_, fun _ => ⟨kx, rfl, hw, ?_⟩, fun w r => ?_⟩
      · have hb : ¬ ((k : Int) * (i.bytes : Int) > 2 ^ 48) := by
          have hi2' : i.bytes = by_ := hi2
          rw [hi2']
          have : (2 : Int) ^ 48 = 281474976710656 := by decide
          have h1' : k * by_ ≤ 1000000 := h1
          rw [this, ← Int.natCast_mul]
          omega
        simp only [sN, if_true, asInt, asIntOf, Sem.run_bind, Sem.run_pure, then_ok, hw]
        rw [if_neg (by omega)]
        simp only [Sem.run_bind, hinfo, then_ok]
        rw [if_neg hb]
        simp
      · have : (2 : Int) ^ 48 = 281474976710656 := by decide
        have h1' : k * by_ ≤ 1000000 := h1
        rw [this, ← Int.natCast_mul]
        omega
      · unfold sA
        simp only [Bool.not_true, Bool.false_eq_true, if_false]
        by_cases h0 : k * sz = 0
        · rw [if_pos h0]
          have := hrep k
          rw [h0] at this
          rw [List.eq_nil_of_length_eq_zero this]
          exact ⟨[], rfl, .nil⟩
        · rw [if_neg h0]
          refine ⟨rep z.cells.toList k, ?_, (RL.rep ((RV.ofFlat hz).cells htok) k)⟩
          simp only [Sem.run_bind, r_zero ht rfl, then_ok, Sem.run_pure, zeroCells_rep]
    · cases en
  · rename_i q hk
    exact ⟨false, fun d hd => .inr ⟨rfl, .inl ⟨q, by rw [hk] at hd; exact tk_slice hd⟩⟩, (rest en).1, fun h => absurd h (by simp), (rest en).2⟩
  · rename_i hk
    exact ⟨false, fun d hd => .inr ⟨rfl, .inr (by rw [hk] at hd; exact tk_string hd)⟩, (rest en).1, fun h => absurd h (by simp), (rest en).2⟩
  · cases en

/-- What an append does, its operands at hand. -/
def sAppend (elem : TypeId) (size : Nat) (zeros : Bool) (base : Option Addr) (sLen sCap : Nat) (x : Value) : Sem Value := do
  let n ← sN elem zeros x
  if sLen + n ≤ sCap then
    let new ← sA elem zeros size n x
    if let some a := base then storeCells (a.add (sLen * size)) new.toList
    pure (.slice base (sLen + n) sCap)
  else
    if ((sLen + n : Nat) : Int) > IntKind.i64.max ∧ (zeros ∨ (← typeInfo elem).bytes = 0) then runtimePanic (.error "growslice: len out of range")
    if Builtin.nextslicecap (sLen + n) sCap * (← typeInfo elem).bytes > 2 ^ 48 then (if zeros then runtimePanic (.error "growslice: len out of range") else do
      if !(← Builtin.mayShare size sLen n base x) then mark .noRoom
      unsupported (.resourceLimit "append: a slice or a string whose bytes no memory bears"))
    let newCap ← choose (.appendCap (sLen + n) sCap elem)
    askRoom (newCap * (← typeInfo elem).bytes)
    let old ← Builtin.firstCells size sLen (.slice base sLen sCap)
    let new ← sA elem zeros size n x
    let rest := Builtin.zeroCells (← zeroValue elem).cells (newCap - (sLen + n))
    pure (.slice (some (← newRow elem (old ++ new ++ rest))) (sLen + n) newCap)

theorem append_eq {P : Program} (ts : Array TypeId) (ty : TypeId) {st xt el : TypeId} {d : TypeDesc} {ti : TI} (h0 : ts[0]? = some st) (h1 : ts[1]? = some xt) (hs : ∀ w, (underlying st).run P w = .ok (.slice el) w) (ht : Tells P el ti)
    (hx : ∀ w, (underlying xt).run P w = .ok d w) {zeros : Bool} (hd : (zeros = true ∧ ∃ q, d = .int q) ∨ (zeros = false ∧ ((∃ q, d = .slice q) ∨ d = .string))) (base : Option Addr) (n c : Nat) (x : Value) {k : Nat}
    (hk : zeros = true → ∃ kx, x = .int kx (k : Int) ∧ IntKind.i64.wrap (k : Int) = k ∧ ¬ ((k : Int) * (ti.bytes : Int) > 2 ^ 48)) (w : World) :
    (Builtin.append_ ts ty #[.slice base n c, x]).run P w = (sAppend el ti.size zeros base n c x).run P w := by
  have e2 : (#[Value.slice base n c, x] : Array Value)[0]? = some (.slice base n c) := rfl
  have e3 : (#[Value.slice base n c, x] : Array Value)[1]? = some x := rfl
  unfold Builtin.append_ sAppend
  rcases hd with ⟨rfl, q, rfl⟩ | ⟨rfl, ⟨q, rfl⟩ | rfl⟩
  · obtain ⟨kx, rfl, hw, hb⟩ := hk rfl
    obtain ⟨i, hi1, hi2, hi3, hinfo⟩ := r_info ht
    rw [← hi2] at hb
    have hneg : ¬ ((k : Int) < 0) := by omega
    simp only [h0, h1, e2, e3, Sem.run_bind, hs, then_ok, hx, Sem.run_pure, r_size ht, sN, sA, if_true, Bool.not_true, Bool.false_eq_true, if_false, asInt, asIntOf, hw, if_neg hneg, hinfo, if_neg hb]
    rfl
  · simp only [h0, h1, e2, e3, Sem.run_bind, hs, then_ok, hx, Sem.run_pure, r_size ht, sN, sA, if_true, Bool.not_false, Bool.false_eq_true, if_false]
    rfl
  · simp only [h0, h1, e2, e3, Sem.run_bind, hs, then_ok, hx, Sem.run_pure, r_size ht, sN, sA, if_true, Bool.not_false, Bool.false_eq_true, if_false]
    rfl

end
end Go.Ev
