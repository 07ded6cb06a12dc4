/-
  SOUNDNESS, SIXTEENTH PART: conversions, comparisons, assertions.
-/
import Derived.Test.YtcnkdagngaomdaaGreatDoorEvS15
namespace Go.Ev
open Go Go.RowKit

section
variable {P : Program} {tt : T TI} {w : World}
variable {μ : Mu} {tok : Nat → Value} {B0 : Nat} {w0 : World} {F : FH} {h h' : Hp}

theorem push_modify (A : Array Obj) (o : Obj) (f : Obj → Obj) : (A.push o).modify A.size f = A.push (f o) := by
  apply Array.ext_getElem?
  intro i
  rw [Array.getElem?_modify, Array.getElem?_push, Array.getElem?_push]
  by_cases e : i = A.size
  · subst e; simp
  · rw [if_neg (fun x => e x.symm), if_neg e, if_neg e]

theorem bytes_fold : ∀ (ns : List Int) (s : List UInt8) (acc : ByteArray), bytesOf (ns.map (Value.int .u8)) = some s → ns.foldl (fun r n => r.push (UInt8.ofNat n.toNat)) acc = ⟨⟨acc.data.toList ++ s⟩⟩
  | [], s, acc, h => by simp only [List.map_nil, bytesOf, Option.some.injEq] at h; subst h; simp
  | n :: ns, s, acc, h => by
    simp only [List.map_cons] at h
    cases n with
    | negSucc m => simp [bytesOf] at h
    | ofNat m =>
      simp only [bytesOf] at h
      split at h
      · rename_i l hl
        cases h
        rw [List.foldl_cons, bytes_fold ns l _ hl]
        congr 2
        show (acc.data.push (UInt8.ofNat m)).toList ++ l = acc.data.toList ++ (UInt8.ofNat m :: l)
        simp
      · cases h

theorem bytesOf_ints : ∀ {l : List Value} {s : List UInt8}, bytesOf l = some s → ∃ ns : List Int, l = ns.map (Value.int .u8) ∧ allB Ev.flat1 l = true
  | [], s, _ => ⟨[], rfl, rfl⟩
  | v :: l, s, h => by
    unfold bytesOf at h
    split at h
    · rename_i h1; cases h1
    · rename_i n r h1
      cases h1
      split at h
      · rename_i t ht
        obtain ⟨ns, e, f⟩ := bytesOf_ints ht
        exact ⟨(Int.ofNat n) :: ns, by rw [e]; rfl, by simp only [allB, Ev.flat1, cond_true]; exact f⟩
      · cases h
    · cases h

theorem aConvert_run (hT : TT P tt) (ok : HpOk h) (s : Sub h F) (r : HR μ tok B0 w0 F w) {src dst : TypeId} {x x' v : Value} (e : aConvert tt h src dst x = some (.val v h')) (f : Fresh μ F h.c h'.c) (rx : RV μ tok x x') :
    ∃ μ' v' w', (convert src dst x').run P w = .ok v' w' ∧ RV μ' tok v v' ∧ Good μ tok B0 w0 F h h' μ' w' := by
  unfold aConvert at e
  split at e
  · rename_i _ _ _ el _ _ _ u hs hd
    split at e
    · rename_i _ _ _ he
      obtain ⟨ds, hks, hus, hrs⟩ := tells_k hT hs
      obtain rfl := tk_string hks
      obtain ⟨dd, hkd, hud, hrd⟩ := tells_k hT hd
      obtain rfl := tk_slice hkd
      obtain ⟨de, hke, hue, hre⟩ := tells_k hT he
      obtain rfl := tk_int hke
      cases rx
      obtain ⟨id, hn, rfl⟩ := newVal_spec e
      have hid := Hp.new_spec ok hn
      have hf := f id (by omega) (by omega)
      have hsz : (⟨⟨u⟩⟩ : ByteArray).size = u.length := rfl
      let cap := u.length + (w.tape w.drawn (.appendCap u.length 0 el)) % (2 ^ 63 - u.length)
      have hcap : u.length ≤ cap := Nat.le_add_right _ _
      let cells : List Value := (u.map fun b => Value.int .u8 (Int.ofNat b.toNat)) ++ List.replicate (cap - u.length) (.int .u8 0)
      have hlen : cells.length = cap := by show ((u.map _) ++ List.replicate _ _).length = cap; simp; omega
      let i : Bi := ⟨w.heap.size, 0, (u.map fun b => Value.int .u8 (Int.ofNat b.toNat)).length, cells.length⟩
      have g := Good.new ok s r.drew hn f (i := i) (o := .cells ⟨cells⟩ el (cells.length, cells.length + 1)) rfl
        ⟨el, (cells.length, cells.length + 1), [], (u.map fun b => Value.int .u8 (Int.ofNat b.toNat)), List.replicate (cap - u.length) (.int .u8 0), by simp [cells], rfl, by
          apply RL.ofFlat1
          have : ∀ (u : List UInt8), allB Ev.flat1 (u.map fun b => Value.int .u8 (Int.ofNat b.toNat)) = true := by
            intro u; induction u with
            | nil => rfl
            | cons a u ih => simp only [List.map_cons, allB, Ev.flat1, cond_true]; exact ih
          exact this u, rfl, by show cells.length = _; simp [cells], fun _ => ⟨Nat.le_trans r.b0 r.below.size, fun off ho hc => by have : off < cells.length := ho; have h1 : cells.length ≤ off := hc.1; omega⟩⟩
      refine ⟨μ.upd id i, .slice (some ⟨w.heap.size, 0, none⟩) u.length cap, _, ?_, ?_, g⟩
      · have hch : (choose (.appendCap u.length 0 el)).run P w = .ok cap { w with drawn := w.drawn + 1 } := rfl
        unfold convert
        simp only [Sem.run_bind, hrs, hrd, hre, then_ok]
        unfold Conv.stringToBytes
        simp only [hsz, Sem.run_bind, hch, then_ok, newRow, newObj, markStringish, shape, freeze, Sem.run, Sem.run_pure]
        have harr : (Array.map (fun b => Value.int .u8 (b.toNat : Int)) (⟨u⟩ : Array UInt8) ++ Array.replicate (cap - u.length) (Value.int .u8 0)) = ⟨cells⟩ := by
          apply Array.ext'
          simp [cells]
        rw [harr]
        have hshape : World.shape? { w with heap := w.heap.push (.cells ⟨cells⟩ el), drawn := w.drawn + 1 } w.heap.size = some (el, cells.length) := by
          unfold World.shape?
          simp
        rw [hshape]
        simp only [Sem.run, then_ok, World.freeze]
        rw [if_neg (by omega)]
        congr 1
        show World.mk _ _ _ _ _ = World.mk _ _ _ _ _
        congr 1
        rw [push_modify]
        rfl
      · have := RV.sloose (μ := μ.upd id i) (tok := tok) (b := id) (o := 0) (z := 1) u.length (c := u.length) (c' := cap) (i := i) (Mu.upd_same _ _ _) hcap (by show 0 + u.length * 1 = (u.map _).length; simp) (by show 0 + 0 + cap * 1 ≤ cells.length; omega)
        rw [len_eq]
        exact this
    · cases e
  · rename_i el _ _ _ _ _ _ a n c hs hd
    split at e
    · rename_i _ _ _ he
      obtain ⟨ds, hks, hus, hrs⟩ := tells_k hT hs
      obtain rfl := tk_slice hks
      obtain ⟨dd, hkd, hud, hrd⟩ := tells_k hT hd
      obtain rfl := tk_string hkd
      obtain ⟨de, hke, hue, hre⟩ := tells_k hT he
      obtain rfl := tk_int hke
      split at e
      · cases e
        cases rx
        refine ⟨μ, .string .empty, w, ?_, RV.string _, Good.same ok s r⟩
        rw [run_convert_bytes_string w src dst el none n c hus hue hud]
        rfl
      · rename_i a
        split at e
        · rename_i cs bz ro hc
          split at e
          · rename_i l hl
            split at e
            · rename_i sb hb
              cases e
              obtain ⟨ns, hns, hflat⟩ := bytesOf_ints hb
              obtain ⟨el2, hlen⟩ := sliceN_spec hl
              have fin : ∀ {b o : Nat} {i : Bi} {c' : Nat}, a.block = b → a.off = o → μ b = some i → ∃ μ' v' w', (convert src dst (.slice (some ⟨i.cb, i.co + o, none⟩) n c')).run P w = .ok v' w' ∧ RV μ' tok (.string ⟨⟨sb⟩⟩) v' ∧ Good μ tok B0 w0 F h h μ' w' := by
                intro b o i c' hab hao hi
                rw [hab] at hc
                rw [hao] at hl
                have hsrc : srcL h 1 n (.slice (some ⟨b, o, none⟩) n c) = some l := by
                  unfold srcL
                  simp only [hc]
                  rw [show Nat.mul n 1 = n from Nat.mul_one n]
                  exact hl
                obtain ⟨l', hl', rl⟩ := srcL_run (P := P) s r hsrc (RV.sexact n c hi)
                have : l' = l := rl.flat1 hflat
                subst this
                refine ⟨μ, .string ⟨⟨sb⟩⟩, w, ?_, RV.string _, Good.same ok s r⟩
                rw [run_convert_bytes_string w src dst el _ n c' hus hue hud]
                have hload : (loadCells ⟨i.cb, i.co + o, none⟩ n).run P w = .ok (ns.map (Value.int .u8)).toArray w := by
                  have h1 : (Builtin.firstCells 1 n (.slice (some ⟨i.cb, i.co + o, none⟩) n c)) = loadCells ⟨i.cb, i.co + o, none⟩ (n * 1) := rfl
                  rw [h1, Nat.mul_one] at hl'
                  rw [hl', hns]
                rw [run_bytesToString w _ n c' ns hload]
                rw [bytes_fold ns sb ByteArray.empty (by rw [← hns]; exact hb)]
                rfl
              cases rx with
              | @sexact b o _ _ i hi => exact fin rfl rfl hi
              | @sloose b o _ _ _ _ i hi _ _ _ => exact fin rfl rfl hi
              | sempty b o a' c' =>
                have h0 : l = [] := by rw [el2]; rfl
                subst h0
                simp only [bytesOf, Option.some.injEq] at hb
                subst hb
                refine ⟨μ, .string ⟨⟨[]⟩⟩, w, ?_, RV.string _, Good.same ok s r⟩
                rw [run_convert_bytes_string w src dst el _ 0 c' hus hue hud]
                have := run_bytesToString (P := P) w a' 0 c' [] (by simp [loadCells, loadCellsFrom])
                rw [this]
                rfl
            · cases e
          · cases e
        · cases e
    · cases e
  · rename_i k1 _ _ _ k _ _ _ k2 n hs hd
    cases e
    obtain ⟨ds, hks, hus, hrs⟩ := tells_k hT hs
    obtain ⟨dd, hkd, hud, hrd⟩ := tells_k hT hd
    obtain rfl := tk_int hkd
    cases rx
    refine ⟨μ, .int k (k.wrap n), w, ?_, RV.int _ _, Good.same ok s r⟩
    unfold convert
    simp only [Sem.run_bind, hrs, hrd, then_ok]
    rfl
  · cases e

theorem tk_func {d : TypeDesc} (h : tkOf d = .func) : ∃ a b c, d = .func a b c := by
  cases d <;> simp [tkOf] at h
  exact ⟨_, _, _, rfl⟩
theorem tk_iface' {d : TypeDesc} (h : tkOf d = .iface) : ∃ a, d = .interface a := by
  cases d <;> simp [tkOf] at h
  exact ⟨_, rfl⟩

theorem nilEq_run (hT : TT P tt) {op : BinOp} {xt : TypeId} {x y : Operand} {a b a' b' v : Value} (e : nilEq tt h op xt a b = some (.val v h')) (ra : RV μ tok a a') (rb : RV μ tok b b') (w : World) :
    (do eqGuard op xt x y a' b'; binOp op xt a' b' : Sem Value).run P w = .ok v w ∧ h' = h ∧ ∃ t, v = .bool t := by
  unfold nilEq at e
  split at e
  · cases e
  · rename_i ti hti
    obtain ⟨d, hk, hu, hd⟩ := r_under (hT _ _ hti)
    have main : ∀ t, eqNil ti.k a b = some t → (Op.equal xt a' b').run P w = .ok t w ∧ (∀ op, (eqGuard op xt x y a' b').run P w = .ok () w) ∧
        (∀ op : BinOp, op = .eql ∨ op = .neq → binOp op xt a' b' = (match op with | .eql => (do pure (.bool (← Op.equal xt a' b'))) | _ => (do pure (.bool (!(← Op.equal xt a' b')))) : Sem Value)) := by
      intro t ht
      unfold eqNil at ht
      split at ht
      all_goals first | cases ht | skip
      all_goals rename_i hkk
      all_goals have hq := hk.trans hkk
      all_goals
        first
        | (have h1 := tk_slice hq; subst h1)
        | (have h1 := tk_ptr hq; subst h1)
        | (have h1 := tk_map hq; subst h1)
        | (have h1 := tk_iface' hq; obtain ⟨_, h1⟩ := h1; subst h1)
        | (have h1 := tk_func hq; obtain ⟨_, _, _, h1⟩ := h1; subst h1)
      all_goals
        cases ra <;> cases rb <;>
          (refine ⟨?_, fun op => ?_, fun op ho => ?_⟩
           · show (Op.equalIn (9999 + 1) _ _ _).run P w = _
             unfold Op.equalIn
             simp only [Sem.run_bind, hd, then_ok]
             rfl
           · unfold eqGuard; cases op <;> rfl
           · rcases ho with rfl | rfl <;> rfl)
    split at e
    · rename_i t ht
      cases e
      obtain ⟨h1, h2, h3⟩ := main t ht
      refine ⟨?_, rfl, t, rfl⟩
      rw [h3 .eql (.inl rfl)]
      simp only [Sem.run_bind, h2, then_ok, h1, Sem.run_pure]
    · rename_i t ht
      cases e
      obtain ⟨h1, h2, h3⟩ := main t ht
      refine ⟨?_, rfl, !t, rfl⟩
      rw [h3 .neq (.inr rfl)]
      simp only [Sem.run_bind, h2, then_ok, h1, Sem.run_pure]
    · cases e

end
end Go.Ev
