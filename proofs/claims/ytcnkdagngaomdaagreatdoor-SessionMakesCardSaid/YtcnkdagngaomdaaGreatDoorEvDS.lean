/-
  THE EVALUATOR, REGIONS WHOSE ORDER IS DRAWN, QUICKER: what the quick run yields, the proved one yields.
-/
import Derived.Test.YtcnkdagngaomdaaGreatDoorEvD
import Derived.Test.YtcnkdagngaomdaaGreatDoorEvS1
namespace Go.Ev
open Go

theorem oK_some {α β : Type} {x : Option α} {k : α → Option β} {r : β} (h : oK x k = some r) : ∃ a, x = some a ∧ k a = some r := by
  cases x with
  | none => cases h
  | some a => exact ⟨a, rfl, h⟩

theorem maskS_eq {i : Nat} : ∀ {hist : List Rec}, maskS (hist.map tri) i = maskOf hist i
  | [] => rfl
  | r :: rs => by
    show cond (Nat.beq r.i i) (some r.m) (maskS (rs.map tri) i) = cond (Nat.beq r.i i) (some r.m) (maskOf rs i)
    rw [maskS_eq]

theorem predS_eq {hist : List Rec} : ∀ {es : List Edge}, predS (hist.map tri) es = predMask hist es
  | [] => rfl
  | e :: r => by
    show cond (Region.binds .any e) (oK (maskS (hist.map tri) e.on) fun a => oK (predS (hist.map tri) r) fun b => some (Nat.lor (Nat.lor a (Nat.shiftLeft 1 e.on)) b)) (predS (hist.map tri) r) = _
    rw [maskS_eq, predS_eq]
    show _ = cond (Region.binds .any e) (match maskOf hist e.on with
      | some a => (match predMask hist r with
        | some b => some (Nat.lor (Nat.lor a (Nat.shiftLeft 1 e.on)) b)
        | none => none)
      | none => none) (predMask hist r)
    cases Region.binds .any e with
    | false => rfl
    | true =>
      show oK (maskOf hist e.on) _ = (match maskOf hist e.on with
      | some a => (match predMask hist r with
        | some b => some (Nat.lor (Nat.lor a (Nat.shiftLeft 1 e.on)) b)
        | none => none)
      | none => none)
      cases maskOf hist e.on with
      | none => rfl
      | some a =>
        show oK (predMask hist r) _ = (match predMask hist r with
        | some b => some (Nat.lor (Nat.lor a (Nat.shiftLeft 1 e.on)) b)
        | none => none)
        cases predMask hist r <;> rfl

theorem apartsS_eq {all : List Oper} {m : Nat} {o : Oper} : ∀ {hist : List Rec}, apartsS all m o (hist.map tri) = aparts all m o hist
  | [] => rfl
  | r :: rs => by
    show cond (cond (Nat.testBit m r.i) true (apartE all r.o o)) (apartsS all m o (rs.map tri)) false = cond (cond (Nat.testBit m r.i) true (apartE all r.o o)) (aparts all m o rs) false
    rw [apartsS_eq]

theorem hidesF_eq {m : Nat} {base : List (Nat × Nat)} : ∀ {rs : List Rec}, hidesF base rs (bitsS m (rs.map tri)) = hides m base rs
  | [] => rfl
  | r :: rs => by
    show cond (Nat.testBit m r.i) (hidesF base rs (bitsS m (rs.map tri))) ((r.pre.c, r.post.c) :: singles r.W (hidesF base rs (bitsS m (rs.map tri)))) = cond (Nat.testBit m r.i) (hides m base rs) ((r.pre.c, r.post.c) :: singles r.W (hides m base rs))
    rw [hidesF_eq]

theorem unseen_nil {m : Nat} : ∀ {rs : List Rec}, unseen m [] rs = true
  | [] => rfl
  | r :: rs => by
    show cond (cond (Nat.testBit m r.i) true true) (unseen m [] rs) false = true
    rw [unseen_nil, Bool.cond_self]; rfl

theorem unseenF_eq {m : Nat} {W : List Nat} {rs : List Rec} : unseenF m W rs = unseen m W rs := by
  cases W with
  | nil => exact unseen_nil.symm
  | cons a r => rfl

theorem sightF_eq {ρ : Operand → Value} {o : Oper} : sightF o.op ρ = sight ρ o := by
  obtain ⟨dst, op, type, pos, after, guard⟩ := o
  cases op with
  | call c =>
    obtain ⟨callee, args, ts⟩ := c
    cases callee <;> rfl
  | _ => rfl

variable {P : Program} {tt : T TI} {call : Nat → List Value → Hp → Option CR}

theorem preF_eq {hid : List (Nat × Nat)} {o : Oper} {hist : List Rec} {m : Nat} {t : T Value} {h : Hp} : preF hid o hist (bitsS m (hist.map tri)) t h = drawGo.preOf hid t o m hist h := by
  unfold preF drawGo.preOf hidF
  rw [sightF_eq, hidesF_eq]
  cases sight (aval t) o <;> rfl

theorem drawR_imp {n : Nat} {all : List Oper} {hid : List (Nat × Nat)} : ∀ {l : List Oper} {j : Nat} {hist : List Rec} {t : T Value} {h : Hp} {ps : List (Nat × List Bool)} {out : RR},
    plan all l j (hist.map tri) = some ps → drawR P tt call n all hid l ps j hist t h = some out → drawGo P tt call n all hid l j hist t h = some out
  | [], j, hist, t, h, ps, out, _, e => e
  | o :: r, j, hist, t, h, ps, out, hp, e => by
    obtain ⟨m, hm, hp⟩ := oK_some (show oK (predS (hist.map tri) o.after.toList) _ = some ps from hp)
    obtain ⟨ha, hp⟩ := cond_some hp
    obtain ⟨l', hl, hp⟩ := oK_some hp
    cases hp
    replace hl : plan all r (Nat.succ j) (⟨j, o, m⟩ :: hist.map tri) = some l' := hl
    rw [predS_eq] at hm
    rw [apartsS_eq] at ha
    replace e : wantK (wantsE all t o) (drawRun P tt call n hid o (drawR P tt call n all hid r) m l' j hist t h (preF hid o hist (bitsS m (hist.map tri)) t h)) (drawSkip n o (drawR P tt call n all hid r) m l' j hist t h (preF hid o hist (bitsS m (hist.map tri)) t h)) = some out := e
    rw [preF_eq] at e
    obtain ⟨b, hw, e⟩ := oK_some e
    unfold drawGo
    rw [hm]
    show cond (aparts all m o hist) _ none = some out
    rw [ha]
    show (match wantsE all t o with | some true => _ | some false => _ | none => none) = some out
    rw [hw]
    cases b with
    | true =>
      obtain ⟨x, hx, e⟩ := oK_some (show oK (opE P tt call (aval t) o (drawGo.preOf hid t o m hist h)) _ = some out from e)
      cases x with
      | pan v h' => cases e
      | val v h' =>
        obtain ⟨t', ht, e⟩ := oK_some (show oK (put n t o.dst v) _ = some out from e)
        obtain ⟨h1, e⟩ := cond_some e
        obtain ⟨h2, e⟩ := cond_some e
        rw [unseenF_eq] at h2
        have ih := drawR_imp (hist := ⟨j, o, m, t, drawGo.preOf hid t o m hist h, v, h', low h.c h'.wr⟩ :: hist) hl e
        show (match opE P tt call (aval t) o (drawGo.preOf hid t o m hist h) with | some (.val v h') => _ | _ => none) = some out
        rw [hx]
        show (match put n t o.dst v with | some t' => _ | none => none) = some out
        rw [ht]
        show cond (Nat.ble h.c h'.c) _ none = some out
        rw [h1]
        show cond (unseen m (low h.c h'.wr) hist) _ none = some out
        rw [h2]
        exact ih
    | false =>
      obtain ⟨t', ht, e⟩ := oK_some (show oK (put n t o.dst undef) _ = some out from e)
      have ih := drawR_imp (hist := ⟨j, o, m, t, drawGo.preOf hid t o m hist h, undef, drawGo.preOf hid t o m hist h, []⟩ :: hist) hl e
      show (match put n t o.dst undef with | some t' => _ | none => none) = some out
      rw [ht]
      exact ih

theorem drawF_imp {n : Nat} {ops : List Oper} {t : T Value} {h : Hp} {out : RR} (e : drawF P tt call n ops t h = some out) : drawE P tt call n ops t h = some out := by
  obtain ⟨ps, hp, e⟩ := oK_some e
  exact drawR_imp (hist := []) hp e
end Go.Ev
