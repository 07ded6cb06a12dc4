/-
  SOUNDNESS, FIFTEENTH PART: steps through a map; conversions; comparisons; assertions.
-/
import Derived.Test.YtcnkdagngaomdaaGreatDoorEvS14
namespace Go.Ev
open Go Go.RowKit

section
variable {P : Program} {tt : T TI} {w : World}
variable {μ : Mu} {tok : Nat → Value} {B0 : Nat} {w0 : World} {F : FH} {h h' : Hp}

theorem memN_spec : ∀ {l : List Nat} {n : Nat}, memN l n = l.contains n
  | [], n => rfl
  | a :: l, n => by
    simp only [memN, memN_spec (l := l), List.contains_cons]
    cases h : Nat.beq a n with
    | true => have := nbeq h; subst this; simp
    | false =>
      have := nbeq' h
      have : (n == a) = false := by rw [beq_eq_false_iff_ne]; exact fun e => this e.symm
      rw [this]; rfl

theorem snocN_eq : ∀ (l : List Nat) (n : Nat), snocN l n = l ++ [n]
  | [], _ => rfl
  | a :: l, n => by simp [snocN, snocN_eq l n]

theorem RE.keep {es es' : List MapEntry} (r : RE μ tok es es') (p : Nat → Bool) : RE μ tok (Ev.keep (fun e => p e.born) es) (es'.filter fun e => p e.born) := by
  induction r with
  | nil => exact .nil
  | @cons k v v' n l l' f rv _ ih =>
    simp only [Ev.keep, List.filter_cons]
    cases p n with
    | true => exact .cons f rv ih
    | false => exact ih

theorem RE.all {es es' : List MapEntry} (r : RE μ tok es es') {p : Nat → Bool} (h : allB (fun e => p e.born) es = true) : ∀ e ∈ es', p e.born = true := by
  induction r with
  | nil => intro e he; cases he
  | @cons k v v' n l l' f rv _ ih =>
    simp only [allB] at h
    intro e he
    cases hp : p n with
    | false => rw [hp] at h; cases h
    | true =>
      rw [hp] at h
      cases he with
      | head => exact hp
      | tail _ he => exact ih (by simpa using h) e he

theorem aNext_run (ok : HpOk h) (s : Sub h F) (r : HR μ tok B0 w0 F w) {it it' v : Value} {ty : TypeId} (e : aNext h it = some (.val v h')) (ri : RV μ tok it it') :
    ∃ v' w', (Instr.next it' false ty).run P w = .ok v' w' ∧ RV μ tok v v' ∧ Good μ tok B0 w0 F h h' μ w' := by
  unfold aNext at e
  split at e
  · rename_i b
    cases ri with
    | @ptr _ _ i hi =>
      split at e
      · rename_i since seen last hq
        cases e
        obtain ⟨hB, hz, m', hm, ho, hg⟩ := iter_at (P := P) s r hq hi
        have : m' = none := hm
        subst this
        refine ⟨.tuple ⟨[.bool false]⟩, w, ?_, .tuple (.cons (.bool false) .nil), Good.same ok s r⟩
        unfold Instr.next
        simp only [hz, Nat.zero_add, Sem.run_bind, hg, then_ok, Sem.run_pure]
      · rename_i m since seen last hq
        split at e
        · rename_i es clk hm0
          obtain ⟨hall, e1⟩ := cond_some e
          obtain ⟨hlast, e2⟩ := cond_some e1
          clear e e1
          have hlast := nbeq hlast
          subst hlast
          obtain ⟨hB, hz, m', ⟨j, hj, rfl⟩, ho, hg⟩ := iter_at (P := P) s r hq hi
          obtain ⟨hB2, es', re, ho2, hg2⟩ := map_at (P := P) s r hm0 hj
          have hborn : ∀ e ∈ es', e.born < last := fun e he => by
            have := re.all (p := fun n => Nat.blt n last) hall e he
            exact nblt this
          have hguard : (!(⟨seen⟩ : Array Nat).isEmpty && !(⟨es'⟩ : Array MapEntry).isEmpty && (⟨es'⟩ : Array MapEntry).all (fun e => decide (e.born ≥ last))) = false := by
            cases es' with
            | nil => simp
            | cons x xs =>
              have := hborn x (by simp)
              simp only [List.all_toArray, List.all_cons]
              have hx : decide (x.born ≥ last) = false := by simp; exact this
              rw [hx]; simp
          have hleft : (⟨es'⟩ : Array MapEntry).filter (fun e => !(⟨seen⟩ : Array Nat).contains e.born) = ⟨es'.filter fun e => !memN seen e.born⟩ := by
            apply Array.ext'
            simp [memN_spec]
          have hold : ((⟨es'.filter fun e => !memN seen e.born⟩ : Array MapEntry).filter fun e => decide (e.born < last)) = ⟨es'.filter fun e => !memN seen e.born⟩ := by
            apply Array.ext'
            simp only [Array.toList_filter]
            rw [List.filter_eq_self]
            intro e he
            simp [hborn e (List.mem_filter.1 he).1]
          have hnew : ((⟨es'.filter fun e => !memN seen e.born⟩ : Array MapEntry).filter fun e => decide (e.born ≥ last)) = #[] := by
            apply Array.ext'
            simp only [Array.toList_filter, List.filter_eq_nil_iff]
            intro e he
            have := hborn e (List.mem_filter.1 he).1
            simp; omega
          have rk := re.keep (fun n => !memN seen n)
          have hch : ∀ w, (choose (.mapNext 1)).run P w = .ok 0 w := fun w => rfl
          split at e2
          · rename_i hk
            cases e2
            rw [hk] at rk
            have hnil : (es'.filter fun e => !memN seen e.born) = [] := by
              exact List.eq_nil_of_length_eq_zero rk.len.symm
            refine ⟨.tuple ⟨[.bool false]⟩, w, ?_, .tuple (.cons (.bool false) .nil), Good.same ok s r⟩
            unfold Instr.next
            simp only [hz, Nat.zero_add, Sem.run_bind, hg, then_ok, hg2 w rfl, hguard, Bool.false_eq_true, if_false, hleft, hold, hnew]
            rw [hnil]
            have hc : ((if (⟨[]⟩ : Array MapEntry).isEmpty = true then #[none] else #[]) ++ Array.map some ((⟨[]⟩ : Array MapEntry) ++ #[])) = (#[none] : Array (Option MapEntry)) := by simp
            rw [hc]
            have hch' : (choose (.mapNext (#[none] : Array (Option MapEntry)).size)).run P w = .ok 0 w := rfl
            simp only [hch', then_ok]
            rfl
          · rename_i e0 hk
            cases e2
            rw [hk] at rk
            cases hfl : (es'.filter fun e => !memN seen e.born) with
            | nil => rw [hfl] at rk; cases rk
            | cons y ys =>
              rw [hfl] at rk
              cases rk with
              | @cons kk vv vv' nn _ _ f rv rest =>
                cases rest
                refine ⟨.tuple ⟨[.bool true, kk, vv']⟩, setBlk w i.cb (.mapIter (some j.cb) last ⟨seen ++ [nn]⟩ clk), ?_, .tuple (.cons (.bool true) (.cons (.ofFlat1 f) (.cons rv .nil))), ?_⟩
                · unfold Instr.next
                  simp only [hz, Nat.zero_add, Sem.run_bind, hg, then_ok, hg2 w rfl, hguard, Bool.false_eq_true, if_false, hleft, hold, hnew]
                  rw [hfl]
                  have hset : (setObj i.cb (.mapIter (some j.cb) last ⟨seen ++ [nn]⟩ clk)).run P w = .ok () (setBlk w i.cb (.mapIter (some j.cb) last ⟨seen ++ [nn]⟩ clk)) := by
                    simp only [setObj, Sem.run, ho]; rfl
                  have hc : ((if (⟨[⟨kk, vv', nn⟩]⟩ : Array MapEntry).isEmpty = true then #[none] else #[]) ++ Array.map some ((⟨[⟨kk, vv', nn⟩]⟩ : Array MapEntry) ++ #[])) = (#[some ⟨kk, vv', nn⟩] : Array (Option MapEntry)) := by simp
                  rw [hc]
                  have hch' : (choose (.mapNext (#[some ⟨kk, vv', nn⟩] : Array (Option MapEntry)).size)).run P w = .ok 0 w := rfl
                  have hpush : (⟨seen⟩ : Array Nat).push nn = ⟨seen ++ [nn]⟩ := by simp
                  simp only [hch', then_ok]
                  show (do setObj i.cb (.mapIter (some j.cb) last ((⟨seen⟩ : Array Nat).push nn) clk); pure (.tuple #[.bool true, kk, vv']) : Sem Value).run P w = _
                  rw [hpush]
                  simp only [Sem.run_bind, hset, then_ok, Sem.run_pure]
                · have := Good.put ok s r hq (by simp) (x := .iter (some m) last (snocN seen nn) clk) (o := .mapIter (some j.cb) last ⟨seen ++ [nn]⟩ clk) hi hB fun _ => ⟨hB, hz, some j.cb, by rw [snocN_eq], j, hj, rfl⟩
                  exact this
          · cases e2
        · cases e
      · cases e
  · cases e

theorem lastN_spec : ∀ {l : List Nat}, lastN l = l.getLast?
  | [] => rfl
  | [a] => rfl
  | a :: b :: l => by simp only [lastN, lastN_spec (l := b :: l)]; rfl

theorem findBorn_run {es es' : List MapEntry} (r : RE μ tok es es') {n : Nat} {e : MapEntry} (h : findBorn n es = some e) : ∃ v', es'.find? (fun e => e.born == n) = some ⟨e.key, v', e.born⟩ ∧ RV μ tok e.val v' ∧ Ev.flat1 e.key = true := by
  induction r with
  | nil => cases h
  | @cons k v v' m l l' f rv _ ih =>
    simp only [findBorn] at h
    cases hb : Nat.beq m n with
    | true =>
      rw [hb] at h
      cases h
      have := nbeq hb
      refine ⟨v', ?_, rv, f⟩
      simp [this]
    | false =>
      rw [hb] at h
      obtain ⟨v'', h1, h2, h3⟩ := ih h
      refine ⟨v'', ?_, h2, h3⟩
      have hne : (m == n) = false := by rw [beq_eq_false_iff_ne]; exact nbeq' hb
      simp only [List.find?_cons, hne]
      exact h1

theorem aEntry_run (s : Sub h F) (r : HR μ tok B0 w0 F w) {it it' v : Value} (e : aEntry h it = some (.val v h')) (ri : RV μ tok it it') :
    ∃ v', (Instr.entry it').run P w = .ok v' w ∧ RV μ tok v v' ∧ h' = h := by
  unfold aEntry at e
  split at e
  · rename_i b
    cases ri with
    | @ptr _ _ i hi =>
      split at e
      · rename_i m since seen last hq
        split at e
        · rename_i stamp hst
          split at e
          · rename_i es clk hm0
            obtain ⟨hlast, e1⟩ := cond_some e
            clear e
            have hlast := nbeq hlast
            subst hlast
            split at e1
            · rename_i e0 hf
              cases e1
              obtain ⟨hB, hz, m', ⟨j, hj, rfl⟩, ho, hg⟩ := iter_at (P := P) s r hq hi
              obtain ⟨hB2, es', re, ho2, hg2⟩ := map_at (P := P) s r hm0 hj
              obtain ⟨v', h1, h2, h3⟩ := findBorn_run re hf
              refine ⟨.tuple ⟨[e0.key, v']⟩, ?_, .tuple (.cons (.ofFlat1 h3) (.cons h2 .nil)), rfl⟩
              have hback : (⟨seen⟩ : Array Nat).back? = some stamp := by
                rw [lastN_spec] at hst
                simpa using hst
              have hfind : (⟨es'⟩ : Array MapEntry).find? (fun e => e.born == stamp) = some ⟨e0.key, v', e0.born⟩ := by simpa using h1
              unfold Instr.entry
              simp only [hz, Nat.zero_add, Sem.run_bind, hg, then_ok, hback, hg2 w rfl, hfind, bne_self_eq_false, Bool.false_eq_true, if_false, Sem.run_pure]
            · cases e1
          · cases e
        · cases e
      · cases e
  · cases e

end
end Go.Ev
