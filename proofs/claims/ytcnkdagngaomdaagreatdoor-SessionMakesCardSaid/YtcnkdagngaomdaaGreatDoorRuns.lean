/-
  SessionMakes answers true for all limits and all texts, from any world: one run for each regime of the limits. Conditions: each limit is a whole number of 64 bits, the text no longer than 2^63 - 1 bytes.
-/
import Derived.Test.YtcnkdagngaomdaaGreatDoorAwake
namespace Go.Proofs.YtcnkdagngaomdaaGreatDoor
open Go.Ev Go.RowKit

theorem run_pl_t : isTrue (runA Tryz.prog 12 12 100 17 (some 291) (some 4) 100 3 [.agg ⟨[.chan (some 13611294676837538538424303832828471148545), .chan (some 20416942015256307807691795981463835377665), .chan (some 25861459885991323223105789700372126760961), .bool true]⟩, .chan (some 32667107224410093968518636115393230405638)]) = true := by kernel_rfl
theorem run_pl_f : isTrue (runA Tryz.prog 12 12 100 17 (some 291) (some 4) 100 3 [.agg ⟨[.chan (some 13611294676837538538424303832828471148545), .chan (some 20416942015256307807691795981463835377665), .chan (some 25861459885991323223105789700372126760961), .bool false]⟩, .chan (some 32667107224410093968518636115393230405638)]) = true := by kernel_rfl
theorem run_pg_t : isTrue (runA Tryz.prog 12 12 100 17 (some 291) (some 4) 100 3 [.agg ⟨[.chan (some 14972424144521292392314695750702963113989), .chan (some 20416942015256307807691795981463835377665), .chan (some 25861459885991323223105789700372126760961), .bool true]⟩, .chan (some 32667107224410093968518636115393230405638)]) = true := by kernel_rfl
theorem run_pg_f : isTrue (runA Tryz.prog 12 12 100 17 (some 291) (some 4) 100 3 [.agg ⟨[.chan (some 14972424144521292392314695750702963113989), .chan (some 20416942015256307807691795981463835377665), .chan (some 25861459885991323223105789700372126760961), .bool false]⟩, .chan (some 32667107224410093968518636115393230405638)]) = true := by kernel_rfl
theorem run_ll_t : isTrue (runA Tryz.prog 12 12 100 17 (some 291) (some 4) 100 3 [.agg ⟨[.chan (some 13611294676837539143071681080880154017793), .chan (some 19055812547572553953838297551736762531841), .chan (some 25861459885991323223105789700372126760961), .bool true]⟩, .chan (some 32667107224410093968518636115393230405638)]) = true := by kernel_rfl
theorem run_ll_f : isTrue (runA Tryz.prog 12 12 100 17 (some 291) (some 4) 100 3 [.agg ⟨[.chan (some 13611294676837539143071681080880154017793), .chan (some 19055812547572553953838297551736762531841), .chan (some 25861459885991323223105789700372126760961), .bool false]⟩, .chan (some 32667107224410093968518636115393230405638)]) = true := by kernel_rfl
theorem run_lg_t : isTrue (runA Tryz.prog 12 12 100 17 (some 291) (some 4) 100 3 [.agg ⟨[.chan (some 13611294676837539143071681080880154017793), .chan (some 20416942015256307807728689469611254880901), .chan (some 25861459885991323223105789700372126760961), .bool true]⟩, .chan (some 32667107224410093968518636115393230405638)]) = true := by kernel_rfl
theorem run_lg_f : isTrue (runA Tryz.prog 12 12 100 17 (some 291) (some 4) 100 3 [.agg ⟨[.chan (some 13611294676837539143071681080880154017793), .chan (some 20416942015256307807728689469611254880901), .chan (some 25861459885991323223105789700372126760961), .bool false]⟩, .chan (some 32667107224410093968518636115393230405638)]) = true := by kernel_rfl
theorem run_bl_t : isTrue (runA Tryz.prog 12 12 100 17 (some 291) (some 4) 100 3 [.agg ⟨[.chan (some 13611294676837539143071681080880154017793), .chan (some 19055812547572568711418023960115150848001), .chan (some 24500330418307569369252291270645053915137), .bool true]⟩, .chan (some 32667107224410093968518636115393230405638)]) = true := by kernel_rfl
theorem run_bl_f : isTrue (runA Tryz.prog 12 12 100 17 (some 291) (some 4) 100 3 [.agg ⟨[.chan (some 13611294676837539143071681080880154017793), .chan (some 19055812547572568711418023960115150848001), .chan (some 24500330418307569369252291270645053915137), .bool false]⟩, .chan (some 32667107224410093968518636115393230405638)]) = true := by kernel_rfl
theorem run_bg_t : isTrue (runA Tryz.prog 12 12 100 17 (some 291) (some 4) 100 3 [.agg ⟨[.chan (some 13611294676837539143071681080880154017793), .chan (some 19055812547572568711418023960115150848001), .chan (some 25861459885991323223142683188519545868197), .bool true]⟩, .chan (some 32667107224410093968518636115393230405638)]) = true := by kernel_rfl
theorem run_bg_f : isTrue (runA Tryz.prog 12 12 100 17 (some 291) (some 4) 100 3 [.agg ⟨[.chan (some 13611294676837539143071681080880154017793), .chan (some 19055812547572568711418023960115150848001), .chan (some 25861459885991323223142683188519545868197), .bool false]⟩, .chan (some 32667107224410093968518636115393230405638)]) = true := by kernel_rfl
theorem run_ok_t : isTrue (runA Tryz.prog 12 12 100 17 (some 291) (some 4) 100 3 [.agg ⟨[.chan (some 13611294676837539143071681080880154017793), .chan (some 19055812547572568711418023960115150848001), .chan (some 24500330418307569517010711301058562359297), .bool true]⟩, .chan (some 32667107224410093968518636115393230405638)]) = true := by kernel_rfl
theorem run_ok_f : isTrue (runA Tryz.prog 12 12 100 17 (some 291) (some 4) 100 3 [.agg ⟨[.chan (some 13611294676837539143071681080880154017793), .chan (some 19055812547572568711418023960115150848001), .chan (some 24500330418307569517010711301058562359297), .bool false]⟩, .chan (some 32667107224410093968518636115393230405638)]) = true := by kernel_rfl
theorem run_tx_t : isTrue (runA Tryz.prog 12 12 100 17 (some 291) (some 4) 100 3 [.agg ⟨[.chan (some 14972424144521292392277802262555543994369), .chan (some 20416942015256307807691795981463835377665), .chan (some 25861459885991323223105789700372126760961), .bool true]⟩, .chan (some 38111625095145107907602808127178686897238)]) = true := by kernel_rfl
theorem run_tx_f : isTrue (runA Tryz.prog 12 12 100 17 (some 291) (some 4) 100 3 [.agg ⟨[.chan (some 14972424144521292392277802262555543994369), .chan (some 20416942015256307807691795981463835377665), .chan (some 25861459885991323223105789700372126760961), .bool false]⟩, .chan (some 38111625095145107907602808127178686897238)]) = true := by kernel_rfl

theorem clone_ok : ∀ c, some 291 = some c → IsClone Tryz.prog c := by
  intro c hc
  cases hc
  exact ⟨_, Tryz.func291, by kernel_rfl, by kernel_rfl, by kernel_rfl, by kernel_rfl⟩
theorem awake_at : ∃ fn, Tryz.prog.funcs[4]? = some fn ∧ fn.body.isSome = true ∧ (fn.name == "runtime.NumGoroutine") = false := ⟨_, Tryz.func4, by kernel_rfl, by kernel_rfl⟩
theorem makes_at : ∃ fn, Tryz.prog.funcs[3]? = some fn ∧ fn.body.isSome = true ∧ (fn.name == "runtime.NumGoroutine") = false := ⟨_, Tryz.func3, by kernel_rfl, by kernel_rfl⟩
theorem known_ok (hm : Tryz.prog.follows .mixedOrders = true) : ∀ a, some 4 = some a → (∃ fn, Tryz.prog.funcs[a]? = some fn ∧ fn.body.isSome = true ∧ (fn.name == "runtime.NumGoroutine") = false) ∧ ∀ w, Calls Tryz.prog a #[] w fun e w' => e = .returned (.bool true) ∧ Below w.heap.size w w' := by
  intro a ha
  cases ha
  exact ⟨awake_at, true0 hm clone_ok awake_at awake_run⟩
abbrev Yes (p g b : Int) (m : Bool) (s : ByteArray) (w : World) : Prop :=
  Calls Tryz.prog 3 #[.agg #[.int .i64 p, .int .i64 g, .int .i64 b, .bool m], .string s] w fun e w' => e = .returned (.bool true) ∧ Below w.heap.size w w'
theorem k0 : tlo 13611294676837538538424303832828471148545 = (-9223372036854775808) ∧ thi 13611294676837538538424303832828471148545 = (-1) := ⟨by kernel_rfl, by kernel_rfl⟩
theorem k1 : tlo 20416942015256307807691795981463835377665 = (-9223372036854775808) ∧ thi 20416942015256307807691795981463835377665 = 9223372036854775807 := ⟨by kernel_rfl, by kernel_rfl⟩
theorem k2 : tlo 25861459885991323223105789700372126760961 = (-9223372036854775808) ∧ thi 25861459885991323223105789700372126760961 = 9223372036854775807 := ⟨by kernel_rfl, by kernel_rfl⟩
theorem k3 : tlo 8166776806102523492129659028848307601409 = 0 ∧ thi 8166776806102523492129659028848307601409 = 2500 := ⟨by kernel_rfl, by kernel_rfl⟩
theorem k4 : tlo 14972424144521292392314695750702963113989 = 4097 ∧ thi 14972424144521292392314695750702963113989 = 9223372036854775807 := ⟨by kernel_rfl, by kernel_rfl⟩
theorem k5 : tlo 13611294676837539143071681080880154017793 = 0 ∧ thi 13611294676837539143071681080880154017793 = 4096 := ⟨by kernel_rfl, by kernel_rfl⟩
theorem k6 : tlo 19055812547572553953838297551736762531841 = (-9223372036854775808) ∧ thi 19055812547572553953838297551736762531841 = (-1) := ⟨by kernel_rfl, by kernel_rfl⟩
theorem k7 : tlo 20416942015256307807728689469611254880901 = 100001 ∧ thi 20416942015256307807728689469611254880901 = 9223372036854775807 := ⟨by kernel_rfl, by kernel_rfl⟩
theorem k8 : tlo 19055812547572568711418023960115150848001 = 0 ∧ thi 19055812547572568711418023960115150848001 = 100000 := ⟨by kernel_rfl, by kernel_rfl⟩
theorem k9 : tlo 24500330418307569369252291270645053915137 = (-9223372036854775808) ∧ thi 24500330418307569369252291270645053915137 = (-1) := ⟨by kernel_rfl, by kernel_rfl⟩
theorem k10 : tlo 25861459885991323223142683188519545868197 = 1001 ∧ thi 25861459885991323223142683188519545868197 = 9223372036854775807 := ⟨by kernel_rfl, by kernel_rfl⟩
theorem k11 : tlo 24500330418307569517010711301058562359297 = 0 ∧ thi 24500330418307569517010711301058562359297 = 1000 := ⟨by kernel_rfl, by kernel_rfl⟩
theorem k12 : tlo 14972424144521292392277802262555543994369 = (-9223372036854775808) ∧ thi 14972424144521292392277802262555543994369 = 9223372036854775807 := ⟨by kernel_rfl, by kernel_rfl⟩
theorem k13 : tlo 9527906273786276976900702031794671724309 = 2501 ∧ thi 9527906273786276976900702031794671724309 = 9223372036854775807 := ⟨by kernel_rfl, by kernel_rfl⟩
theorem all_pl (hm : Tryz.prog.follows .mixedOrders = true) {p g b : Int} {m : Bool} {s : ByteArray} (hp : (-9223372036854775808) ≤ p ∧ p ≤ (-1)) (hg : (-9223372036854775808) ≤ g ∧ g ≤ 9223372036854775807) (hb : (-9223372036854775808) ≤ b ∧ b ≤ 9223372036854775807) (hs : 0 ≤ s.size ∧ s.size ≤ 2500) (w : World) : Yes p g b m s w := by
  cases m
  · exact true4 hm clone_ok (known_ok hm) makes_at run_pl_f (of_decide_eq_true (by kernel_rfl)) ⟨by rw [k0.1]; omega, by rw [k0.2]; omega⟩ ⟨by rw [k1.1]; omega, by rw [k1.2]; omega⟩ ⟨by rw [k2.1]; omega, by rw [k2.2]; omega⟩ ⟨by rw [k3.1]; omega, by rw [k3.2]; omega⟩ w
  · exact true4 hm clone_ok (known_ok hm) makes_at run_pl_t (of_decide_eq_true (by kernel_rfl)) ⟨by rw [k0.1]; omega, by rw [k0.2]; omega⟩ ⟨by rw [k1.1]; omega, by rw [k1.2]; omega⟩ ⟨by rw [k2.1]; omega, by rw [k2.2]; omega⟩ ⟨by rw [k3.1]; omega, by rw [k3.2]; omega⟩ w
theorem all_pg (hm : Tryz.prog.follows .mixedOrders = true) {p g b : Int} {m : Bool} {s : ByteArray} (hp : 4097 ≤ p ∧ p ≤ 9223372036854775807) (hg : (-9223372036854775808) ≤ g ∧ g ≤ 9223372036854775807) (hb : (-9223372036854775808) ≤ b ∧ b ≤ 9223372036854775807) (hs : 0 ≤ s.size ∧ s.size ≤ 2500) (w : World) : Yes p g b m s w := by
  cases m
  · exact true4 hm clone_ok (known_ok hm) makes_at run_pg_f (of_decide_eq_true (by kernel_rfl)) ⟨by rw [k4.1]; omega, by rw [k4.2]; omega⟩ ⟨by rw [k1.1]; omega, by rw [k1.2]; omega⟩ ⟨by rw [k2.1]; omega, by rw [k2.2]; omega⟩ ⟨by rw [k3.1]; omega, by rw [k3.2]; omega⟩ w
  · exact true4 hm clone_ok (known_ok hm) makes_at run_pg_t (of_decide_eq_true (by kernel_rfl)) ⟨by rw [k4.1]; omega, by rw [k4.2]; omega⟩ ⟨by rw [k1.1]; omega, by rw [k1.2]; omega⟩ ⟨by rw [k2.1]; omega, by rw [k2.2]; omega⟩ ⟨by rw [k3.1]; omega, by rw [k3.2]; omega⟩ w
theorem all_ll (hm : Tryz.prog.follows .mixedOrders = true) {p g b : Int} {m : Bool} {s : ByteArray} (hp : 0 ≤ p ∧ p ≤ 4096) (hg : (-9223372036854775808) ≤ g ∧ g ≤ (-1)) (hb : (-9223372036854775808) ≤ b ∧ b ≤ 9223372036854775807) (hs : 0 ≤ s.size ∧ s.size ≤ 2500) (w : World) : Yes p g b m s w := by
  cases m
  · exact true4 hm clone_ok (known_ok hm) makes_at run_ll_f (of_decide_eq_true (by kernel_rfl)) ⟨by rw [k5.1]; omega, by rw [k5.2]; omega⟩ ⟨by rw [k6.1]; omega, by rw [k6.2]; omega⟩ ⟨by rw [k2.1]; omega, by rw [k2.2]; omega⟩ ⟨by rw [k3.1]; omega, by rw [k3.2]; omega⟩ w
  · exact true4 hm clone_ok (known_ok hm) makes_at run_ll_t (of_decide_eq_true (by kernel_rfl)) ⟨by rw [k5.1]; omega, by rw [k5.2]; omega⟩ ⟨by rw [k6.1]; omega, by rw [k6.2]; omega⟩ ⟨by rw [k2.1]; omega, by rw [k2.2]; omega⟩ ⟨by rw [k3.1]; omega, by rw [k3.2]; omega⟩ w
theorem all_lg (hm : Tryz.prog.follows .mixedOrders = true) {p g b : Int} {m : Bool} {s : ByteArray} (hp : 0 ≤ p ∧ p ≤ 4096) (hg : 100001 ≤ g ∧ g ≤ 9223372036854775807) (hb : (-9223372036854775808) ≤ b ∧ b ≤ 9223372036854775807) (hs : 0 ≤ s.size ∧ s.size ≤ 2500) (w : World) : Yes p g b m s w := by
  cases m
  · exact true4 hm clone_ok (known_ok hm) makes_at run_lg_f (of_decide_eq_true (by kernel_rfl)) ⟨by rw [k5.1]; omega, by rw [k5.2]; omega⟩ ⟨by rw [k7.1]; omega, by rw [k7.2]; omega⟩ ⟨by rw [k2.1]; omega, by rw [k2.2]; omega⟩ ⟨by rw [k3.1]; omega, by rw [k3.2]; omega⟩ w
  · exact true4 hm clone_ok (known_ok hm) makes_at run_lg_t (of_decide_eq_true (by kernel_rfl)) ⟨by rw [k5.1]; omega, by rw [k5.2]; omega⟩ ⟨by rw [k7.1]; omega, by rw [k7.2]; omega⟩ ⟨by rw [k2.1]; omega, by rw [k2.2]; omega⟩ ⟨by rw [k3.1]; omega, by rw [k3.2]; omega⟩ w
theorem all_bl (hm : Tryz.prog.follows .mixedOrders = true) {p g b : Int} {m : Bool} {s : ByteArray} (hp : 0 ≤ p ∧ p ≤ 4096) (hg : 0 ≤ g ∧ g ≤ 100000) (hb : (-9223372036854775808) ≤ b ∧ b ≤ (-1)) (hs : 0 ≤ s.size ∧ s.size ≤ 2500) (w : World) : Yes p g b m s w := by
  cases m
  · exact true4 hm clone_ok (known_ok hm) makes_at run_bl_f (of_decide_eq_true (by kernel_rfl)) ⟨by rw [k5.1]; omega, by rw [k5.2]; omega⟩ ⟨by rw [k8.1]; omega, by rw [k8.2]; omega⟩ ⟨by rw [k9.1]; omega, by rw [k9.2]; omega⟩ ⟨by rw [k3.1]; omega, by rw [k3.2]; omega⟩ w
  · exact true4 hm clone_ok (known_ok hm) makes_at run_bl_t (of_decide_eq_true (by kernel_rfl)) ⟨by rw [k5.1]; omega, by rw [k5.2]; omega⟩ ⟨by rw [k8.1]; omega, by rw [k8.2]; omega⟩ ⟨by rw [k9.1]; omega, by rw [k9.2]; omega⟩ ⟨by rw [k3.1]; omega, by rw [k3.2]; omega⟩ w
theorem all_bg (hm : Tryz.prog.follows .mixedOrders = true) {p g b : Int} {m : Bool} {s : ByteArray} (hp : 0 ≤ p ∧ p ≤ 4096) (hg : 0 ≤ g ∧ g ≤ 100000) (hb : 1001 ≤ b ∧ b ≤ 9223372036854775807) (hs : 0 ≤ s.size ∧ s.size ≤ 2500) (w : World) : Yes p g b m s w := by
  cases m
  · exact true4 hm clone_ok (known_ok hm) makes_at run_bg_f (of_decide_eq_true (by kernel_rfl)) ⟨by rw [k5.1]; omega, by rw [k5.2]; omega⟩ ⟨by rw [k8.1]; omega, by rw [k8.2]; omega⟩ ⟨by rw [k10.1]; omega, by rw [k10.2]; omega⟩ ⟨by rw [k3.1]; omega, by rw [k3.2]; omega⟩ w
  · exact true4 hm clone_ok (known_ok hm) makes_at run_bg_t (of_decide_eq_true (by kernel_rfl)) ⟨by rw [k5.1]; omega, by rw [k5.2]; omega⟩ ⟨by rw [k8.1]; omega, by rw [k8.2]; omega⟩ ⟨by rw [k10.1]; omega, by rw [k10.2]; omega⟩ ⟨by rw [k3.1]; omega, by rw [k3.2]; omega⟩ w
theorem all_ok (hm : Tryz.prog.follows .mixedOrders = true) {p g b : Int} {m : Bool} {s : ByteArray} (hp : 0 ≤ p ∧ p ≤ 4096) (hg : 0 ≤ g ∧ g ≤ 100000) (hb : 0 ≤ b ∧ b ≤ 1000) (hs : 0 ≤ s.size ∧ s.size ≤ 2500) (w : World) : Yes p g b m s w := by
  cases m
  · exact true4 hm clone_ok (known_ok hm) makes_at run_ok_f (of_decide_eq_true (by kernel_rfl)) ⟨by rw [k5.1]; omega, by rw [k5.2]; omega⟩ ⟨by rw [k8.1]; omega, by rw [k8.2]; omega⟩ ⟨by rw [k11.1]; omega, by rw [k11.2]; omega⟩ ⟨by rw [k3.1]; omega, by rw [k3.2]; omega⟩ w
  · exact true4 hm clone_ok (known_ok hm) makes_at run_ok_t (of_decide_eq_true (by kernel_rfl)) ⟨by rw [k5.1]; omega, by rw [k5.2]; omega⟩ ⟨by rw [k8.1]; omega, by rw [k8.2]; omega⟩ ⟨by rw [k11.1]; omega, by rw [k11.2]; omega⟩ ⟨by rw [k3.1]; omega, by rw [k3.2]; omega⟩ w
theorem all_tx (hm : Tryz.prog.follows .mixedOrders = true) {p g b : Int} {m : Bool} {s : ByteArray} (hp : (-9223372036854775808) ≤ p ∧ p ≤ 9223372036854775807) (hg : (-9223372036854775808) ≤ g ∧ g ≤ 9223372036854775807) (hb : (-9223372036854775808) ≤ b ∧ b ≤ 9223372036854775807) (hs : 2501 ≤ s.size ∧ s.size ≤ 9223372036854775807) (w : World) : Yes p g b m s w := by
  cases m
  · exact true4 hm clone_ok (known_ok hm) makes_at run_tx_f (of_decide_eq_true (by kernel_rfl)) ⟨by rw [k12.1]; omega, by rw [k12.2]; omega⟩ ⟨by rw [k1.1]; omega, by rw [k1.2]; omega⟩ ⟨by rw [k2.1]; omega, by rw [k2.2]; omega⟩ ⟨by rw [k13.1]; omega, by rw [k13.2]; omega⟩ w
  · exact true4 hm clone_ok (known_ok hm) makes_at run_tx_t (of_decide_eq_true (by kernel_rfl)) ⟨by rw [k12.1]; omega, by rw [k12.2]; omega⟩ ⟨by rw [k1.1]; omega, by rw [k1.2]; omega⟩ ⟨by rw [k2.1]; omega, by rw [k2.2]; omega⟩ ⟨by rw [k13.1]; omega, by rw [k13.2]; omega⟩ w

/-- SessionMakes answers true, whatever it is handed, from any world. -/
theorem makes_all (hm : Tryz.prog.follows .mixedOrders = true) {p g b : Int} {m : Bool} {s : ByteArray} (hp : -9223372036854775808 ≤ p ∧ p ≤ 9223372036854775807) (hg : -9223372036854775808 ≤ g ∧ g ≤ 9223372036854775807) (hb : -9223372036854775808 ≤ b ∧ b ≤ 9223372036854775807) (hs : s.size ≤ 9223372036854775807) (w : World) : Yes p g b m s w := by
  by_cases ht : 2501 ≤ s.size
  · exact all_tx hm hp hg hb ⟨ht, hs⟩ w
  have ht : 0 ≤ s.size ∧ s.size ≤ 2500 := by omega
  by_cases p1 : p ≤ -1
  · exact all_pl hm ⟨hp.1, p1⟩ hg hb ht w
  by_cases p2 : 4097 ≤ p
  · exact all_pg hm ⟨p2, hp.2⟩ hg hb ht w
  have p3 : 0 ≤ p ∧ p ≤ 4096 := by omega
  by_cases g1 : g ≤ -1
  · exact all_ll hm p3 ⟨hg.1, g1⟩ hb ht w
  by_cases g2 : 100001 ≤ g
  · exact all_lg hm p3 ⟨g2, hg.2⟩ hb ht w
  have g3 : 0 ≤ g ∧ g ≤ 100000 := by omega
  by_cases b1 : b ≤ -1
  · exact all_bl hm p3 g3 ⟨hb.1, b1⟩ ht w
  by_cases b2 : 1001 ≤ b
  · exact all_bg hm p3 g3 ⟨b2, hb.2⟩ ht w
  exact all_ok hm p3 g3 (by omega) ht w
end Go.Proofs.YtcnkdagngaomdaaGreatDoor
