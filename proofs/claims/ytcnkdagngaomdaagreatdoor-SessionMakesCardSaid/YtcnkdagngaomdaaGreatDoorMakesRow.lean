/-
  The row of SessionMakes, proved: for all limits and all texts it returns true, and its arguments read as they did. No condition beyond the row's own cells.
-/
import Derived.Test.YtcnkdagngaomdaaGreatDoorMakesJoined
import Derived.Test.YtcnkdagngaomdaaGreatDoorMakesStart
import Derived.Test.YtcnkdagngaomdaaGreatDoorRuns
import Derived.ProofKit
import Derived.LaidMore
import Derived.OpenShut
import Derived.Stop.Joined
import Derived.Lib.SmallJoins
namespace Go.Proofs.YtcnkdagngaomdaaGreatDoor
open Go.ChangeShapes Go.WideShapes Go.ChangeAt Go.WideMaps Go.WideElems Go.RowKit Go.Joins
open Go.ChangeMaps (open_string shut_string)

theorem cells23 : Tryz.prog.cellsOf 23 = 4 := by kernel_rfl
theorem mixed : Tryz.prog.follows .mixedOrders = true := Tryz.checked.mixed

set_option maxRecDepth 100000 in
theorem lifted (os : Os) (started : os.Started) (H : Type) (enc : TypeId × Value → H) :
    ReturnsInHanded {} Tryz.checked os 3 .any (fun w args => (Rows.sessionMakesSpec.pre enc Tryz.prog Tryz.f3 [] false w args ∧ laidMetH Tryz.prog Rows.sessionMakesRow.laid w) ∧ sizedMet enc Tryz.prog Tryz.f3 (OpenSpec.ofChange Rows.sessionMakesSpec) false w args)
      (Rows.sessionMakesSpec.post enc Tryz.prog Tryz.f3 false true false false) := by
  refine returnsInHanded_of_change_and (C := Tryz.checked) (X := fun w _ => laidMetH Tryz.prog Rows.sessionMakesRow.laid w) (fun _ _ _ hh h => h.of_heap hh) own started noInit Tryz.func3
    (ChangeSpec.witness_shaped (enc := enc) (C := Tryz.checked) (os := os) (X := fun w _ => laidMetH Tryz.prog Rows.sessionMakesRow.laid w) false (World.laidAll Tryz.prog os Rows.sessionMakesRow.laid) a0 8 (World.laidAll_os _ _ _)
      (World.shaped_of_ZipB (wz os) (wr os)) (wok os) (wpre os H enc) (wsz os H enc) (wmet os)) ?_
  intro W base args ds gs before hval0 hW _ _ hL _
  have hval : ∀ (j : Nat) t v, Tryz.f3.params[j]? = some t → args[j]? = some v → Value.okWide Tryz.prog W .any base t v := hval0
  have hW' := hW
  obtain ⟨p, q, hA0, hV, rfl, hfz, hnd⟩ := hW
  have hA : DataW.TrodAll enc Tryz.prog W 0 (fun _ => true) true Tryz.f3.params.toList args.toList ds p := hA0
  rw [Tryz.params3] at hA hval
  obtain ⟨v0, v1, d0, d1, p0, p1, rfl, rfl, rfl, h0, h1⟩ := trodAll_two hA
  obtain ⟨rfl, rfl⟩ := trodVars_none hV
  obtain ⟨c0, c1, c2, c3, y0, y1, y2, y3, m, rfl, rfl, rfl, hy0, hy1, hy2, hy3⟩ := open_agg4 Tryz.underlying23 (by kernel_rfl) cells23 (hval 0 23 v0 rfl rfl) h0
  obtain ⟨a, e0, rfl, wa⟩ := DataW.trod_int Tryz.underlying3 hy0
  obtain ⟨b, e1, rfl, wb⟩ := DataW.trod_int Tryz.underlying3 hy1
  obtain ⟨c, e2, rfl, wc⟩ := DataW.trod_int Tryz.underlying3 hy2
  obtain ⟨t, e3, rfl⟩ := DataW.trod_bool Tryz.underlying4 hy3
  simp at e0 e1 e2 e3
  subst e0 e1 e2 e3
  obtain ⟨s, rfl, rfl, rfl, ws⟩ := open_string Tryz.underlying9 (hval 1 9 v1 rfl rfl) h1
  clear hA0 hval0
  simp only [List.append_nil] at hW'
  have structReads : ∀ (W' : World) (sp : Nat → Bool), DataW.Trod enc Tryz.prog W' 0 sp true 23 (.agg #[.int .i64 a, .int .i64 b, .int .i64 c, .bool t]) (.agg [.lit (.int .i64 a), .lit (.int .i64 b), .lit (.int .i64 c), .lit (.bool t)]) [] := fun W' sp =>
    shut_agg4 (y0 := (.lit (.int .i64 a), [])) (y1 := (.lit (.int .i64 b), [])) (y2 := (.lit (.int .i64 c), [])) (y3 := (.lit (.bool t), [])) Tryz.underlying23 (by kernel_rfl) cells23 ⟨1, by simp [DataW.trod, Tryz.underlying3, wa]⟩ ⟨1, by simp [DataW.trod, Tryz.underlying3, wb]⟩ ⟨1, by simp [DataW.trod, Tryz.underlying3, wc]⟩ ⟨1, by simp [DataW.trod, Tryz.underlying4]⟩
  have hs : s.size ≤ 9223372036854775807 := ws
  refine (makes_all mixed (bounds_i64 wa) (bounds_i64 wb) (bounds_i64 wc) hs W).mono fun e W' ⟨he, hbl⟩ => ?_
  subst he
  refine ⟨_, rfl, _, _, _, [], [], [], hW', ?_, ?_, ?_, hbl.frame _, fun h => by cases h⟩
  · exact trodAll_mk1 (shut_bool Tryz.underlying4 true)
  · exact trodAll_mk2 (structReads W' _) (shut_string Tryz.underlying9 ws)
  · rfl

theorem sessionMakes_holds : Rows.SessionMakesSaid :=
  OpenClaim.holds_of_wide 3 Tryz.f3 rfl rfl rfl rfl rfl rfl rfl ⟨rfl, rfl, rfl, rfl, rfl⟩ rfl rfl rfl rfl rfl named_at Tryz.func3 facts instance_at wrapper_at
    (fun os started H enc _ => lifted os started H enc)
#print axioms sessionMakes_holds
end Go.Proofs.YtcnkdagngaomdaaGreatDoor
