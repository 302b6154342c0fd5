/- The statement GraphSides of layer 6 is proved: for whatever map the law returns true, and the inputs read as they did. No condition. -/
import Derived.Test.YthpbelgmppaafaaRows
import Derived.Test.YthpbelgmppaafaaGraphSides
import Derived.Test.YthpbelgmppaafaaGraphCV
import Derived.Test.YthpbelgmppaafaaRow6
set_option maxRecDepth 100000
set_option linter.unusedVariables false
namespace Go.Proofs.Ythpbelgmppaafaa
open Go.ChangeShapes Go.WideShapes Go.ChangeAt Go.RowKit Go.Sh

set_option maxRecDepth 100000 in
theorem sides_lifted (os : Os) (started : os.Started) (H : Type) (enc : TypeId × Value → H) :
    ReturnsInHanded {} Try.checked os 6 .any (Rows.graphSidesSpec.pre6 enc Try.prog Try.f6 Rows.graphSidesRow.domain false) (Rows.graphSidesSpec.post enc Try.prog Try.f6 false true false false) := by
  refine returnsInHanded_of_change (C := Try.checked) own6 started (by kernel_rfl) Try.func6
    (ChangeSpec.witness6 (enc := enc) (C := Try.checked) false ⟨#[], #[.agg #[.int .i64 0, .slice none 0 0]], []⟩ 8 (by kernel_rfl) (by kernel_rfl) (by kernel_rfl) (by kernel_rfl)) ?_
  intro W base args ds gs before hval0 hW hcnd _
  have hval : ∀ (j : Nat) t v, Try.f6.params[j]? = some t → args[j]? = some v → Value.okWide Try.prog W .any base t v := hval0
  have hW' := hW
  obtain ⟨p, q, hA0, hV, rfl, hfz, hnd⟩ := hW
  have hA : DataW.TrodAll enc Try.prog W 0 (fun _ => true) true Try.f6.params.toList args.toList ds p := hA0
  rw [Try.params6] at hA hval
  obtain ⟨v0, vs0, d0, ds0, p0, q0, hargs, rfl, rfl, h0, r0⟩ := trodAll_cons hA
  obtain ⟨rfl, rfl, rfl⟩ := trodAll_nil r0
  obtain rfl : args = #[v0] := by cases args; simp_all
  obtain ⟨cs0, rfl, hsz⟩ := okWide_struct Try.underlying24 (hval 0 24 v0 rfl rfl)
  obtain ⟨fuel0, h0⟩ := h0
  obtain ⟨N, s, xs, hcs, hview, _, _, _⟩ := map_el h0
  obtain rfl : cs0 = #[.int .i64 N, .slice s.a s.len s.cap] := by
    have : cs0.toList = [.int .i64 N, .slice s.a s.len s.cap] := hcs
    exact Array.ext' this
  refine (sh_postroadlaw06_GraphSides.calls gCV N s gCV_cv (R := fun e W' => e = .returned (.bool true) ∧ Ext W W') (GraphSides_ok gCV_ok hview fun w' e => ⟨rfl, e⟩)).mono fun e W' ⟨he, hB⟩ => ?_
  subst he
  exact ⟨_, rfl, law_post laid6 (by kernel_rfl) rfl Try.underlying4 rfl rfl hW' hB⟩

theorem sides_holds : Rows.GraphSidesSaid :=
  OpenClaim.holds_of_wide 6 Try.f6 rfl rfl rfl rfl rfl rfl rfl ⟨rfl, rfl, rfl, rfl, rfl⟩ rfl rfl rfl rfl rfl (by kernel_rfl) Try.func6 (by kernel_rfl)
    (of_decide_eq_true (by kernel_rfl)) (by unfold Func.isWrapper; first | (rw [if_pos (by decide +kernel)]; kernel_rfl) | (rw [if_neg (by decide +kernel)]; exact ⟨rfl, rfl⟩))
    (fun os started H enc _ => sides_lifted os started H enc)
#print axioms sides_holds
end Go.Proofs.Ythpbelgmppaafaa
