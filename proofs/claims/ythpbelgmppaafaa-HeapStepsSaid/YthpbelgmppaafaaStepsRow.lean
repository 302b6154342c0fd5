/- The statement HeapSteps of layer 3 is proved: for whatever n, script and id the law returns true, and the inputs read as they did. No condition. -/
import Derived.Test.YthpbelgmppaafaaRows
import Derived.Test.YthpbelgmppaafaaHeapSteps
import Derived.Test.YthpbelgmppaafaaLaw3Ok
import Derived.Test.YthpbelgmppaafaaOpen
import Derived.Test.YthpbelgmppaafaaRow3
import Derived.WalkKit
set_option maxRecDepth 100000
set_option linter.unusedVariables false
namespace Go.Proofs.Ythpbelgmppaafaa
open Go.ChangeShapes Go.WideShapes Go.ChangeAt Go.RowKit Go.Sh

set_option maxRecDepth 100000 in
theorem steps_lifted (os : Os) (started : os.Started) (H : Type) (enc : TypeId × Value → H) :
    ReturnsInHanded {} Try.checked os 11 .any (Rows.heapStepsSpec.pre6 enc Try.prog Try.f11 Rows.heapStepsRow.domain false) (Rows.heapStepsSpec.post enc Try.prog Try.f11 false true false false) := by
  refine returnsInHanded_of_change (C := Try.checked) own3 started (by kernel_rfl) Try.func11
    (ChangeSpec.witness6 (enc := enc) (C := Try.checked) false ⟨#[], #[.int .i64 0, .slice none 0 0, .int .i64 0], []⟩ 8 (by kernel_rfl) (by kernel_rfl) (by kernel_rfl) (by kernel_rfl)) ?_
  intro W base args ds gs before hval0 hW hcnd _
  have hval : ∀ (j : Nat) t v, Try.f11.params[j]? = some t → args[j]? = some v → Value.okWide Try.prog W .any base t v := hval0
  have hW' := hW
  obtain ⟨p, q, hA0, hV, rfl, hfz, hnd⟩ := hW
  have hA : DataW.TrodAll enc Try.prog W 0 (fun _ => true) true Try.f11.params.toList args.toList ds p := hA0
  rw [Try.params11] at hA hval
  obtain ⟨v0, vs0, d0, ds0, p0, q0, hargs, rfl, rfl, h0, r0⟩ := trodAll_cons hA
  obtain ⟨v1, vs1, d1, ds1, p1, q1, rfl, rfl, rfl, h1, r1⟩ := trodAll_cons r0
  obtain ⟨v2, vs2, d2, ds2, p2, q2, rfl, rfl, rfl, h2, r2⟩ := trodAll_cons r1
  obtain ⟨rfl, rfl, rfl⟩ := trodAll_nil r2
  obtain rfl : args = #[v0, v1, v2] := by cases args; simp_all
  obtain ⟨n, rfl, rfl, rfl, wn⟩ := open_int Try.underlying3 (hval 0 3 v0 rfl rfl) h0
  obtain ⟨a1, n1, c1, rfl⟩ := okWide_slice Try.underlying59 (hval 1 59 v1 rfl rfl)
  obtain ⟨id, rfl, rfl, rfl, wid⟩ := open_int Try.underlying3 (hval 2 3 v2 rfl rfl) h2
  obtain ⟨fuel1, h1⟩ := h1
  obtain ⟨t, ys, hct, hview1, _, _⟩ := open_view RD (fun a => In64 a.1 ∧ In64 a.2.1 ∧ In64 a.2.2) Try.underlying59 (by kernel_rfl) do_el h1
  obtain ⟨rfl, rfl, rfl⟩ : a1 = t.a ∧ n1 = t.len ∧ c1 = t.cap := by simpa [Value.cells] using hct
  refine (sh_postroadlaw03_HeapSteps.calls noCV n t id (noCV_ok _) (R := fun e W' => e = .returned (.bool true) ∧ Ext W W') (HeapSteps_ok hview1 fun w' e => ⟨rfl, e⟩)).mono fun e W' ⟨he, hB⟩ => ?_
  subst he
  exact ⟨_, rfl, law_post laid3 (by kernel_rfl) rfl Try.underlying4 rfl rfl hW' hB⟩

theorem steps_holds : Rows.HeapStepsSaid :=
  OpenClaim.holds_of_wide 11 Try.f11 rfl rfl rfl rfl rfl rfl rfl ⟨rfl, rfl, rfl, rfl, rfl⟩ rfl rfl rfl rfl rfl (by kernel_rfl) Try.func11 (by kernel_rfl)
    (of_decide_eq_true (by kernel_rfl)) (by unfold Func.isWrapper; first | (rw [if_pos (by decide +kernel)]; kernel_rfl) | (rw [if_neg (by decide +kernel)]; exact ⟨rfl, rfl⟩))
    (fun os started H enc _ => steps_lifted os started H enc)
#print axioms steps_holds
end Go.Proofs.Ythpbelgmppaafaa
