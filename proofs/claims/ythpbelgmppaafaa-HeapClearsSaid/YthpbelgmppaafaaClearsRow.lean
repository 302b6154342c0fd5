/- The statement HeapClears of layer 3 is proved: for whatever keys and number the law returns true, and the inputs read as they did. No condition. -/
import Derived.Test.YthpbelgmppaafaaRows
import Derived.Test.YthpbelgmppaafaaHeapClears
import Derived.Test.YthpbelgmppaafaaLaw3Ok
import Derived.Test.YthpbelgmppaafaaOpen
import Derived.Test.YthpbelgmppaafaaRow3
import Derived.WalkKit
set_option maxRecDepth 100000
set_option linter.unusedVariables false
namespace Go.Proofs.Ythpbelgmppaafaa
open Go.ChangeShapes Go.WideShapes Go.ChangeAt Go.RowKit Go.Sh

set_option maxRecDepth 100000 in
theorem clears_lifted (os : Os) (started : os.Started) (H : Type) (enc : TypeId × Value → H) :
    ReturnsInHanded {} Try.checked os 12 .any (Rows.heapClearsSpec.pre6 enc Try.prog Try.f12 Rows.heapClearsRow.domain false) (Rows.heapClearsSpec.post enc Try.prog Try.f12 false true false false) := by
  refine returnsInHanded_of_change (C := Try.checked) own3 started (by kernel_rfl) Try.func12
    (ChangeSpec.witness6 (enc := enc) (C := Try.checked) false ⟨#[], #[.slice none 0 0, .int .u8 0], []⟩ 8 (by kernel_rfl) (by kernel_rfl) (by kernel_rfl) (by kernel_rfl)) ?_
  intro W base args ds gs before hval0 hW hcnd _
  have hval : ∀ (j : Nat) t v, Try.f12.params[j]? = some t → args[j]? = some v → Value.okWide Try.prog W .any base t v := hval0
  have hW' := hW
  obtain ⟨p, q, hA0, hV, rfl, hfz, hnd⟩ := hW
  have hA : DataW.TrodAll enc Try.prog W 0 (fun _ => true) true Try.f12.params.toList args.toList ds p := hA0
  rw [Try.params12] at hA hval
  obtain ⟨v0, vs0, d0, ds0, p0, q0, hargs, rfl, rfl, h0, r0⟩ := trodAll_cons hA
  obtain ⟨v1, vs1, d1, ds1, p1, q1, rfl, rfl, rfl, h1, r1⟩ := trodAll_cons r0
  obtain ⟨rfl, rfl, rfl⟩ := trodAll_nil r1
  obtain rfl : args = #[v0, v1] := by cases args; simp_all
  obtain ⟨a0, n0, c0, rfl⟩ := okWide_slice Try.underlying35 (hval 0 35 v0 rfl rfl)
  obtain ⟨out, rfl, rfl, rfl, wo⟩ := open_int Try.underlying5 (hval 1 5 v1 rfl rfl) h1
  obtain ⟨fuel, h0⟩ := h0
  obtain ⟨s, xs, hcs, hview, _, _⟩ := open_view RI In64 Try.underlying35 (by kernel_rfl) int_el h0
  obtain ⟨rfl, rfl, rfl⟩ : a0 = s.a ∧ n0 = s.len ∧ c0 = s.cap := by simpa [Value.cells] using hcs
  have ho : 0 ≤ out ∧ out < 256 := by
    simp only [Lit.wf, Bool.and_eq_true, decide_eq_true_eq] at wo
    have h1 : IntKind.u8.min = 0 := by decide
    have h2 : IntKind.u8.max = 255 := by decide
    rw [h1, h2] at wo
    exact ⟨wo.1, by omega⟩
  refine (sh_postroadlaw03_HeapClears.calls s out (R := fun e W' => e = .returned (.bool true) ∧ Ext W W') (HeapClears_ok hview ho.1 ho.2 fun w' e => ⟨rfl, e⟩)).mono fun e W' ⟨he, hB⟩ => ?_
  subst he
  exact ⟨_, rfl, law_post laid3 (by kernel_rfl) rfl Try.underlying4 rfl rfl hW' hB⟩

theorem clears_holds : Rows.HeapClearsSaid :=
  OpenClaim.holds_of_wide 12 Try.f12 rfl rfl rfl rfl rfl rfl rfl ⟨rfl, rfl, rfl, rfl, rfl⟩ rfl rfl rfl rfl rfl (by kernel_rfl) Try.func12 (by kernel_rfl)
    (of_decide_eq_true (by kernel_rfl)) (by unfold Func.isWrapper; first | (rw [if_pos (by decide +kernel)]; kernel_rfl) | (rw [if_neg (by decide +kernel)]; exact ⟨rfl, rfl⟩))
    (fun os started H enc _ => clears_lifted os started H enc)
#print axioms clears_holds
end Go.Proofs.Ythpbelgmppaafaa
