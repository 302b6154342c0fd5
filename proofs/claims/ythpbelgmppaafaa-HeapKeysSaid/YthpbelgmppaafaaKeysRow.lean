/- The statement HeapKeys of layer 3 is proved: for whatever script the law returns true, and the input reads as it did. No condition. -/
import Derived.Test.YthpbelgmppaafaaRows
import Derived.Test.YthpbelgmppaafaaHeapKeys
import Derived.Test.YthpbelgmppaafaaRow3
import Derived.Test.YthpbelgmppaafaaLaw3Ok
import Derived.Test.YthpbelgmppaafaaOpen
import Derived.WalkKit
set_option maxRecDepth 100000
set_option linter.unusedVariables false
namespace Go.Proofs.Ythpbelgmppaafaa
open Go.ChangeShapes Go.WideShapes Go.ChangeAt Go.RowKit Go.Sh

set_option maxRecDepth 100000 in
theorem keys_lifted (os : Os) (started : os.Started) (H : Type) (enc : TypeId × Value → H) :
    ReturnsInHanded {} Try.checked os 10 .any (Rows.heapKeysSpec.pre6 enc Try.prog Try.f10 Rows.heapKeysRow.domain false) (Rows.heapKeysSpec.post enc Try.prog Try.f10 false true false false) := by
  refine returnsInHanded_of_change (C := Try.checked) own3 started (by kernel_rfl) Try.func10
    (ChangeSpec.witness6 (enc := enc) (C := Try.checked) false ⟨#[], #[.slice none 0 0], []⟩ 8 (by kernel_rfl) (by kernel_rfl) (by kernel_rfl) (by kernel_rfl)) ?_
  intro W base args ds gs before hval0 hW hcnd _
  have hval : ∀ (j : Nat) t v, Try.f10.params[j]? = some t → args[j]? = some v → Value.okWide Try.prog W .any base t v := hval0
  have hW' := hW
  obtain ⟨p, q, hA0, hV, rfl, hfz, hnd⟩ := hW
  have hA : DataW.TrodAll enc Try.prog W 0 (fun _ => true) true Try.f10.params.toList args.toList ds p := hA0
  rw [Try.params10] at hA hval
  obtain ⟨v0, vs0, d0, ds0, p0, q0, hargs, rfl, rfl, h0, r0⟩ := trodAll_cons hA
  obtain ⟨rfl, rfl, rfl⟩ := trodAll_nil r0
  obtain rfl : args = #[v0] := by cases args; simp_all
  obtain ⟨a0, n0, c0, rfl⟩ := okWide_slice Try.underlying59 (hval 0 59 v0 rfl rfl)
  obtain ⟨fuel, h0⟩ := h0
  obtain ⟨s, xs, hcs, hview, _, _⟩ := open_view RD (fun a => In64 a.1 ∧ In64 a.2.1 ∧ In64 a.2.2) Try.underlying59 (by kernel_rfl) do_el h0
  obtain ⟨rfl, rfl, rfl⟩ : a0 = s.a ∧ n0 = s.len ∧ c0 = s.cap := by simpa [Value.cells] using hcs
  refine (sh_postroadlaw03_HeapKeys.calls s (R := fun e W' => e = .returned (.bool true) ∧ Ext W W') (HeapKeys_ok hview fun w' e => ⟨rfl, e⟩)).mono fun e W' ⟨he, hB⟩ => ?_
  subst he
  exact ⟨_, rfl, law_post laid3 (by kernel_rfl) rfl Try.underlying4 rfl rfl hW' hB⟩

theorem keys_holds : Rows.HeapKeysSaid :=
  OpenClaim.holds_of_wide 10 Try.f10 rfl rfl rfl rfl rfl rfl rfl ⟨rfl, rfl, rfl, rfl, rfl⟩ rfl rfl rfl rfl rfl (by kernel_rfl) Try.func10 (by kernel_rfl)
    (of_decide_eq_true (by kernel_rfl)) (by unfold Func.isWrapper; first | (rw [if_pos (by decide +kernel)]; kernel_rfl) | (rw [if_neg (by decide +kernel)]; exact ⟨rfl, rfl⟩))
    (fun os started H enc _ => keys_lifted os started H enc)
#print axioms keys_holds
end Go.Proofs.Ythpbelgmppaafaa
