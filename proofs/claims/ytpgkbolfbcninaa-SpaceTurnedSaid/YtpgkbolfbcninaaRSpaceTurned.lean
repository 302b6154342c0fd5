/- The statement SpaceTurned is proved: for whatever inputs the law returns true, and the inputs read as they did. No condition. -/
import Derived.Test.YtpgkbolfbcninaaRows
import Derived.Test.YtpgkbolfbcninaaP5
import Derived.Test.YtpgkbolfbcninaaP6
import Derived.Test.YtpgkbolfbcninaaP7
set_option maxRecDepth 100000
set_option linter.unusedVariables false
namespace Go.Proofs.Ytpgkbolfbcninaa
open Go.ChangeShapes Go.WideShapes Go.ChangeAt Go.RowKit Go.Sh

set_option maxRecDepth 100000 in
theorem spaceTurned_lifted (os : Os) (started : os.Started) (H : Type) (enc : TypeId × Value → H) :
    ReturnsInHanded {} Try.checked os 9 .any (Rows.spaceTurnedSpec.pre6 enc Try.prog Try.f9 Rows.spaceTurnedRow.domain false) (Rows.spaceTurnedSpec.post enc Try.prog Try.f9 false true false false) := by
  refine returnsInHanded_of_change (C := Try.checked) ownK started (by kernel_rfl) Try.func9
    (ChangeSpec.witness6 (enc := enc) (C := Try.checked) false ⟨#[], #[.slice none 0 0, .slice none 0 0], []⟩ 8 (by kernel_rfl) (by kernel_rfl) (by kernel_rfl) (by kernel_rfl)) ?_
  intro W base args ds gs before hval0 hW hcnd _
  have hval : ∀ (j : Nat) t v, Try.f9.params[j]? = some t → args[j]? = some v → Value.okWide Try.prog W .any base t v := hval0
  have hW' := hW
  obtain ⟨p, q, hA0, hV, rfl, hfz, hnd⟩ := hW
  have hA : DataW.TrodAll enc Try.prog W 0 (fun _ => true) true Try.f9.params.toList args.toList ds p := hA0
  rw [Try.params9] at hA hval
  obtain ⟨v0, vs0, d0, ds0, p0, q0, hargs, rfl, rfl, h0, r0⟩ := trodAll_cons hA
  obtain ⟨v1, vs1, d1, ds1, p1, q1, rfl, rfl, rfl, h1, r1⟩ := trodAll_cons r0
  obtain ⟨rfl, rfl, rfl⟩ := trodAll_nil r1
  obtain rfl : args = #[v0, v1] := Array.ext' hargs
  obtain ⟨a0, l0, c0, rfl⟩ := okWide_slice Try.underlying30 (hval 0 30 v0 rfl rfl)
  obtain ⟨fuel0, h0⟩ := h0
  obtain ⟨a1, l1, c1, rfl⟩ := okWide_slice Try.underlying30 (hval 1 30 v1 rfl rfl)
  obtain ⟨fuel1, h1⟩ := h1
  have hcp0 : l0 ≤ c0 := slice_cap Try.underlying30 h0
  obtain ⟨s0, xs0, hct0, hv0, hx0, _⟩ := open_view RE OkE Try.underlying30 (by kernel_rfl) reach_el h0
  obtain ⟨rfl, rfl, rfl⟩ : a0 = s0.a ∧ l0 = s0.len ∧ c0 = s0.cap := by simpa [Value.cells] using hct0
  have hcp1 : l1 ≤ c1 := slice_cap Try.underlying30 h1
  obtain ⟨s1, xs1, hct1, hv1, hx1, _⟩ := open_view RE OkE Try.underlying30 (by kernel_rfl) reach_el h1
  obtain ⟨rfl, rfl, rfl⟩ : a1 = s1.a ∧ l1 = s1.len ∧ c1 = s1.cap := by simpa [Value.cells] using hct1
  refine (sh_postroadlaw11_SpaceTurned.calls gCV s0 s1 gCV_cv (R := fun e W' => e = .returned (.bool true) ∧ Ext W W') (SpaceTurned_ok sCV_ok hv0 hcp0 hv1 hcp1 fun w' e => ⟨rfl, e⟩)).mono fun e W' ⟨he, hB⟩ => ?_
  subst he
  exact ⟨_, rfl, law_post laidK (by kernel_rfl) rfl Try.underlying4 rfl rfl hW' hB⟩

theorem spaceturned_holds : Rows.SpaceTurnedSaid :=
  OpenClaim.holds_of_wide 9 Try.f9 rfl rfl rfl rfl rfl rfl rfl ⟨rfl, rfl, rfl, rfl, rfl⟩ rfl rfl rfl rfl rfl (by kernel_rfl) Try.func9 (by kernel_rfl)
    (of_decide_eq_true (by kernel_rfl)) (by unfold Func.isWrapper; first | (rw [if_pos (by decide +kernel)]; kernel_rfl) | (rw [if_neg (by decide +kernel)]; exact ⟨rfl, rfl⟩))
    (fun os started H enc _ => spaceTurned_lifted os started H enc)
#print axioms spaceturned_holds
end Go.Proofs.Ytpgkbolfbcninaa
