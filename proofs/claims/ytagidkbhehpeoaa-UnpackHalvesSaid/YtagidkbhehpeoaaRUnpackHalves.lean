/- The statement UnpackHalves is proved: for whatever inputs the law returns true, and the inputs read as they did. No condition. -/
import Derived.Test.YtagidkbhehpeoaaRows
import Derived.Test.YtagidkbhehpeoaaP3
set_option maxRecDepth 100000
set_option linter.unusedVariables false
namespace Go.Proofs.Ytagidkbhehpeoaa
open Go.ChangeShapes Go.WideShapes Go.ChangeAt Go.RowKit Go.Sh

set_option maxRecDepth 100000 in
theorem unpackHalves_lifted (os : Os) (started : os.Started) (H : Type) (enc : TypeId × Value → H) :
    ReturnsInHanded {} Try.checked os 5 .any (Rows.unpackHalvesSpec.pre6 enc Try.prog Try.f5 Rows.unpackHalvesRow.domain false) (Rows.unpackHalvesSpec.post enc Try.prog Try.f5 false true false false) := by
  refine returnsInHanded_of_change (C := Try.checked) ownK started (by kernel_rfl) Try.func5
    (ChangeSpec.witness6 (enc := enc) (C := Try.checked) false ⟨#[], #[.agg #[.slice none 0 0, .slice none 0 0]], []⟩ 8 (by kernel_rfl) (by kernel_rfl) (by kernel_rfl) (by kernel_rfl)) ?_
  intro W base args ds gs before hval0 hW hcnd _
  have hval : ∀ (j : Nat) t v, Try.f5.params[j]? = some t → args[j]? = some v → Value.okWide Try.prog W .any base t v := hval0
  have hW' := hW
  obtain ⟨p, q, hA0, hV, rfl, hfz, hnd⟩ := hW
  have hA : DataW.TrodAll enc Try.prog W 0 (fun _ => true) true Try.f5.params.toList args.toList ds p := hA0
  rw [Try.params5] at hA hval
  obtain ⟨v0, vs0, d0, ds0, p0, q0, hargs, rfl, rfl, h0, r0⟩ := trodAll_cons hA
  obtain ⟨rfl, rfl, rfl⟩ := trodAll_nil r0
  obtain rfl : args = #[v0] := Array.ext' hargs
  obtain ⟨cs0, rfl, hsz0⟩ := okWide_struct Try.underlying25 (hval 0 25 v0 rfl rfl)
  obtain ⟨fuel0, h0⟩ := h0
  obtain ⟨sr0, sy0, rank0, ways0, hcs0, hvr0, hvy0, hxr0, hxy0, _, _⟩ := hier_el h0
  obtain rfl : cs0 = #[.slice sr0.a sr0.len sr0.cap, .slice sy0.a sy0.len sy0.cap] := Array.ext' hcs0
  refine (sh_postroadlaw13_UnpackHalves.calls noCV sr0 sy0 (noCV_ok _) (R := fun e W' => e = .returned (.bool true) ∧ Ext W W') (UnpackHalves_ok hvr0 hvy0 fun w' e => ⟨rfl, e⟩)).mono fun e W' ⟨he, hB⟩ => ?_
  subst he
  exact ⟨_, rfl, law_post laidK (by kernel_rfl) rfl Try.underlying4 rfl rfl hW' hB⟩

theorem unpackhalves_holds : Rows.UnpackHalvesSaid :=
  OpenClaim.holds_of_wide 5 Try.f5 rfl rfl rfl rfl rfl rfl rfl ⟨rfl, rfl, rfl, rfl, rfl⟩ rfl rfl rfl rfl rfl (by kernel_rfl) Try.func5 (by kernel_rfl)
    (of_decide_eq_true (by kernel_rfl)) (by unfold Func.isWrapper; first | (rw [if_pos (by decide +kernel)]; kernel_rfl) | (rw [if_neg (by decide +kernel)]; exact ⟨rfl, rfl⟩))
    (fun os started H enc _ => unpackHalves_lifted os started H enc)
#print axioms unpackhalves_holds
end Go.Proofs.Ytagidkbhehpeoaa
