/- The statement UnpackMeets is proved: for whatever inputs the law returns true, and the inputs read as they did. No condition. -/
import Derived.Test.YtagidkbhehpeoaaRows
import Derived.Test.YtagidkbhehpeoaaP4
import Derived.Test.YtagidkbhehpeoaaP6
set_option maxRecDepth 100000
set_option linter.unusedVariables false
namespace Go.Proofs.Ytagidkbhehpeoaa
open Go.ChangeShapes Go.WideShapes Go.ChangeAt Go.RowKit Go.Sh

set_option maxRecDepth 100000 in
theorem unpackMeets_lifted (os : Os) (started : os.Started) (H : Type) (enc : TypeId × Value → H) :
    ReturnsInHanded {} Try.checked os 9 .any (Rows.unpackMeetsSpec.pre6 enc Try.prog Try.f9 Rows.unpackMeetsRow.domain false) (Rows.unpackMeetsSpec.post enc Try.prog Try.f9 false true false false) := by
  refine returnsInHanded_of_change (C := Try.checked) ownK started (by kernel_rfl) Try.func9
    (ChangeSpec.witness6 (enc := enc) (C := Try.checked) false ⟨#[], #[.agg #[.slice none 0 0, .slice none 0 0], .int .i64 0, .int .i64 0], []⟩ 8 (by kernel_rfl) (by kernel_rfl) (by kernel_rfl) (by kernel_rfl)) ?_
  intro W base args ds gs before hval0 hW hcnd _
  have hval : ∀ (j : Nat) t v, Try.f9.params[j]? = some t → args[j]? = some v → Value.okWide Try.prog W .any base t v := hval0
  have hW' := hW
  obtain ⟨p, q, hA0, hV, rfl, hfz, hnd⟩ := hW
  have hA : DataW.TrodAll enc Try.prog W 0 (fun _ => true) true Try.f9.params.toList args.toList ds p := hA0
  rw [Try.params9] at hA hval
  obtain ⟨v0, vs0, d0, ds0, p0, q0, hargs, rfl, rfl, h0, r0⟩ := trodAll_cons hA
  obtain ⟨v1, vs1, d1, ds1, p1, q1, rfl, rfl, rfl, h1, r1⟩ := trodAll_cons r0
  obtain ⟨v2, vs2, d2, ds2, p2, q2, rfl, rfl, rfl, h2, r2⟩ := trodAll_cons r1
  obtain ⟨rfl, rfl, rfl⟩ := trodAll_nil r2
  obtain rfl : args = #[v0, v1, v2] := Array.ext' hargs
  obtain ⟨cs0, rfl, hsz0⟩ := okWide_struct Try.underlying25 (hval 0 25 v0 rfl rfl)
  obtain ⟨fuel0, h0⟩ := h0
  obtain ⟨sr0, sy0, rank0, ways0, hcs0, hvr0, hvy0, hxr0, hxy0, _, _⟩ := hier_el h0
  obtain rfl : cs0 = #[.slice sr0.a sr0.len sr0.cap, .slice sy0.a sy0.len sy0.cap] := Array.ext' hcs0
  obtain ⟨n1, rfl, rfl, rfl, wn1⟩ := open_int Try.underlying3 (hval 1 3 v1 rfl rfl) h1
  obtain ⟨n2, rfl, rfl, rfl, wn2⟩ := open_int Try.underlying3 (hval 2 3 v2 rfl rfl) h2
  refine (sh_postroadlaw13_UnpackMeets.calls gCV sr0 sy0 n1 n2 gCV_cv (R := fun e W' => e = .returned (.bool true) ∧ Ext W W') (UnpackMeets_ok uCV_ok hvr0 hvy0 fun w' e => ⟨rfl, e⟩)).mono fun e W' ⟨he, hB⟩ => ?_
  subst he
  exact ⟨_, rfl, law_post laidK (by kernel_rfl) rfl Try.underlying4 rfl rfl hW' hB⟩

theorem unpackmeets_holds : Rows.UnpackMeetsSaid :=
  OpenClaim.holds_of_wide 9 Try.f9 rfl rfl rfl rfl rfl rfl rfl ⟨rfl, rfl, rfl, rfl, rfl⟩ rfl rfl rfl rfl rfl (by kernel_rfl) Try.func9 (by kernel_rfl)
    (of_decide_eq_true (by kernel_rfl)) (by unfold Func.isWrapper; first | (rw [if_pos (by decide +kernel)]; kernel_rfl) | (rw [if_neg (by decide +kernel)]; exact ⟨rfl, rfl⟩))
    (fun os started H enc _ => unpackMeets_lifted os started H enc)
#print axioms unpackmeets_holds
end Go.Proofs.Ytagidkbhehpeoaa
