/- The statement UnpackWalks is proved: for whatever inputs the law returns true, and the inputs read as they did. No condition. -/
import Derived.Test.YtagidkbhehpeoaaRows
import Derived.Test.YtagidkbhehpeoaaP5
import Derived.Test.YtagidkbhehpeoaaP7
set_option maxRecDepth 100000
set_option linter.unusedVariables false
namespace Go.Proofs.Ytagidkbhehpeoaa
open Go.ChangeShapes Go.WideShapes Go.ChangeAt Go.RowKit Go.Sh

set_option maxRecDepth 100000 in
theorem unpackWalks_lifted (os : Os) (started : os.Started) (H : Type) (enc : TypeId × Value → H) :
    ReturnsInHanded {} Try.checked os 8 .any (Rows.unpackWalksSpec.pre6 enc Try.prog Try.f8 Rows.unpackWalksRow.domain false) (Rows.unpackWalksSpec.post enc Try.prog Try.f8 false true false false) := by
  refine returnsInHanded_of_change (C := Try.checked) ownK started (by kernel_rfl) Try.func8
    (ChangeSpec.witness6 (enc := enc) (C := Try.checked) false ⟨#[], #[.int .i64 0, .slice none 0 0, .int .u8 0], []⟩ 8 (by kernel_rfl) (by kernel_rfl) (by kernel_rfl) (by kernel_rfl)) ?_
  intro W base args ds gs before hval0 hW hcnd _
  have hval : ∀ (j : Nat) t v, Try.f8.params[j]? = some t → args[j]? = some v → Value.okWide Try.prog W .any base t v := hval0
  have hW' := hW
  obtain ⟨p, q, hA0, hV, rfl, hfz, hnd⟩ := hW
  have hA : DataW.TrodAll enc Try.prog W 0 (fun _ => true) true Try.f8.params.toList args.toList ds p := hA0
  rw [Try.params8] at hA hval
  obtain ⟨v0, vs0, d0, ds0, p0, q0, hargs, rfl, rfl, h0, r0⟩ := trodAll_cons hA
  obtain ⟨v1, vs1, d1, ds1, p1, q1, rfl, rfl, rfl, h1, r1⟩ := trodAll_cons r0
  obtain ⟨v2, vs2, d2, ds2, p2, q2, rfl, rfl, rfl, h2, r2⟩ := trodAll_cons r1
  obtain ⟨rfl, rfl, rfl⟩ := trodAll_nil r2
  obtain rfl : args = #[v0, v1, v2] := Array.ext' hargs
  obtain ⟨a1, l1, c1, rfl⟩ := okWide_slice Try.underlying35 (hval 1 35 v1 rfl rfl)
  obtain ⟨fuel1, h1⟩ := h1
  obtain ⟨n0, rfl, rfl, rfl, wn0⟩ := open_int Try.underlying3 (hval 0 3 v0 rfl rfl) h0
  obtain ⟨s1, xs1, hct1, hv1, hx1, _⟩ := open_view RD OkD Try.underlying35 (by kernel_rfl) arc_el h1
  obtain ⟨rfl, rfl, rfl⟩ : a1 = s1.a ∧ l1 = s1.len ∧ c1 = s1.cap := by simpa [Value.cells] using hct1
  obtain ⟨n2, rfl, rfl, rfl, wn2⟩ := open_int Try.underlying5 (hval 2 5 v2 rfl rfl) h2
  refine (sh_postroadlaw13_UnpackWalks.calls gCV n0 s1 n2 gCV_cv (R := fun e W' => e = .returned (.bool true) ∧ Ext W W') (UnpackWalks_ok uCV_ok hv1 (u8_wf wn2) fun w' e => ⟨rfl, e⟩)).mono fun e W' ⟨he, hB⟩ => ?_
  subst he
  exact ⟨_, rfl, law_post laidK (by kernel_rfl) rfl Try.underlying4 rfl rfl hW' hB⟩

theorem unpackwalks_holds : Rows.UnpackWalksSaid :=
  OpenClaim.holds_of_wide 8 Try.f8 rfl rfl rfl rfl rfl rfl rfl ⟨rfl, rfl, rfl, rfl, rfl⟩ rfl rfl rfl rfl rfl (by kernel_rfl) Try.func8 (by kernel_rfl)
    (of_decide_eq_true (by kernel_rfl)) (by unfold Func.isWrapper; first | (rw [if_pos (by decide +kernel)]; kernel_rfl) | (rw [if_neg (by decide +kernel)]; exact ⟨rfl, rfl⟩))
    (fun os started H enc _ => unpackWalks_lifted os started H enc)
#print axioms unpackwalks_holds
end Go.Proofs.Ytagidkbhehpeoaa
