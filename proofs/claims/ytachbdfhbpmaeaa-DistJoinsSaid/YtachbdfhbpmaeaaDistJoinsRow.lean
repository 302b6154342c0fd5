/- The statement DistJoins is proved: for whatever inputs the law returns true, and the inputs read as they did. No condition. -/
import Derived.Test.YtachbdfhbpmaeaaRows
import Derived.Test.YtachbdfhbpmaeaaDistJoins
import Derived.Test.YtachbdfhbpmaeaaAllOk
import Derived.Test.YtachbdfhbpmaeaaDistCVI
import Derived.Test.YtachbdfhbpmaeaaRowK
set_option maxRecDepth 100000
set_option linter.unusedVariables false
namespace Go.Proofs.Ytachbdfhbpmaeaa
open Go.ChangeShapes Go.WideShapes Go.ChangeAt Go.RowKit Go.Sh

set_option maxRecDepth 100000 in
theorem distJoins_lifted (os : Os) (started : os.Started) (H : Type) (enc : TypeId × Value → H) :
    ReturnsInHanded {} Try.checked os 8 .any (Rows.distJoinsSpec.pre6 enc Try.prog Try.f8 Rows.distJoinsRow.domain false) (Rows.distJoinsSpec.post enc Try.prog Try.f8 false true false false) := by
  refine returnsInHanded_of_change_sized (C := Try.checked) ownK started (by kernel_rfl) Try.func8
    (ChangeSpec.witness6 (enc := enc) (C := Try.checked) false ⟨#[], #[.agg #[.int .i64 0, .slice none 0 0], .int .i64 0, .slice none 0 0, .slice none 0 0, .int .u16 0], []⟩ 8 (by kernel_rfl) (by kernel_rfl) (by kernel_rfl) (by kernel_rfl)) ?_
  intro W base args ds gs before hval0 hW hcnd hsz _
  have hval : ∀ (j : Nat) t v, Try.f8.params[j]? = some t → args[j]? = some v → Value.okWide Try.prog W .any base t v := hval0
  have hW' := hW
  obtain ⟨p, q, hA0, hV, rfl, hfz, hnd⟩ := hW
  have hA : DataW.TrodAll enc Try.prog W 0 (fun _ => true) true Try.f8.params.toList args.toList ds p := hA0
  rw [Try.params8] at hA hval
  obtain ⟨v0, vs0, d0, ds0, p0, q0, hargs, rfl, rfl, h0, r0⟩ := trodAll_cons hA
  obtain ⟨v1, vs1, d1, ds1, p1, q1, rfl, rfl, rfl, h1, r1⟩ := trodAll_cons r0
  obtain ⟨v2, vs2, d2, ds2, p2, q2, rfl, rfl, rfl, h2, r2⟩ := trodAll_cons r1
  obtain ⟨v3, vs3, d3, ds3, p3, q3, rfl, rfl, rfl, h3, r3⟩ := trodAll_cons r2
  obtain ⟨v4, vs4, d4, ds4, p4, q4, rfl, rfl, rfl, h4, r4⟩ := trodAll_cons r3
  obtain ⟨rfl, rfl, rfl⟩ := trodAll_nil r4
  obtain rfl : args = #[v0, v1, v2, v3, v4] := Array.ext' hargs
  obtain ⟨cs0, rfl, hsz0⟩ := okWide_struct Try.underlying24 (hval 0 24 v0 rfl rfl)
  obtain ⟨fuel0, h0⟩ := h0
  obtain ⟨a2, l2, c2, rfl⟩ := okWide_slice Try.underlying28 (hval 2 28 v2 rfl rfl)
  obtain ⟨fuel2, h2⟩ := h2
  obtain ⟨a3, l3, c3, rfl⟩ := okWide_slice Try.underlying28 (hval 3 28 v3 rfl rfl)
  obtain ⟨fuel3, h3⟩ := h3
  obtain ⟨N0, s0, xs0, hcs0, hv0, hN0, hx0, _⟩ := map_el h0
  obtain rfl : cs0 = #[.int .i64 N0, .slice s0.a s0.len s0.cap] := Array.ext' hcs0
  obtain ⟨n1, rfl, rfl, rfl, wn1⟩ := open_int Try.underlying3 (hval 1 3 v1 rfl rfl) h1
  have hz2 : l2 < 2 ^ 47 := len_sized (j := 2) hsz (by kernel_rfl) rfl Try.underlying28 (by kernel_rfl) h2
  obtain ⟨s2, xs2, hct2, hv2, hx2, _⟩ := open_view RI In64 Try.underlying28 (by kernel_rfl) int_el h2
  obtain ⟨rfl, rfl, rfl⟩ : a2 = s2.a ∧ l2 = s2.len ∧ c2 = s2.cap := by simpa [Value.cells] using hct2
  have hz3 : l3 < 2 ^ 47 := len_sized (j := 3) hsz (by kernel_rfl) rfl Try.underlying28 (by kernel_rfl) h3
  obtain ⟨s3, xs3, hct3, hv3, hx3, _⟩ := open_view RI In64 Try.underlying28 (by kernel_rfl) int_el h3
  obtain ⟨rfl, rfl, rfl⟩ : a3 = s3.a ∧ l3 = s3.len ∧ c3 = s3.cap := by simpa [Value.cells] using hct3
  obtain ⟨n4, rfl, rfl, rfl, wn4⟩ := open_int Try.underlying48 (hval 4 48 v4 rfl rfl) h4
  refine (sh_postroadlaw07_DistJoins.calls gCV N0 s0 n1 s2 s3 n4 gCV_cv (R := fun e W' => e = .returned (.bool true) ∧ Ext W W') (DistJoins_ok dCV_ok hv0 hv2 (show xs2.length < 2 ^ 47 by rw [← hv2.len]; exact hz2) hv3 (show xs3.length < 2 ^ 47 by rw [← hv3.len]; exact hz3) (u16_wf wn4) fun w' e => ⟨rfl, e⟩)).mono fun e W' ⟨he, hB⟩ => ?_
  subst he
  exact ⟨_, rfl, law_post laidK (by kernel_rfl) rfl Try.underlying4 rfl rfl hW' hB⟩

theorem distjoins_holds : Rows.DistJoinsSaid :=
  OpenClaim.holds_of_wide 8 Try.f8 rfl rfl rfl rfl rfl rfl rfl ⟨rfl, rfl, rfl, rfl, rfl⟩ rfl rfl rfl rfl rfl (by kernel_rfl) Try.func8 (by kernel_rfl)
    (of_decide_eq_true (by kernel_rfl)) (by unfold Func.isWrapper; first | (rw [if_pos (by decide +kernel)]; kernel_rfl) | (rw [if_neg (by decide +kernel)]; exact ⟨rfl, rfl⟩))
    (fun os started H enc _ => distJoins_lifted os started H enc)
#print axioms distjoins_holds
end Go.Proofs.Ytachbdfhbpmaeaa
