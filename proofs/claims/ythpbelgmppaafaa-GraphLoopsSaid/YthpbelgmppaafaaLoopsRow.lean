/- The statement GraphLoops of layer 6 is proved: for whatever n, arcs and loops the law returns true, and the inputs read as they did. No condition. -/
import Derived.Test.YthpbelgmppaafaaRows
import Derived.Test.YthpbelgmppaafaaGraphLoops
import Derived.Test.YthpbelgmppaafaaGraphCV
import Derived.Test.YthpbelgmppaafaaRow6
set_option maxRecDepth 100000
set_option linter.unusedVariables false
namespace Go.Proofs.Ythpbelgmppaafaa
open Go.ChangeShapes Go.WideShapes Go.ChangeAt Go.RowKit Go.Sh

set_option maxRecDepth 100000 in
theorem loops_lifted (os : Os) (started : os.Started) (H : Type) (enc : TypeId × Value → H) :
    ReturnsInHanded {} Try.checked os 4 .any (Rows.graphLoopsSpec.pre6 enc Try.prog Try.f4 Rows.graphLoopsRow.domain false) (Rows.graphLoopsSpec.post enc Try.prog Try.f4 false true false false) := by
  refine returnsInHanded_of_change (C := Try.checked) own6 started (by kernel_rfl) Try.func4
    (ChangeSpec.witness6 (enc := enc) (C := Try.checked) false ⟨#[], #[.int .i64 0, .slice none 0 0, .slice none 0 0], []⟩ 8 (by kernel_rfl) (by kernel_rfl) (by kernel_rfl) (by kernel_rfl)) ?_
  intro W base args ds gs before hval0 hW hcnd _
  have hval : ∀ (j : Nat) t v, Try.f4.params[j]? = some t → args[j]? = some v → Value.okWide Try.prog W .any base t v := hval0
  have hW' := hW
  obtain ⟨p, q, hA0, hV, rfl, hfz, hnd⟩ := hW
  have hA : DataW.TrodAll enc Try.prog W 0 (fun _ => true) true Try.f4.params.toList args.toList ds p := hA0
  rw [Try.params4] at hA hval
  obtain ⟨v0, vs0, d0, ds0, p0, q0, hargs, rfl, rfl, h0, r0⟩ := trodAll_cons hA
  obtain ⟨v1, vs1, d1, ds1, p1, q1, rfl, rfl, rfl, h1, r1⟩ := trodAll_cons r0
  obtain ⟨v2, vs2, d2, ds2, p2, q2, rfl, rfl, rfl, h2, r2⟩ := trodAll_cons r1
  obtain ⟨rfl, rfl, rfl⟩ := trodAll_nil r2
  obtain rfl : args = #[v0, v1, v2] := by cases args; simp_all
  obtain ⟨n, rfl, rfl, rfl, wn⟩ := open_int Try.underlying3 (hval 0 3 v0 rfl rfl) h0
  obtain ⟨a1, n1, c1, rfl⟩ := okWide_slice Try.underlying22 (hval 1 22 v1 rfl rfl)
  obtain ⟨a2, n2, c2, rfl⟩ := okWide_slice Try.underlying39 (hval 2 39 v2 rfl rfl)
  obtain ⟨fuel1, h1⟩ := h1
  obtain ⟨fuel2, h2⟩ := h2
  obtain ⟨t, ys, hct, hview1, _, _⟩ := open_view RD (fun a => In64 a.1 ∧ In64 a.2.1 ∧ In64 a.2.2) Try.underlying22 (by kernel_rfl) arc_el h1
  obtain ⟨rfl, rfl, rfl⟩ : a1 = t.a ∧ n1 = t.len ∧ c1 = t.cap := by simpa [Value.cells] using hct
  obtain ⟨l, us, hcl, hview2, hus, _⟩ := open_view RU8 (fun a => 0 ≤ a ∧ a < 256) Try.underlying39 (by kernel_rfl) byte_el h2
  obtain ⟨rfl, rfl, rfl⟩ : a2 = l.a ∧ n2 = l.len ∧ c2 = l.cap := by simpa [Value.cells] using hcl
  refine (sh_postroadlaw06_GraphLoops.calls gCV n t l gCV_cv (R := fun e W' => e = .returned (.bool true) ∧ Ext W W') (GraphLoops_ok gCV_ok hview1 hview2 hus fun w' e => ⟨rfl, e⟩)).mono fun e W' ⟨he, hB⟩ => ?_
  subst he
  exact ⟨_, rfl, law_post laid6 (by kernel_rfl) rfl Try.underlying4 rfl rfl hW' hB⟩

theorem loops_holds : Rows.GraphLoopsSaid :=
  OpenClaim.holds_of_wide 4 Try.f4 rfl rfl rfl rfl rfl rfl rfl ⟨rfl, rfl, rfl, rfl, rfl⟩ rfl rfl rfl rfl rfl (by kernel_rfl) Try.func4 (by kernel_rfl)
    (of_decide_eq_true (by kernel_rfl)) (by unfold Func.isWrapper; first | (rw [if_pos (by decide +kernel)]; kernel_rfl) | (rw [if_neg (by decide +kernel)]; exact ⟨rfl, rfl⟩))
    (fun os started H enc _ => loops_lifted os started H enc)
#print axioms loops_holds
end Go.Proofs.Ythpbelgmppaafaa
