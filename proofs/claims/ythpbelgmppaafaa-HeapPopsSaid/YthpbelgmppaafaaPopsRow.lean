/- The statement HeapPops of layer 3 is proved: for whatever script the law returns true, and the input reads as it did. No condition. -/
import Derived.Test.YthpbelgmppaafaaRows
import Derived.Test.YthpbelgmppaafaaHeapTwo
import Derived.Test.YthpbelgmppaafaaLaw3Ok
import Derived.Test.YthpbelgmppaafaaOpen
import Derived.WalkKit
set_option maxRecDepth 100000
set_option linter.unusedVariables false
namespace Go.Proofs.Ythpbelgmppaafaa
open Go.ChangeShapes Go.WideShapes Go.ChangeAt Go.RowKit Go.Sh

theorem own3 : ownKnob Try.prog.godebug = none := by kernel_rfl
theorem laid3 : laidOutB Try.prog = true := by kernel_rfl

theorem do_el {H : Type} {enc : TypeId × Value → H} {w : World} {base : Nat} {spare : Nat → Bool} {held : Bool} (fuel : Nat) (cs : List Value) (y : DataW H × List MemPlace)
    (h : DataW.trod enc Try.prog w base spare held fuel 61 cs = some y) : ∃ a : Int × Int × Int, cs = RD.enc a ∧ (In64 a.1 ∧ In64 a.2.1 ∧ In64 a.2.2) := by
  obtain ⟨xs, rfl, hl, hw⟩ := trod_ints Try.underlying61 (by kernel_rfl) (fun j f hj => by
    match j, hj with
    | 0, hj => cases hj; exact ⟨rfl, by kernel_rfl, Try.underlying3⟩
    | 1, hj => cases hj; exact ⟨rfl, by kernel_rfl, Try.underlying3⟩
    | 2, hj => cases hj; exact ⟨rfl, by kernel_rfl, Try.underlying3⟩
    | n + 3, hj => simp at hj) h
  match xs, hl, hw with
  | [a, b, c], _, hw => exact ⟨(a, b, c), rfl, hw a (by simp), hw b (by simp), hw c (by simp)⟩

set_option maxRecDepth 100000 in
theorem pops_lifted (os : Os) (started : os.Started) (H : Type) (enc : TypeId × Value → H) :
    ReturnsInHanded {} Try.checked os 14 .any (Rows.heapPopsSpec.pre6 enc Try.prog Try.f14 Rows.heapPopsRow.domain false) (Rows.heapPopsSpec.post enc Try.prog Try.f14 false true false false) := by
  refine returnsInHanded_of_change (C := Try.checked) own3 started (by kernel_rfl) Try.func14
    (ChangeSpec.witness6 (enc := enc) (C := Try.checked) false ⟨#[], #[.slice none 0 0], []⟩ 8 (by kernel_rfl) (by kernel_rfl) (by kernel_rfl) (by kernel_rfl)) ?_
  intro W base args ds gs before hval0 hW hcnd _
  have hval : ∀ (j : Nat) t v, Try.f14.params[j]? = some t → args[j]? = some v → Value.okWide Try.prog W .any base t v := hval0
  have hW' := hW
  obtain ⟨p, q, hA0, hV, rfl, hfz, hnd⟩ := hW
  have hA : DataW.TrodAll enc Try.prog W 0 (fun _ => true) true Try.f14.params.toList args.toList ds p := hA0
  rw [Try.params14] at hA hval
  obtain ⟨v0, vs0, d0, ds0, p0, q0, hargs, rfl, rfl, h0, r0⟩ := trodAll_cons hA
  obtain ⟨rfl, rfl, rfl⟩ := trodAll_nil r0
  obtain rfl : args = #[v0] := by cases args; simp_all
  obtain ⟨a0, n0, c0, rfl⟩ := okWide_slice Try.underlying59 (hval 0 59 v0 rfl rfl)
  obtain ⟨fuel, h0⟩ := h0
  obtain ⟨s, xs, hcs, hview, _, _⟩ := open_view RD (fun a => In64 a.1 ∧ In64 a.2.1 ∧ In64 a.2.2) Try.underlying59 (by kernel_rfl) do_el h0
  obtain ⟨rfl, rfl, rfl⟩ : a0 = s.a ∧ n0 = s.len ∧ c0 = s.cap := by simpa [Value.cells] using hcs
  refine (sh_postroadlaw03_HeapPops.calls s (R := fun e W' => e = .returned (.bool true) ∧ Ext W W') (HeapPops_ok hview fun w' e => ⟨rfl, e⟩)).mono fun e W' ⟨he, hB⟩ => ?_
  subst he
  exact ⟨_, rfl, law_post laid3 (by kernel_rfl) rfl Try.underlying4 rfl rfl hW' hB⟩

theorem pops_holds : Rows.HeapPopsSaid :=
  OpenClaim.holds_of_wide 14 Try.f14 rfl rfl rfl rfl rfl rfl rfl ⟨rfl, rfl, rfl, rfl, rfl⟩ rfl rfl rfl rfl rfl (by kernel_rfl) Try.func14 (by kernel_rfl)
    (of_decide_eq_true (by kernel_rfl)) (by unfold Func.isWrapper; first | (rw [if_pos (by decide +kernel)]; kernel_rfl) | (rw [if_neg (by decide +kernel)]; exact ⟨rfl, rfl⟩))
    (fun os started H enc _ => pops_lifted os started H enc)
#print axioms pops_holds
end Go.Proofs.Ythpbelgmppaafaa
