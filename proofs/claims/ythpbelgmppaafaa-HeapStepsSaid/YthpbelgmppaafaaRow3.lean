/- What the rows of layer 3 lean on: the script's elements, opened. -/
import Derived.Test.YthpbelgmppaafaaRows
import Derived.Test.YthpbelgmppaafaaHeapTwo
import Derived.Test.YthpbelgmppaafaaOpen
import Derived.WalkKit
set_option maxRecDepth 100000
set_option linter.unusedVariables false
namespace Go.Proofs.Ythpbelgmppaafaa
open Go.ChangeShapes Go.WideShapes Go.ChangeAt Go.RowKit Go.Sh

theorem own3 : ownKnob Try.prog.godebug = none := by kernel_rfl
theorem laid3 : laidOutB Try.prog = true := by kernel_rfl

theorem do_el {H : Type} {enc : TypeId × Value → H} {w : World} {base : Nat} {spare : Nat → Bool} {held : Bool} (fuel : Nat) (cs : List Value) (y : DataW H × List MemPlace)
    (h : DataW.trod enc Try.prog w base spare held fuel 61 cs = some y) : ∃ a : Int × Int × Int, cs = RD.enc a ∧ (In64 a.1 ∧ In64 a.2.1 ∧ In64 a.2.2) := by
  obtain ⟨xs, rfl, hl, hw⟩ := trod_ints Try.underlying61 (by kernel_rfl) (fun j f hj => by
    match j, hj with
    | 0, hj => cases hj; exact ⟨rfl, by kernel_rfl, Try.underlying3⟩
    | 1, hj => cases hj; exact ⟨rfl, by kernel_rfl, Try.underlying3⟩
    | 2, hj => cases hj; exact ⟨rfl, by kernel_rfl, Try.underlying3⟩
    | n + 3, hj => simp at hj) h
  match xs, hl, hw with
  | [a, b, c], _, hw => exact ⟨(a, b, c), rfl, hw a (by simp), hw b (by simp), hw c (by simp)⟩

theorem int_el {H : Type} {enc : TypeId × Value → H} {w : World} {base : Nat} {spare : Nat → Bool} {held : Bool} (fuel : Nat) (cs : List Value) (y : DataW H × List MemPlace)
    (h : DataW.trod enc Try.prog w base spare held fuel 3 cs = some y) : ∃ a : Int, cs = RI.enc a ∧ In64 a := by
  obtain ⟨m, rfl, _, hw⟩ := DataW.trod_int Try.underlying3 h
  exact ⟨m, rfl, in64_wf hw⟩
end Go.Proofs.Ythpbelgmppaafaa
