/- What the rows of layer 6 lean on: arcs, maps and bytes, opened. -/
import Derived.Test.YthpbelgmppaafaaRows
import Derived.Test.YthpbelgmppaafaaOpen
import Derived.Test.YthpbelgmppaafaaGraphLoops
import Derived.WalkKit
set_option maxRecDepth 100000
set_option linter.unusedVariables false
namespace Go.Proofs.Ythpbelgmppaafaa
open Go.ChangeShapes Go.WideShapes Go.ChangeAt Go.RowKit Go.Sh

theorem own6 : ownKnob Try.prog.godebug = none := by kernel_rfl
theorem laid6 : laidOutB Try.prog = true := by kernel_rfl

section
variable {H : Type} {enc : TypeId × Value → H} {w : World} {base : Nat} {spare : Nat → Bool} {held : Bool}
theorem arc_el (fuel : Nat) (cs : List Value) (y : DataW H × List MemPlace)
    (h : DataW.trod enc Try.prog w base spare held fuel 27 cs = some y) : ∃ a : Int × Int × Int, cs = RD.enc a ∧ (In64 a.1 ∧ In64 a.2.1 ∧ In64 a.2.2) := by
  obtain ⟨xs, rfl, hl, hw⟩ := trod_ints Try.underlying27 (by kernel_rfl) (fun j f hj => by
    match j, hj with
    | 0, hj => cases hj; exact ⟨rfl, by kernel_rfl, Try.underlying3⟩
    | 1, hj => cases hj; exact ⟨rfl, by kernel_rfl, Try.underlying3⟩
    | 2, hj => cases hj; exact ⟨rfl, by kernel_rfl, Try.underlying3⟩
    | n + 3, hj => simp at hj) h
  match xs, hl, hw with
  | [a, b, c], _, hw => exact ⟨(a, b, c), rfl, hw a (by simp), hw b (by simp), hw c (by simp)⟩
theorem u8_wf {n : Int} (wo : (Lit.int .u8 n).wf = true) : 0 ≤ n ∧ n < 256 := by
  simp only [Lit.wf, Bool.and_eq_true, decide_eq_true_eq] at wo
  have h1 : IntKind.u8.min = 0 := by decide
  have h2 : IntKind.u8.max = 255 := by decide
  rw [h1, h2] at wo
  exact ⟨wo.1, by omega⟩
theorem byte_el (fuel : Nat) (cs : List Value) (y : DataW H × List MemPlace)
    (h : DataW.trod enc Try.prog w base spare held fuel 5 cs = some y) : ∃ a : Int, cs = RU8.enc a ∧ (0 ≤ a ∧ a < 256) := by
  obtain ⟨m, rfl, _, hw⟩ := DataW.trod_int Try.underlying5 h
  exact ⟨m, rfl, u8_wf hw⟩
theorem map_el {fuel : Nat} {cs : List Value} {y : DataW H × List MemPlace}
    (h : DataW.trod enc Try.prog w base spare held fuel 24 cs = some y) : ∃ (N : Int) (s : SV) (xs : List Arc), cs = [.int .i64 N, .slice s.a s.len s.cap] ∧ View RD w s xs ∧ In64 N ∧ (∀ a ∈ xs, In64 a.1 ∧ In64 a.2.1 ∧ In64 a.2.2) ∧ xs.length ≤ maxLen := by
  obtain ⟨ys, n, _, _, hl, hyl, hel⟩ := DataW.trod_struct Try.underlying24 h
  have hl2 : cs.length = 2 := by rw [hl]; kernel_rfl
  have h0 := hel 0 _ rfl
  have h1 := hel 1 _ rfl
  match cs, hl2 with
  | [c0, c1], _ =>
    have hy : ys.length = 2 := by rw [hyl]; rfl
    match ys, hy with
    | [y0, y1], _ =>
      change DataW.trod enc Try.prog w base spare held n 3 (List.take (Try.prog.cellsOf 3) [c0, c1]) = some y0 at h0
      change DataW.trod enc Try.prog w base spare held n 22 (List.take (Try.prog.cellsOf 22) [c1]) = some y1 at h1
      have q3 : Try.prog.cellsOf 3 = 1 := by kernel_rfl
      have q22 : Try.prog.cellsOf 22 = 1 := by kernel_rfl
      rw [q3] at h0; rw [q22] at h1
      change DataW.trod enc Try.prog w base spare held n 3 [c0] = some y0 at h0
      change DataW.trod enc Try.prog w base spare held n 22 [c1] = some y1 at h1
      obtain ⟨m, hm, _, hw⟩ := DataW.trod_int Try.underlying3 h0
      obtain ⟨s, xs, hs, hv, hx, hle⟩ := open_view RD (fun a => In64 a.1 ∧ In64 a.2.1 ∧ In64 a.2.2) Try.underlying22 (by kernel_rfl) arc_el h1
      simp only [List.cons.injEq, and_true] at hm hs
      subst hm hs
      exact ⟨m, s, xs, rfl, hv, in64_wf hw, hx, hle⟩
end
end Go.Proofs.Ythpbelgmppaafaa
