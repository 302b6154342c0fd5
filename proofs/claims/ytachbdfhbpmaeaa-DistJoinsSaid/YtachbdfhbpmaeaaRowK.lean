/- What this seat's rows lean on: inputs, opened; printed by row.py of these sessions. -/
import Derived.Test.YtachbdfhbpmaeaaRows
import Derived.Test.YtachbdfhbpmaeaaOpen
import Derived.Test.YtachbdfhbpmaeaaHierPure
import Derived.WalkKit
import Derived.SizedLaws
set_option maxRecDepth 100000
set_option linter.unusedVariables false
namespace Go.Proofs.Ytachbdfhbpmaeaa
open Go.ChangeShapes Go.WideShapes Go.ChangeAt Go.RowKit Go.Sh

theorem ownK : ownKnob Try.prog.godebug = none := by kernel_rfl
theorem laidK : laidOutB Try.prog = true := by kernel_rfl
def OkD (a : Int × Int × Int) : Prop := In64 a.1 ∧ In64 a.2.1 ∧ In64 a.2.2
def OkE (a : Int × Int) : Prop := In64 a.1 ∧ In64 a.2
def OkY (y : Wy) : Prop := In64 (yF y) ∧ In64 (yT y) ∧ In64 (yW y) ∧ In64 (yM y) ∧ In64 (yA y)

section
variable {H : Type} {enc : TypeId × Value → H} {w : World} {base : Nat} {spare : Nat → Bool} {held : Bool}
theorem int_el (fuel : Nat) (cs : List Value) (y : DataW H × List MemPlace)
    (h : DataW.trod enc Try.prog w base spare held fuel 3 cs = some y) : ∃ a : Int, cs = RI.enc a ∧ In64 a := by
  obtain ⟨m, rfl, _, hw⟩ := DataW.trod_int Try.underlying3 h
  exact ⟨m, rfl, in64_wf hw⟩
theorem u8_wf {n : Int} (wo : (Lit.int .u8 n).wf = true) : 0 ≤ n ∧ n < 256 := by
  simp only [Lit.wf, Bool.and_eq_true, decide_eq_true_eq] at wo
  have h1 : IntKind.u8.min = 0 := by decide
  have h2 : IntKind.u8.max = 255 := by decide
  rw [h1, h2] at wo
  exact ⟨wo.1, by omega⟩
theorem u16_wf {n : Int} (wo : (Lit.int .u16 n).wf = true) : 0 ≤ n ∧ n < 65536 := by
  simp only [Lit.wf, Bool.and_eq_true, decide_eq_true_eq] at wo
  have h1 : IntKind.u16.min = 0 := by decide
  have h2 : IntKind.u16.max = 65535 := by decide
  rw [h1, h2] at wo
  exact ⟨wo.1, by omega⟩
theorem u32_wf {n : Int} (wo : (Lit.int .u32 n).wf = true) : 0 ≤ n ∧ n < 4294967296 := by
  simp only [Lit.wf, Bool.and_eq_true, decide_eq_true_eq] at wo
  have h1 : IntKind.u32.min = 0 := by decide
  have h2 : IntKind.u32.max = 4294967295 := by decide
  rw [h1, h2] at wo
  exact ⟨wo.1, by omega⟩
theorem arc_el (fuel : Nat) (cs : List Value) (y : DataW H × List MemPlace)
    (h : DataW.trod enc Try.prog w base spare held fuel 37 cs = some y) : ∃ a : Int × Int × Int, cs = RD.enc a ∧ OkD a := by
  obtain ⟨xs, rfl, hl, hw⟩ := trod_ints Try.underlying37 (by kernel_rfl) (fun j f hj => by
    match j, hj with
    | 0, hj => cases hj; exact ⟨rfl, by kernel_rfl, Try.underlying3⟩
    | 1, hj => cases hj; exact ⟨rfl, by kernel_rfl, Try.underlying3⟩
    | 2, hj => cases hj; exact ⟨rfl, by kernel_rfl, Try.underlying3⟩
    | n + 3, hj => simp at hj) h
  match xs, hl, hw with
  | [a, b, c], _, hw => exact ⟨(a, b, c), rfl, hw a (by simp), hw b (by simp), hw c (by simp)⟩
theorem map_el {fuel : Nat} {cs : List Value} {y : DataW H × List MemPlace}
    (h : DataW.trod enc Try.prog w base spare held fuel 24 cs = some y) : ∃ (N : Int) (s : SV) (xs : List (Int × Int × Int)), cs = [.int .i64 N, .slice s.a s.len s.cap] ∧ View RD w s xs ∧ In64 N ∧ (∀ a ∈ xs, OkD a) ∧ xs.length ≤ maxLen := by
  obtain ⟨ys, n, _, _, hl, hyl, hel⟩ := DataW.trod_struct Try.underlying24 h
  have hl2 : cs.length = 2 := by rw [hl]; kernel_rfl
  have h0 := hel 0 _ rfl
  have h1 := hel 1 _ rfl
  match cs, hl2 with
  | [c0, c1], _ =>
    have hy : ys.length = 2 := by rw [hyl]; rfl
    match ys, hy with
    | [y0, y1], _ =>
      change DataW.trod enc Try.prog w base spare held n 3 (List.take (Try.prog.cellsOf 3) [c0, c1]) = some y0 at h0
      change DataW.trod enc Try.prog w base spare held n 22 (List.take (Try.prog.cellsOf 22) [c1]) = some y1 at h1
      have q3 : Try.prog.cellsOf 3 = 1 := by kernel_rfl
      have q22 : Try.prog.cellsOf 22 = 1 := by kernel_rfl
      rw [q3] at h0; rw [q22] at h1
      change DataW.trod enc Try.prog w base spare held n 3 [c0] = some y0 at h0
      change DataW.trod enc Try.prog w base spare held n 22 [c1] = some y1 at h1
      obtain ⟨m, hm, _, hw⟩ := DataW.trod_int Try.underlying3 h0
      obtain ⟨s, xs, hs, hv, hx, hle⟩ := open_view RD OkD Try.underlying22 (by kernel_rfl) arc_el h1
      simp only [List.cons.injEq, and_true] at hm hs
      subst hm hs
      exact ⟨m, s, xs, rfl, hv, in64_wf hw, hx, hle⟩
/-- A slice that came in is no longer than what can be reached. -/
theorem len_sized {t e : TypeId} {ts : List TypeId} {ds : List (DataW H)} {j fuel : Nat} {d : DataW H} {q : List MemPlace} {a : Option Addr} {n c : Nat} (hsz : (DataW.weightsEach Try.prog ts ds).all (· ≤ reachBytes) = true) (ht : ts[j]? = some t) (hd : ds[j]? = some d)
    (hu : Try.prog.underlying t = some (.slice e)) (hb : Nat.ble 1 (Try.prog.bytesOf e) = true) (h : DataW.trod enc Try.prog w base spare held fuel t [.slice a n c] = some (d, q)) : n < 2 ^ 47 := by
  rcases DataW.trod_slice hu h with ⟨h0, _⟩ | ⟨a', len, cap, elems, rest, m, _, h0, hx, _, _, _, hlen, _⟩
  · simp only [List.cons.injEq, Value.slice.injEq, and_true] at h0
    obtain ⟨_, rfl, _⟩ := h0; decide
  · simp only [List.cons.injEq, Value.slice.injEq, and_true] at h0
    obtain ⟨_, rfl, _⟩ := h0
    have hx1 := congrArg Prod.fst hx
    simp only at hx1
    subst hx1
    have := sized_slice hsz ht hd hu
    have h1 := reachBytes_lt
    have h2 : n * 1 ≤ ((elems.map (·.1)).length + (rest.map (·.1)).length) * Try.prog.bytesOf e := Nat.mul_le_mul (by rw [List.length_map]; omega) (Nat.le_of_ble_eq_true hb)
    omega
end
end Go.Proofs.Ytachbdfhbpmaeaa
