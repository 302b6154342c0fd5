/- What this seat's rows lean on: inputs, opened; printed by row.py of these sessions. -/
import Derived.Test.YtoomennincfkgaaRows
import Derived.Test.YtoomennincfkgaaOpen
import Derived.Test.YtoomennincfkgaaHierPure
import Derived.WalkKit
import Derived.SizedLaws
set_option maxRecDepth 100000
set_option linter.unusedVariables false
namespace Go.Proofs.Ytoomennincfkgaa
open Go.ChangeShapes Go.WideShapes Go.ChangeAt Go.RowKit Go.Sh

theorem ownK : ownKnob Try.prog.godebug = none := by kernel_rfl
theorem laidK : laidOutB Try.prog = true := by kernel_rfl
def OkD (a : Int × Int × Int) : Prop := In64 a.1 ∧ In64 a.2.1 ∧ In64 a.2.2
def OkE (a : Int × Int) : Prop := In64 a.1 ∧ In64 a.2
def OkY (y : Wy) : Prop := In64 (yF y) ∧ In64 (yT y) ∧ In64 (yW y) ∧ In64 (yM y) ∧ In64 (yA y)

section
variable {H : Type} {enc : TypeId × Value → H} {w : World} {base : Nat} {spare : Nat → Bool} {held : Bool}
theorem int_el (fuel : Nat) (cs : List Value) (y : DataW H × List MemPlace)
    (h : DataW.trod enc Try.prog w base spare held fuel 3 cs = some y) : ∃ a : Int, cs = RI.enc a ∧ In64 a := by
  obtain ⟨m, rfl, _, hw⟩ := DataW.trod_int Try.underlying3 h
  exact ⟨m, rfl, in64_wf hw⟩
theorem u8_wf {n : Int} (wo : (Lit.int .u8 n).wf = true) : 0 ≤ n ∧ n < 256 := by
  simp only [Lit.wf, Bool.and_eq_true, decide_eq_true_eq] at wo
  have h1 : IntKind.u8.min = 0 := by decide
  have h2 : IntKind.u8.max = 255 := by decide
  rw [h1, h2] at wo
  exact ⟨wo.1, by omega⟩
theorem u16_wf {n : Int} (wo : (Lit.int .u16 n).wf = true) : 0 ≤ n ∧ n < 65536 := by
  simp only [Lit.wf, Bool.and_eq_true, decide_eq_true_eq] at wo
  have h1 : IntKind.u16.min = 0 := by decide
  have h2 : IntKind.u16.max = 65535 := by decide
  rw [h1, h2] at wo
  exact ⟨wo.1, by omega⟩
theorem u32_wf {n : Int} (wo : (Lit.int .u32 n).wf = true) : 0 ≤ n ∧ n < 4294967296 := by
  simp only [Lit.wf, Bool.and_eq_true, decide_eq_true_eq] at wo
  have h1 : IntKind.u32.min = 0 := by decide
  have h2 : IntKind.u32.max = 4294967295 := by decide
  rw [h1, h2] at wo
  exact ⟨wo.1, by omega⟩
theorem arc_el (fuel : Nat) (cs : List Value) (y : DataW H × List MemPlace)
    (h : DataW.trod enc Try.prog w base spare held fuel 86 cs = some y) : ∃ a : Int × Int × Int, cs = RD.enc a ∧ OkD a := by
  obtain ⟨xs, rfl, hl, hw⟩ := trod_ints Try.underlying86 (by kernel_rfl) (fun j f hj => by
    match j, hj with
    | 0, hj => cases hj; exact ⟨rfl, by kernel_rfl, Try.underlying3⟩
    | 1, hj => cases hj; exact ⟨rfl, by kernel_rfl, Try.underlying3⟩
    | 2, hj => cases hj; exact ⟨rfl, by kernel_rfl, Try.underlying3⟩
    | n + 3, hj => simp at hj) h
  match xs, hl, hw with
  | [a, b, c], _, hw => exact ⟨(a, b, c), rfl, hw a (by simp), hw b (by simp), hw c (by simp)⟩
theorem short_el (fuel : Nat) (cs : List Value) (y : DataW H × List MemPlace)
    (h : DataW.trod enc Try.prog w base spare held fuel 46 cs = some y) : ∃ a : Wy, cs = RW.enc a ∧ OkY a := by
  obtain ⟨ys, n, _, _, hl, hyl, hel⟩ := DataW.trod_struct Try.underlying46 h
  have hl2 : cs.length = 5 := by rw [hl]; kernel_rfl
  have h0 := hel 0 _ rfl
  have h1 := hel 1 _ rfl
  have h2 := hel 2 _ rfl
  match cs, hl2 with
  | [c0, c1, c2, c3, c4], _ =>
    have hy : ys.length = 3 := by rw [hyl]; rfl
    match ys, hy with
    | [y0, y1, y2], _ =>
      change DataW.trod enc Try.prog w base spare held n 3 (List.take (Try.prog.cellsOf 3) [c0, c1, c2, c3, c4]) = some y0 at h0
      change DataW.trod enc Try.prog w base spare held n 3 (List.take (Try.prog.cellsOf 3) [c1, c2, c3, c4]) = some y1 at h1
      change DataW.trod enc Try.prog w base spare held n 44 (List.take (Try.prog.cellsOf 44) [c2, c3, c4]) = some y2 at h2
      have q3 : Try.prog.cellsOf 3 = 1 := by kernel_rfl
      have q44 : Try.prog.cellsOf 44 = 3 := by kernel_rfl
      rw [q3] at h0 h1; rw [q44] at h2
      change DataW.trod enc Try.prog w base spare held n 3 [c0] = some y0 at h0
      change DataW.trod enc Try.prog w base spare held n 3 [c1] = some y1 at h1
      change DataW.trod enc Try.prog w base spare held n 44 [c2, c3, c4] = some y2 at h2
      obtain ⟨f, hf, _, wf⟩ := DataW.trod_int Try.underlying3 h0
      obtain ⟨t, ht, _, wt⟩ := DataW.trod_int Try.underlying3 h1
      obtain ⟨xs, hxs, hl3, hw⟩ := trod_ints Try.underlying44 (by kernel_rfl) (fun j f hj => by
        match j, hj with
        | 0, hj => cases hj; exact ⟨rfl, by kernel_rfl, Try.underlying3⟩
        | 1, hj => cases hj; exact ⟨rfl, by kernel_rfl, Try.underlying3⟩
        | 2, hj => cases hj; exact ⟨rfl, by kernel_rfl, Try.underlying3⟩
        | n + 3, hj => simp at hj) h2
      match xs, hl3, hw, hxs with
      | [a, b, c], _, hw, hxs =>
        simp only [List.map_cons, List.map_nil, List.cons.injEq, and_true] at hf ht hxs
        obtain ⟨rfl, rfl, rfl⟩ := hxs
        subst hf ht
        exact ⟨(f, t, a, b, c), rfl, in64_wf wf, in64_wf wt, hw a (by simp), hw b (by simp), hw c (by simp)⟩
theorem hier_el {fuel : Nat} {cs : List Value} {y : DataW H × List MemPlace}
    (h : DataW.trod enc Try.prog w base spare held fuel 25 cs = some y) : ∃ (sr sy : SV) (rank : List Int) (ways : List Wy), cs = [.slice sr.a sr.len sr.cap, .slice sy.a sy.len sy.cap] ∧ View RI w sr rank ∧ View RW w sy ways ∧
      (∀ a ∈ rank, In64 a) ∧ (∀ a ∈ ways, OkY a) ∧ rank.length ≤ maxLen ∧ ways.length ≤ maxLen := by
  obtain ⟨ys, n, _, _, hl, hyl, hel⟩ := DataW.trod_struct Try.underlying25 h
  have hl2 : cs.length = 2 := by rw [hl]; kernel_rfl
  have h0 := hel 0 _ rfl
  have h1 := hel 1 _ rfl
  match cs, hl2 with
  | [c0, c1], _ =>
    have hy : ys.length = 2 := by rw [hyl]; rfl
    match ys, hy with
    | [y0, y1], _ =>
      change DataW.trod enc Try.prog w base spare held n 22 (List.take (Try.prog.cellsOf 22) [c0, c1]) = some y0 at h0
      change DataW.trod enc Try.prog w base spare held n 23 (List.take (Try.prog.cellsOf 23) [c1]) = some y1 at h1
      have q22 : Try.prog.cellsOf 22 = 1 := by kernel_rfl
      have q23 : Try.prog.cellsOf 23 = 1 := by kernel_rfl
      rw [q22] at h0; rw [q23] at h1
      change DataW.trod enc Try.prog w base spare held n 22 [c0] = some y0 at h0
      change DataW.trod enc Try.prog w base spare held n 23 [c1] = some y1 at h1
      obtain ⟨sr, rank, hs, hv, hx, hle⟩ := open_view RI In64 Try.underlying22 (by kernel_rfl) int_el h0
      obtain ⟨sy, ways, hs2, hv2, hx2, hle2⟩ := open_view RW OkY Try.underlying23 (by kernel_rfl) short_el h1
      simp only [List.cons.injEq, and_true] at hs hs2
      subst hs hs2
      exact ⟨sr, sy, rank, ways, rfl, hv, hv2, hx, hx2, hle, hle2⟩
/-- A slice that came in is no longer than what can be reached. -/
theorem len_sized {t e : TypeId} {ts : List TypeId} {ds : List (DataW H)} {j fuel : Nat} {d : DataW H} {q : List MemPlace} {a : Option Addr} {n c : Nat} (hsz : (DataW.weightsEach Try.prog ts ds).all (· ≤ reachBytes) = true) (ht : ts[j]? = some t) (hd : ds[j]? = some d)
    (hu : Try.prog.underlying t = some (.slice e)) (hb : Nat.ble 1 (Try.prog.bytesOf e) = true) (h : DataW.trod enc Try.prog w base spare held fuel t [.slice a n c] = some (d, q)) : n < 2 ^ 47 := by
  rcases DataW.trod_slice hu h with ⟨h0, _⟩ | ⟨a', len, cap, elems, rest, m, _, h0, hx, _, _, _, hlen, _⟩
  · simp only [List.cons.injEq, Value.slice.injEq, and_true] at h0
    obtain ⟨_, rfl, _⟩ := h0; decide
  · simp only [List.cons.injEq, Value.slice.injEq, and_true] at h0
    obtain ⟨_, rfl, _⟩ := h0
    have hx1 := congrArg Prod.fst hx
    simp only at hx1
    subst hx1
    have := sized_slice hsz ht hd hu
    have h1 := reachBytes_lt
    have h2 : n * 1 ≤ ((elems.map (·.1)).length + (rest.map (·.1)).length) * Try.prog.bytesOf e := Nat.mul_le_mul (by rw [List.length_map]; omega) (Nat.le_of_ble_eq_true hb)
    omega
end
end Go.Proofs.Ytoomennincfkgaa
