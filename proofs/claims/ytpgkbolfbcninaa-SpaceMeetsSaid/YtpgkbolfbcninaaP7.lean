/- Open, RowK: merged into one text. -/
import Derived.Test.YtpgkbolfbcninaaP2
import Derived.ProofKit
import Derived.OpenShut
import Derived.Test.YtpgkbolfbcninaaRows
import Derived.WalkKit
import Derived.SizedLaws
/- A law's arguments, opened; a law's row, shut. -/
namespace Go.Sh
open Go.RowKit Go.ChangeShapes Go.WideShapes Go.ChangeAt

section
variable {H : Type} {enc : TypeId × Value → H} {P : Program} {w : World} {base : Nat} {spare : Nat → Bool} {held : Bool}

/-- A slice that came in is read. -/
theorem open_view {α : Type} (R : Rc α) (Wf : α → Prop) {t e : TypeId} {fuel : Nat} {cs : List Value} {x : DataW H × List MemPlace} (ht : P.underlying t = some (.slice e)) (hc : P.cellsOf e = R.sz)
    (hel : ∀ (fuel : Nat) (cs : List Value) (y : DataW H × List MemPlace), DataW.trod enc P w base spare held fuel e cs = some y → ∃ a : α, cs = R.enc a ∧ Wf a)
    (h : DataW.trod enc P w base spare held fuel t cs = some x) : ∃ (s : SV) (xs : List α), cs = [.slice s.a s.len s.cap] ∧ View R w s xs ∧ (∀ a ∈ xs, Wf a) ∧ xs.length ≤ maxLen := by
  rcases DataW.trod_slice ht h with ⟨h0, _⟩ | ⟨a, len, cap, elems, rest, n, _, rfl, rfl, hb, hl, hm, hlen, hels, _, _⟩
  · exact ⟨⟨none, 0, 0⟩, [], h0, ⟨rfl, fun h => absurd rfl h, fun i x hx => by simp at hx⟩, fun _ h => by simp at h, by simp [maxLen]⟩
  · have each : ∀ i, i < len → ∃ z : α, Wf z ∧ ∀ j v, (R.enc z)[j]? = some v → w.cell? ((a.add (i * R.sz)).add j) = some v := by
      intro i hi
      have h1 := hels i hi
      rw [List.getElem?_eq_getElem (by omega), hc, Option.bind_eq_some_iff] at h1
      obtain ⟨cs', hcs, hy⟩ := h1
      obtain ⟨z, rfl, hz⟩ := hel _ _ _ hy
      refine ⟨z, hz, fun j v hv => ?_⟩
      have := (World.cells?_some hcs).2.2 j (by rw [← R.len z]; exact (List.getElem?_eq_some_iff.1 hv).1)
      rw [this]; exact hv
    have spot : 0 < len → a.spot = none := fun h0 => by
      obtain ⟨z, _, hz⟩ := each 0 h0
      have hp : 0 < (R.enc z).length := by rw [R.len]; exact R.pos
      have := hz 0 _ (List.getElem?_eq_getElem hp)
      rw [Nat.zero_mul] at this
      have e0 : (a.add 0).add 0 = a := by simp [Addr.add]
      rw [e0] at this
      unfold World.cell? at this
      split at this
      · split at this
        · cases this
        · rename_i hs; simpa using hs
      · cases this
    let f : Nat → α := fun i => if h : i < len then (each i h).choose else R.z
    have hf : ∀ i (hi : i < len), Wf (f i) ∧ ∀ j v, (R.enc (f i))[j]? = some v → w.cell? ((a.add (i * R.sz)).add j) = some v := fun i hi => by
      simp only [f, dif_pos hi]; exact (each i hi).choose_spec
    refine ⟨⟨some a, len, cap⟩, (List.range len).map f, rfl, ⟨by simp, fun hne p hp => ?_, fun i x hx => ?_⟩, fun x hx => ?_, by simp; omega⟩
    · cases hp
      refine spot ?_
      rcases Nat.eq_zero_or_pos len with h0 | h0
      · subst h0; simp at hne
      · exact h0
    · have hi : i < len := by have := (List.getElem?_eq_some_iff.1 hx).1; simpa using this
      rw [List.getElem?_map, List.getElem?_range hi] at hx
      injection hx with hx
      subst hx
      refine ⟨a, rfl, fun j v hv => ?_⟩
      have := (hf i hi).2 j v hv
      have hs := spot (by omega)
      rw [add_add _ hs, add_add _ rfl] at this
      exact this
    · obtain ⟨i, hi, rfl⟩ := List.mem_map.1 hx
      exact (hf i (List.mem_range.1 hi)).1

theorem in64_wf {n : Int} (hw : (Lit.int .i64 n).wf = true) : In64 n := by
  simp only [Lit.wf, Bool.and_eq_true, decide_eq_true_eq] at hw
  have h1 : IntKind.i64.min = -9223372036854775808 := by decide
  have h2 : IntKind.i64.max = 9223372036854775807 := by decide
  rw [h1, h2] at hw
  exact ⟨hw.1, by omega⟩

/-- A struct of ints that came in. -/
theorem trod_ints {t : TypeId} {fs : Array Field} {fuel : Nat} {cs : List Value} {x : DataW H × List MemPlace} (ht : P.underlying t = some (.struct fs)) (hc : P.cellsOf t = fs.size)
    (hf : ∀ (j : Nat) (f : Field), fs[j]? = some f → f.offset = j ∧ P.cellsOf f.type = 1 ∧ P.underlying f.type = some (.int .i64))
    (h : DataW.trod enc P w base spare held fuel t cs = some x) : ∃ xs : List Int, cs = xs.map (Value.int .i64) ∧ xs.length = fs.size ∧ ∀ n ∈ xs, In64 n := by
  obtain ⟨ys, n, _, _, hl, hyl, hel⟩ := DataW.trod_struct ht h
  have each : ∀ j, j < fs.size → ∃ n, cs[j]? = some (.int .i64 n) ∧ In64 n := fun j hj => by
    obtain ⟨h1, h2, h3⟩ := hf j fs[j] (Array.getElem?_eq_getElem hj)
    have h4 := hel j fs[j] (Array.getElem?_eq_getElem hj)
    rw [List.getElem?_eq_getElem (by omega), h1, h2] at h4
    obtain ⟨m, hm, _, hw⟩ := DataW.trod_int h3 h4
    have hjl : j < cs.length := by omega
    refine ⟨m, ?_, ?_⟩
    · have : (List.take 1 (List.drop j cs))[0]? = some (Value.int .i64 m) := by rw [hm]; rfl
      rw [List.getElem?_take, if_pos (by omega), List.getElem?_drop] at this
      simpa using this
    · simp only [Lit.wf, Bool.and_eq_true, decide_eq_true_eq] at hw
      have h1 : IntKind.i64.min = -9223372036854775808 := by decide
      have h2 : IntKind.i64.max = 9223372036854775807 := by decide
      rw [h1, h2] at hw
      exact ⟨hw.1, by omega⟩
  let f : Nat → Int := fun j => if h : j < fs.size then (each j h).choose else 0
  have hfj : ∀ j, j < fs.size → cs[j]? = some (.int .i64 (f j)) ∧ In64 (f j) := fun j hj => by
    simp only [f, dif_pos hj]; exact (each j hj).choose_spec
  refine ⟨(List.range fs.size).map f, ?_, by simp, fun n hn => ?_⟩
  · apply List.ext_getElem?
    intro j
    by_cases hj : j < fs.size
    · rw [(hfj j hj).1, List.getElem?_map, List.getElem?_map, List.getElem?_range hj]; rfl
    · rw [List.getElem?_eq_none (by omega), List.getElem?_eq_none (by simp; omega)]
  · obtain ⟨j, hj, rfl⟩ := List.mem_map.1 hn
    exact (hfj j (List.mem_range.1 hj)).2

theorem trodAll_below {W W' : World} (hl : laidOutB P = true) (hB : Below W.heap.size W W') : ∀ {ts : List TypeId} {vs : List Value} {ds : List (DataW H)} {ps : List MemPlace},
    (∀ t ∈ ts, P.readableRec t = true ∧ t < P.types.size) → DataW.TrodAll enc P W 0 (fun _ => true) true ts vs ds ps → (∀ x ∈ ps, x.block < W.heap.size) →
    DataW.TrodAll enc P W' 0 (fun b => decide (b < W.heap.size)) true ts vs ds ps
  | [], vs, ds, ps, _, h, _ => by
    obtain ⟨rfl, rfl, rfl⟩ := trodAll_nil h
    exact trodAll_mk0
  | t :: ts, vs, ds, ps, hr, h, hp => by
    obtain ⟨v, vs', d, ds', p, q, rfl, rfl, rfl, h1, h2⟩ := trodAll_cons h
    exact trodAll_cons_mk (Below.trod hl (hr t List.mem_cons_self).1 (hr t List.mem_cons_self).2 h1 hB fun x hx => hp x (List.mem_append_left _ hx))
      (trodAll_below hl hB (fun t' ht' => hr t' (List.mem_cons_of_mem _ ht')) h2 fun x hx => hp x (List.mem_append_right _ hx))

/-- A law's row, behind its walk. -/
theorem law_post {f : Func} {s : ChangeSpec} {W W' : World} {args : Array Value} {ds gs : List (DataW H)} {before : List MemPlace} {tb : TypeId} (hl : laidOutB P = true) (hrb : (f.params.toList.all fun t => P.readableRec t && Nat.blt t P.types.size) = true)
    (hres : f.resultTypes = #[tb]) (htb : P.underlying tb = some .bool) (hv : s.vars = []) (hspec : s.fn H ds = { results := [.lit (.bool true)], args := ds })
    (hW : DataW.Whole enc P f.params.toList s.vars false W args.toList ds gs before) (hB : Below W.heap.size W W') : s.post enc P f false true false false W args (.bool true) W' := by
  have hr : ∀ t ∈ f.params.toList, P.readableRec t = true ∧ t < P.types.size := fun t ht => by
    have := List.all_eq_true.1 hrb t ht
    simpa using this
  have hlt := fun x hx => hW.lt x hx
  have hW' := hW
  obtain ⟨p, q, hA, hV, rfl, _, _⟩ := hW
  rw [hv] at hV
  obtain ⟨rfl, rfl⟩ := trodVars_none hV
  rw [List.append_nil] at hW' hlt
  refine ⟨ds, [], p, [], p, [], hW', ?_, ?_, ?_, hB.frame _, fun h => by cases h⟩
  · rw [hres, List.append_nil, hspec]
    exact trodAll_mk1 (shut_bool htb true)
  · rw [List.append_nil, hspec]
    exact trodAll_below hl hB hr hA hlt
  · rw [hv, List.append_nil, hspec]; rfl
end
end Go.Sh

/- What this seat's rows lean on: inputs, opened; printed by row.py of these sessions. -/
set_option maxRecDepth 100000
set_option linter.unusedVariables false
namespace Go.Proofs.Ytpgkbolfbcninaa
open Go.ChangeShapes Go.WideShapes Go.ChangeAt Go.RowKit Go.Sh

theorem ownK : ownKnob Try.prog.godebug = none := by kernel_rfl
theorem laidK : laidOutB Try.prog = true := by kernel_rfl
def OkD (a : Int × Int × Int) : Prop := In64 a.1 ∧ In64 a.2.1 ∧ In64 a.2.2
def OkE (a : Int × Int) : Prop := In64 a.1 ∧ In64 a.2
def OkY (y : Wy) : Prop := In64 (yF y) ∧ In64 (yT y) ∧ In64 (yW y) ∧ In64 (yM y) ∧ In64 (yA y)

section
variable {H : Type} {enc : TypeId × Value → H} {w : World} {base : Nat} {spare : Nat → Bool} {held : Bool}
theorem int_el (fuel : Nat) (cs : List Value) (y : DataW H × List MemPlace)
    (h : DataW.trod enc Try.prog w base spare held fuel 3 cs = some y) : ∃ a : Int, cs = RI.enc a ∧ In64 a := by
  obtain ⟨m, rfl, _, hw⟩ := DataW.trod_int Try.underlying3 h
  exact ⟨m, rfl, in64_wf hw⟩
theorem u8_wf {n : Int} (wo : (Lit.int .u8 n).wf = true) : 0 ≤ n ∧ n < 256 := by
  simp only [Lit.wf, Bool.and_eq_true, decide_eq_true_eq] at wo
  have h1 : IntKind.u8.min = 0 := by decide
  have h2 : IntKind.u8.max = 255 := by decide
  rw [h1, h2] at wo
  exact ⟨wo.1, by omega⟩
theorem u16_wf {n : Int} (wo : (Lit.int .u16 n).wf = true) : 0 ≤ n ∧ n < 65536 := by
  simp only [Lit.wf, Bool.and_eq_true, decide_eq_true_eq] at wo
  have h1 : IntKind.u16.min = 0 := by decide
  have h2 : IntKind.u16.max = 65535 := by decide
  rw [h1, h2] at wo
  exact ⟨wo.1, by omega⟩
theorem u32_wf {n : Int} (wo : (Lit.int .u32 n).wf = true) : 0 ≤ n ∧ n < 4294967296 := by
  simp only [Lit.wf, Bool.and_eq_true, decide_eq_true_eq] at wo
  have h1 : IntKind.u32.min = 0 := by decide
  have h2 : IntKind.u32.max = 4294967295 := by decide
  rw [h1, h2] at wo
  exact ⟨wo.1, by omega⟩
theorem arc_el (fuel : Nat) (cs : List Value) (y : DataW H × List MemPlace)
    (h : DataW.trod enc Try.prog w base spare held fuel 92 cs = some y) : ∃ a : Int × Int × Int, cs = RD.enc a ∧ OkD a := by
  obtain ⟨xs, rfl, hl, hw⟩ := trod_ints Try.underlying92 (by kernel_rfl) (fun j f hj => by
    match j, hj with
    | 0, hj => cases hj; exact ⟨rfl, by kernel_rfl, Try.underlying3⟩
    | 1, hj => cases hj; exact ⟨rfl, by kernel_rfl, Try.underlying3⟩
    | 2, hj => cases hj; exact ⟨rfl, by kernel_rfl, Try.underlying3⟩
    | n + 3, hj => simp at hj) h
  match xs, hl, hw with
  | [a, b, c], _, hw => exact ⟨(a, b, c), rfl, hw a (by simp), hw b (by simp), hw c (by simp)⟩
theorem reach_el (fuel : Nat) (cs : List Value) (y : DataW H × List MemPlace)
    (h : DataW.trod enc Try.prog w base spare held fuel 41 cs = some y) : ∃ a : Int × Int, cs = RE.enc a ∧ OkE a := by
  obtain ⟨xs, rfl, hl, hw⟩ := trod_ints Try.underlying41 (by kernel_rfl) (fun j f hj => by
    match j, hj with
    | 0, hj => cases hj; exact ⟨rfl, by kernel_rfl, Try.underlying3⟩
    | 1, hj => cases hj; exact ⟨rfl, by kernel_rfl, Try.underlying3⟩
    | n + 2, hj => simp at hj) h
  match xs, hl, hw with
  | [a, b], _, hw => exact ⟨(a, b), rfl, hw a (by simp), hw b (by simp)⟩
theorem short_el (fuel : Nat) (cs : List Value) (y : DataW H × List MemPlace)
    (h : DataW.trod enc Try.prog w base spare held fuel 60 cs = some y) : ∃ a : Wy, cs = RW.enc a ∧ OkY a := by
  obtain ⟨ys, n, _, _, hl, hyl, hel⟩ := DataW.trod_struct Try.underlying60 h
  have hl2 : cs.length = 5 := by rw [hl]; kernel_rfl
  have h0 := hel 0 _ rfl
  have h1 := hel 1 _ rfl
  have h2 := hel 2 _ rfl
  match cs, hl2 with
  | [c0, c1, c2, c3, c4], _ =>
    have hy : ys.length = 3 := by rw [hyl]; rfl
    match ys, hy with
    | [y0, y1, y2], _ =>
      change DataW.trod enc Try.prog w base spare held n 3 (List.take (Try.prog.cellsOf 3) [c0, c1, c2, c3, c4]) = some y0 at h0
      change DataW.trod enc Try.prog w base spare held n 3 (List.take (Try.prog.cellsOf 3) [c1, c2, c3, c4]) = some y1 at h1
      change DataW.trod enc Try.prog w base spare held n 58 (List.take (Try.prog.cellsOf 58) [c2, c3, c4]) = some y2 at h2
      have q3 : Try.prog.cellsOf 3 = 1 := by kernel_rfl
      have q44 : Try.prog.cellsOf 58 = 3 := by kernel_rfl
      rw [q3] at h0 h1; rw [q44] at h2
      change DataW.trod enc Try.prog w base spare held n 3 [c0] = some y0 at h0
      change DataW.trod enc Try.prog w base spare held n 3 [c1] = some y1 at h1
      change DataW.trod enc Try.prog w base spare held n 58 [c2, c3, c4] = some y2 at h2
      obtain ⟨f, hf, _, wf⟩ := DataW.trod_int Try.underlying3 h0
      obtain ⟨t, ht, _, wt⟩ := DataW.trod_int Try.underlying3 h1
      obtain ⟨xs, hxs, hl3, hw⟩ := trod_ints Try.underlying58 (by kernel_rfl) (fun j f hj => by
        match j, hj with
        | 0, hj => cases hj; exact ⟨rfl, by kernel_rfl, Try.underlying3⟩
        | 1, hj => cases hj; exact ⟨rfl, by kernel_rfl, Try.underlying3⟩
        | 2, hj => cases hj; exact ⟨rfl, by kernel_rfl, Try.underlying3⟩
        | n + 3, hj => simp at hj) h2
      match xs, hl3, hw, hxs with
      | [a, b, c], _, hw, hxs =>
        simp only [List.map_cons, List.map_nil, List.cons.injEq, and_true] at hf ht hxs
        obtain ⟨rfl, rfl, rfl⟩ := hxs
        subst hf ht
        exact ⟨(f, t, a, b, c), rfl, in64_wf wf, in64_wf wt, hw a (by simp), hw b (by simp), hw c (by simp)⟩
theorem hier_el {fuel : Nat} {cs : List Value} {y : DataW H × List MemPlace}
    (h : DataW.trod enc Try.prog w base spare held fuel 25 cs = some y) : ∃ (sr sy : SV) (rank : List Int) (ways : List Wy), cs = [.slice sr.a sr.len sr.cap, .slice sy.a sy.len sy.cap] ∧ View RI w sr rank ∧ View RW w sy ways ∧
      (∀ a ∈ rank, In64 a) ∧ (∀ a ∈ ways, OkY a) ∧ rank.length ≤ maxLen ∧ ways.length ≤ maxLen := by
  obtain ⟨ys, n, _, _, hl, hyl, hel⟩ := DataW.trod_struct Try.underlying25 h
  have hl2 : cs.length = 2 := by rw [hl]; kernel_rfl
  have h0 := hel 0 _ rfl
  have h1 := hel 1 _ rfl
  match cs, hl2 with
  | [c0, c1], _ =>
    have hy : ys.length = 2 := by rw [hyl]; rfl
    match ys, hy with
    | [y0, y1], _ =>
      change DataW.trod enc Try.prog w base spare held n 22 (List.take (Try.prog.cellsOf 22) [c0, c1]) = some y0 at h0
      change DataW.trod enc Try.prog w base spare held n 23 (List.take (Try.prog.cellsOf 23) [c1]) = some y1 at h1
      have q22 : Try.prog.cellsOf 22 = 1 := by kernel_rfl
      have q23 : Try.prog.cellsOf 23 = 1 := by kernel_rfl
      rw [q22] at h0; rw [q23] at h1
      change DataW.trod enc Try.prog w base spare held n 22 [c0] = some y0 at h0
      change DataW.trod enc Try.prog w base spare held n 23 [c1] = some y1 at h1
      obtain ⟨sr, rank, hs, hv, hx, hle⟩ := open_view RI In64 Try.underlying22 (by kernel_rfl) int_el h0
      obtain ⟨sy, ways, hs2, hv2, hx2, hle2⟩ := open_view RW OkY Try.underlying23 (by kernel_rfl) short_el h1
      simp only [List.cons.injEq, and_true] at hs hs2
      subst hs hs2
      exact ⟨sr, sy, rank, ways, rfl, hv, hv2, hx, hx2, hle, hle2⟩
/-- A slice that came in is no longer than what can be reached. -/
theorem len_sized {t e : TypeId} {ts : List TypeId} {ds : List (DataW H)} {j fuel : Nat} {d : DataW H} {q : List MemPlace} {a : Option Addr} {n c : Nat} (hsz : (DataW.weightsEach Try.prog ts ds).all (· ≤ reachBytes) = true) (ht : ts[j]? = some t) (hd : ds[j]? = some d)
    (hu : Try.prog.underlying t = some (.slice e)) (hb : Nat.ble 1 (Try.prog.bytesOf e) = true) (h : DataW.trod enc Try.prog w base spare held fuel t [.slice a n c] = some (d, q)) : n < 2 ^ 47 := by
  rcases DataW.trod_slice hu h with ⟨h0, _⟩ | ⟨a', len, cap, elems, rest, m, _, h0, hx, _, _, _, hlen, _⟩
  · simp only [List.cons.injEq, Value.slice.injEq, and_true] at h0
    obtain ⟨_, rfl, _⟩ := h0; decide
  · simp only [List.cons.injEq, Value.slice.injEq, and_true] at h0
    obtain ⟨_, rfl, _⟩ := h0
    have hx1 := congrArg Prod.fst hx
    simp only at hx1
    subst hx1
    have := sized_slice hsz ht hd hu
    have h1 := reachBytes_lt
    have h2 : n * 1 ≤ ((elems.map (·.1)).length + (rest.map (·.1)).length) * Try.prog.bytesOf e := Nat.mul_le_mul (by rw [List.length_map]; omega) (Nat.le_of_ble_eq_true hb)
    omega
/-- A slice's length is no more than its room. -/
theorem slice_cap {t e : TypeId} {fuel : Nat} {y : DataW H × List MemPlace} {a : Option Addr} {n c : Nat} (hu : Try.prog.underlying t = some (.slice e)) (h : DataW.trod enc Try.prog w base spare held fuel t [.slice a n c] = some y) : n ≤ c := by
  rcases DataW.trod_slice hu h with ⟨h0, _⟩ | ⟨a', len, cap, elems, rest, m, _, h0, hx, _, _, _, hlen, _⟩
  · simp only [List.cons.injEq, Value.slice.injEq, and_true] at h0
    obtain ⟨_, rfl, rfl⟩ := h0; omega
  · simp only [List.cons.injEq, Value.slice.injEq, and_true] at h0
    obtain ⟨_, rfl, rfl⟩ := h0
    omega
end
end Go.Proofs.Ytpgkbolfbcninaa
