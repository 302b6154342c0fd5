/- A law's arguments, opened; a law's row, shut. -/
import Derived.Test.YtoomennincfkgaaMem
import Derived.ProofKit
import Derived.OpenShut
namespace Go.Sh
open Go.RowKit Go.ChangeShapes Go.WideShapes Go.ChangeAt

section
variable {H : Type} {enc : TypeId × Value → H} {P : Program} {w : World} {base : Nat} {spare : Nat → Bool} {held : Bool}

/-- A slice that came in is read. -/
theorem open_view {α : Type} (R : Rc α) (Wf : α → Prop) {t e : TypeId} {fuel : Nat} {cs : List Value} {x : DataW H × List MemPlace} (ht : P.underlying t = some (.slice e)) (hc : P.cellsOf e = R.sz)
    (hel : ∀ (fuel : Nat) (cs : List Value) (y : DataW H × List MemPlace), DataW.trod enc P w base spare held fuel e cs = some y → ∃ a : α, cs = R.enc a ∧ Wf a)
    (h : DataW.trod enc P w base spare held fuel t cs = some x) : ∃ (s : SV) (xs : List α), cs = [.slice s.a s.len s.cap] ∧ View R w s xs ∧ (∀ a ∈ xs, Wf a) ∧ xs.length ≤ maxLen := by
  rcases DataW.trod_slice ht h with ⟨h0, _⟩ | ⟨a, len, cap, elems, rest, n, _, rfl, rfl, hb, hl, hm, hlen, hels, _, _⟩
  · exact ⟨⟨none, 0, 0⟩, [], h0, ⟨rfl, fun h => absurd rfl h, fun i x hx => by simp at hx⟩, fun _ h => by simp at h, by simp [maxLen]⟩
  · have each : ∀ i, i < len → ∃ z : α, Wf z ∧ ∀ j v, (R.enc z)[j]? = some v → w.cell? ((a.add (i * R.sz)).add j) = some v := by
      intro i hi
      have h1 := hels i hi
      rw [List.getElem?_eq_getElem (by omega), hc, Option.bind_eq_some_iff] at h1
      obtain ⟨cs', hcs, hy⟩ := h1
      obtain ⟨z, rfl, hz⟩ := hel _ _ _ hy
      refine ⟨z, hz, fun j v hv => ?_⟩
      have := (World.cells?_some hcs).2.2 j (by rw [← R.len z]; exact (List.getElem?_eq_some_iff.1 hv).1)
      rw [this]; exact hv
    have spot : 0 < len → a.spot = none := fun h0 => by
      obtain ⟨z, _, hz⟩ := each 0 h0
      have hp : 0 < (R.enc z).length := by rw [R.len]; exact R.pos
      have := hz 0 _ (List.getElem?_eq_getElem hp)
      rw [Nat.zero_mul] at this
      have e0 : (a.add 0).add 0 = a := by simp [Addr.add]
      rw [e0] at this
      unfold World.cell? at this
      split at this
      · split at this
        · cases this
        · rename_i hs; simpa using hs
      · cases this
    let f : Nat → α := fun i => if h : i < len then (each i h).choose else R.z
    have hf : ∀ i (hi : i < len), Wf (f i) ∧ ∀ j v, (R.enc (f i))[j]? = some v → w.cell? ((a.add (i * R.sz)).add j) = some v := fun i hi => by
      simp only [f, dif_pos hi]; exact (each i hi).choose_spec
    refine ⟨⟨some a, len, cap⟩, (List.range len).map f, rfl, ⟨by simp, fun hne p hp => ?_, fun i x hx => ?_⟩, fun x hx => ?_, by simp; omega⟩
    · cases hp
      refine spot ?_
      rcases Nat.eq_zero_or_pos len with h0 | h0
      · subst h0; simp at hne
      · exact h0
    · have hi : i < len := by have := (List.getElem?_eq_some_iff.1 hx).1; simpa using this
      rw [List.getElem?_map, List.getElem?_range hi] at hx
      injection hx with hx
      subst hx
      refine ⟨a, rfl, fun j v hv => ?_⟩
      have := (hf i hi).2 j v hv
      have hs := spot (by omega)
      rw [add_add _ hs, add_add _ rfl] at this
      exact this
    · obtain ⟨i, hi, rfl⟩ := List.mem_map.1 hx
      exact (hf i (List.mem_range.1 hi)).1

theorem in64_wf {n : Int} (hw : (Lit.int .i64 n).wf = true) : In64 n := by
  simp only [Lit.wf, Bool.and_eq_true, decide_eq_true_eq] at hw
  have h1 : IntKind.i64.min = -9223372036854775808 := by decide
  have h2 : IntKind.i64.max = 9223372036854775807 := by decide
  rw [h1, h2] at hw
  exact ⟨hw.1, by omega⟩

/-- A struct of ints that came in. -/
theorem trod_ints {t : TypeId} {fs : Array Field} {fuel : Nat} {cs : List Value} {x : DataW H × List MemPlace} (ht : P.underlying t = some (.struct fs)) (hc : P.cellsOf t = fs.size)
    (hf : ∀ (j : Nat) (f : Field), fs[j]? = some f → f.offset = j ∧ P.cellsOf f.type = 1 ∧ P.underlying f.type = some (.int .i64))
    (h : DataW.trod enc P w base spare held fuel t cs = some x) : ∃ xs : List Int, cs = xs.map (Value.int .i64) ∧ xs.length = fs.size ∧ ∀ n ∈ xs, In64 n := by
  obtain ⟨ys, n, _, _, hl, hyl, hel⟩ := DataW.trod_struct ht h
  have each : ∀ j, j < fs.size → ∃ n, cs[j]? = some (.int .i64 n) ∧ In64 n := fun j hj => by
    obtain ⟨h1, h2, h3⟩ := hf j fs[j] (Array.getElem?_eq_getElem hj)
    have h4 := hel j fs[j] (Array.getElem?_eq_getElem hj)
    rw [List.getElem?_eq_getElem (by omega), h1, h2] at h4
    obtain ⟨m, hm, _, hw⟩ := DataW.trod_int h3 h4
    have hjl : j < cs.length := by omega
    refine ⟨m, ?_, ?_⟩
    · have : (List.take 1 (List.drop j cs))[0]? = some (Value.int .i64 m) := by rw [hm]; rfl
      rw [List.getElem?_take, if_pos (by omega), List.getElem?_drop] at this
      simpa using this
    · simp only [Lit.wf, Bool.and_eq_true, decide_eq_true_eq] at hw
      have h1 : IntKind.i64.min = -9223372036854775808 := by decide
      have h2 : IntKind.i64.max = 9223372036854775807 := by decide
      rw [h1, h2] at hw
      exact ⟨hw.1, by omega⟩
  let f : Nat → Int := fun j => if h : j < fs.size then (each j h).choose else 0
  have hfj : ∀ j, j < fs.size → cs[j]? = some (.int .i64 (f j)) ∧ In64 (f j) := fun j hj => by
    simp only [f, dif_pos hj]; exact (each j hj).choose_spec
  refine ⟨(List.range fs.size).map f, ?_, by simp, fun n hn => ?_⟩
  · apply List.ext_getElem?
    intro j
    by_cases hj : j < fs.size
    · rw [(hfj j hj).1, List.getElem?_map, List.getElem?_map, List.getElem?_range hj]; rfl
    · rw [List.getElem?_eq_none (by omega), List.getElem?_eq_none (by simp; omega)]
  · obtain ⟨j, hj, rfl⟩ := List.mem_map.1 hn
    exact (hfj j (List.mem_range.1 hj)).2

theorem trodAll_below {W W' : World} (hl : laidOutB P = true) (hB : Below W.heap.size W W') : ∀ {ts : List TypeId} {vs : List Value} {ds : List (DataW H)} {ps : List MemPlace},
    (∀ t ∈ ts, P.readableRec t = true ∧ t < P.types.size) → DataW.TrodAll enc P W 0 (fun _ => true) true ts vs ds ps → (∀ x ∈ ps, x.block < W.heap.size) →
    DataW.TrodAll enc P W' 0 (fun b => decide (b < W.heap.size)) true ts vs ds ps
  | [], vs, ds, ps, _, h, _ => by
    obtain ⟨rfl, rfl, rfl⟩ := trodAll_nil h
    exact trodAll_mk0
  | t :: ts, vs, ds, ps, hr, h, hp => by
    obtain ⟨v, vs', d, ds', p, q, rfl, rfl, rfl, h1, h2⟩ := trodAll_cons h
    exact trodAll_cons_mk (Below.trod hl (hr t List.mem_cons_self).1 (hr t List.mem_cons_self).2 h1 hB fun x hx => hp x (List.mem_append_left _ hx))
      (trodAll_below hl hB (fun t' ht' => hr t' (List.mem_cons_of_mem _ ht')) h2 fun x hx => hp x (List.mem_append_right _ hx))

/-- A law's row, behind its walk. -/
theorem law_post {f : Func} {s : ChangeSpec} {W W' : World} {args : Array Value} {ds gs : List (DataW H)} {before : List MemPlace} {tb : TypeId} (hl : laidOutB P = true) (hrb : (f.params.toList.all fun t => P.readableRec t && Nat.blt t P.types.size) = true)
    (hres : f.resultTypes = #[tb]) (htb : P.underlying tb = some .bool) (hv : s.vars = []) (hspec : s.fn H ds = { results := [.lit (.bool true)], args := ds })
    (hW : DataW.Whole enc P f.params.toList s.vars false W args.toList ds gs before) (hB : Below W.heap.size W W') : s.post enc P f false true false false W args (.bool true) W' := by
  have hr : ∀ t ∈ f.params.toList, P.readableRec t = true ∧ t < P.types.size := fun t ht => by
    have := List.all_eq_true.1 hrb t ht
    simpa using this
  have hlt := fun x hx => hW.lt x hx
  have hW' := hW
  obtain ⟨p, q, hA, hV, rfl, _, _⟩ := hW
  rw [hv] at hV
  obtain ⟨rfl, rfl⟩ := trodVars_none hV
  rw [List.append_nil] at hW' hlt
  refine ⟨ds, [], p, [], p, [], hW', ?_, ?_, ?_, hB.frame _, fun h => by cases h⟩
  · rw [hres, List.append_nil, hspec]
    exact trodAll_mk1 (shut_bool htb true)
  · rw [List.append_nil, hspec]
    exact trodAll_below hl hB hr hA hlt
  · rw [hv, List.append_nil, hspec]; rfl
end
end Go.Sh
