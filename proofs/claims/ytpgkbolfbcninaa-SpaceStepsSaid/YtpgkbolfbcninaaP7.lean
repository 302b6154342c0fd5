/- Open, RowK, SpTop: merged into one text. -/
import Derived.Test.YtpgkbolfbcninaaP2
import Derived.ProofKit
import Derived.OpenShut
import Derived.Test.YtpgkbolfbcninaaRows
import Derived.WalkKit
import Derived.SizedLaws
import Derived.Test.YtpgkbolfbcninaaP5
/- A law's arguments, opened; a law's row, shut. -/
namespace Go.Sh
open Go.RowKit Go.ChangeShapes Go.WideShapes Go.ChangeAt

section
variable {H : Type} {enc : TypeId × Value → H} {P : Program} {w : World} {base : Nat} {spare : Nat → Bool} {held : Bool}

/-- A slice that came in is read. -/
theorem open_view {α : Type} (R : Rc α) (Wf : α → Prop) {t e : TypeId} {fuel : Nat} {cs : List Value} {x : DataW H × List MemPlace} (ht : P.underlying t = some (.slice e)) (hc : P.cellsOf e = R.sz)
    (hel : ∀ (fuel : Nat) (cs : List Value) (y : DataW H × List MemPlace), DataW.trod enc P w base spare held fuel e cs = some y → ∃ a : α, cs = R.enc a ∧ Wf a)
    (h : DataW.trod enc P w base spare held fuel t cs = some x) : ∃ (s : SV) (xs : List α), cs = [.slice s.a s.len s.cap] ∧ View R w s xs ∧ (∀ a ∈ xs, Wf a) ∧ xs.length ≤ maxLen := by
  rcases DataW.trod_slice ht h with ⟨h0, _⟩ | ⟨a, len, cap, elems, rest, n, _, rfl, rfl, hb, hl, hm, hlen, hels, _, _⟩
  · exact ⟨⟨none, 0, 0⟩, [], h0, ⟨rfl, fun h => absurd rfl h, fun i x hx => by simp at hx⟩, fun _ h => by simp at h, by simp [maxLen]⟩
  · have each : ∀ i, i < len → ∃ z : α, Wf z ∧ ∀ j v, (R.enc z)[j]? = some v → w.cell? ((a.add (i * R.sz)).add j) = some v := by
      intro i hi
      have h1 := hels i hi
      rw [List.getElem?_eq_getElem (by omega), hc, Option.bind_eq_some_iff] at h1
      obtain ⟨cs', hcs, hy⟩ := h1
      obtain ⟨z, rfl, hz⟩ := hel _ _ _ hy
      refine ⟨z, hz, fun j v hv => ?_⟩
      have := (World.cells?_some hcs).2.2 j (by rw [← R.len z]; exact (List.getElem?_eq_some_iff.1 hv).1)
      rw [this]; exact hv
    have spot : 0 < len → a.spot = none := fun h0 => by
      obtain ⟨z, _, hz⟩ := each 0 h0
      have hp : 0 < (R.enc z).length := by rw [R.len]; exact R.pos
      have := hz 0 _ (List.getElem?_eq_getElem hp)
      rw [Nat.zero_mul] at this
      have e0 : (a.add 0).add 0 = a := by simp [Addr.add]
      rw [e0] at this
      unfold World.cell? at this
      split at this
      · split at this
        · cases this
        · rename_i hs; simpa using hs
      · cases this
    let f : Nat → α := fun i => if h : i < len then (each i h).choose else R.z
    have hf : ∀ i (hi : i < len), Wf (f i) ∧ ∀ j v, (R.enc (f i))[j]? = some v → w.cell? ((a.add (i * R.sz)).add j) = some v := fun i hi => by
      simp only [f, dif_pos hi]; exact (each i hi).choose_spec
    refine ⟨⟨some a, len, cap⟩, (List.range len).map f, rfl, ⟨by simp, fun hne p hp => ?_, fun i x hx => ?_⟩, fun x hx => ?_, by simp; omega⟩
    · cases hp
      refine spot ?_
      rcases Nat.eq_zero_or_pos len with h0 | h0
      · subst h0; simp at hne
      · exact h0
    · have hi : i < len := by have := (List.getElem?_eq_some_iff.1 hx).1; simpa using this
      rw [List.getElem?_map, List.getElem?_range hi] at hx
      injection hx with hx
      subst hx
      refine ⟨a, rfl, fun j v hv => ?_⟩
      have := (hf i hi).2 j v hv
      have hs := spot (by omega)
      rw [add_add _ hs, add_add _ rfl] at this
      exact this
    · obtain ⟨i, hi, rfl⟩ := List.mem_map.1 hx
      exact (hf i (List.mem_range.1 hi)).1

/-- A struct of ints that came in. -/
theorem trod_ints {t : TypeId} {fs : Array Field} {fuel : Nat} {cs : List Value} {x : DataW H × List MemPlace} (ht : P.underlying t = some (.struct fs)) (hc : P.cellsOf t = fs.size)
    (hf : ∀ (j : Nat) (f : Field), fs[j]? = some f → f.offset = j ∧ P.cellsOf f.type = 1 ∧ P.underlying f.type = some (.int .i64))
    (h : DataW.trod enc P w base spare held fuel t cs = some x) : ∃ xs : List Int, cs = xs.map (Value.int .i64) ∧ xs.length = fs.size ∧ ∀ n ∈ xs, In64 n := by
  obtain ⟨ys, n, _, _, hl, hyl, hel⟩ := DataW.trod_struct ht h
  have each : ∀ j, j < fs.size → ∃ n, cs[j]? = some (.int .i64 n) ∧ In64 n := fun j hj => by
    obtain ⟨h1, h2, h3⟩ := hf j fs[j] (Array.getElem?_eq_getElem hj)
    have h4 := hel j fs[j] (Array.getElem?_eq_getElem hj)
    rw [List.getElem?_eq_getElem (by omega), h1, h2] at h4
    obtain ⟨m, hm, _, hw⟩ := DataW.trod_int h3 h4
    have hjl : j < cs.length := by omega
    refine ⟨m, ?_, ?_⟩
    · have : (List.take 1 (List.drop j cs))[0]? = some (Value.int .i64 m) := by rw [hm]; rfl
      rw [List.getElem?_take, if_pos (by omega), List.getElem?_drop] at this
      simpa using this
    · simp only [Lit.wf, Bool.and_eq_true, decide_eq_true_eq] at hw
      have h1 : IntKind.i64.min = -9223372036854775808 := by decide
      have h2 : IntKind.i64.max = 9223372036854775807 := by decide
      rw [h1, h2] at hw
      exact ⟨hw.1, by omega⟩
  let f : Nat → Int := fun j => if h : j < fs.size then (each j h).choose else 0
  have hfj : ∀ j, j < fs.size → cs[j]? = some (.int .i64 (f j)) ∧ In64 (f j) := fun j hj => by
    simp only [f, dif_pos hj]; exact (each j hj).choose_spec
  refine ⟨(List.range fs.size).map f, ?_, by simp, fun n hn => ?_⟩
  · apply List.ext_getElem?
    intro j
    by_cases hj : j < fs.size
    · rw [(hfj j hj).1, List.getElem?_map, List.getElem?_map, List.getElem?_range hj]; rfl
    · rw [List.getElem?_eq_none (by omega), List.getElem?_eq_none (by simp; omega)]
  · obtain ⟨j, hj, rfl⟩ := List.mem_map.1 hn
    exact (hfj j (List.mem_range.1 hj)).2

theorem trodAll_below {W W' : World} (hl : laidOutB P = true) (hB : Below W.heap.size W W') : ∀ {ts : List TypeId} {vs : List Value} {ds : List (DataW H)} {ps : List MemPlace},
    (∀ t ∈ ts, P.readableRec t = true ∧ t < P.types.size) → DataW.TrodAll enc P W 0 (fun _ => true) true ts vs ds ps → (∀ x ∈ ps, x.block < W.heap.size) →
    DataW.TrodAll enc P W' 0 (fun b => decide (b < W.heap.size)) true ts vs ds ps
  | [], vs, ds, ps, _, h, _ => by
    obtain ⟨rfl, rfl, rfl⟩ := trodAll_nil h
    exact trodAll_mk0
  | t :: ts, vs, ds, ps, hr, h, hp => by
    obtain ⟨v, vs', d, ds', p, q, rfl, rfl, rfl, h1, h2⟩ := trodAll_cons h
    exact trodAll_cons_mk (Below.trod hl (hr t List.mem_cons_self).1 (hr t List.mem_cons_self).2 h1 hB fun x hx => hp x (List.mem_append_left _ hx))
      (trodAll_below hl hB (fun t' ht' => hr t' (List.mem_cons_of_mem _ ht')) h2 fun x hx => hp x (List.mem_append_right _ hx))

/-- A law's row, behind its walk. -/
theorem law_post {f : Func} {s : ChangeSpec} {W W' : World} {args : Array Value} {ds gs : List (DataW H)} {before : List MemPlace} {tb : TypeId} (hl : laidOutB P = true) (hrb : (f.params.toList.all fun t => P.readableRec t && Nat.blt t P.types.size) = true)
    (hres : f.resultTypes = #[tb]) (htb : P.underlying tb = some .bool) (hv : s.vars = []) (hspec : s.fn H ds = { results := [.lit (.bool true)], args := ds })
    (hW : DataW.Whole enc P f.params.toList s.vars false W args.toList ds gs before) (hB : Below W.heap.size W W') : s.post enc P f false true false false W args (.bool true) W' := by
  have hr : ∀ t ∈ f.params.toList, P.readableRec t = true ∧ t < P.types.size := fun t ht => by
    have := List.all_eq_true.1 hrb t ht
    simpa using this
  have hlt := fun x hx => hW.lt x hx
  have hW' := hW
  obtain ⟨p, q, hA, hV, rfl, _, _⟩ := hW
  rw [hv] at hV
  obtain ⟨rfl, rfl⟩ := trodVars_none hV
  rw [List.append_nil] at hW' hlt
  refine ⟨ds, [], p, [], p, [], hW', ?_, ?_, ?_, hB.frame _, fun h => by cases h⟩
  · rw [hres, List.append_nil, hspec]
    exact trodAll_mk1 (shut_bool htb true)
  · rw [List.append_nil, hspec]
    exact trodAll_below hl hB hr hA hlt
  · rw [hv, List.append_nil, hspec]; rfl
end
end Go.Sh

/- What this seat's rows lean on: inputs, opened; printed by row.py of these sessions. -/
set_option maxRecDepth 100000
set_option linter.unusedVariables false
namespace Go.Proofs.Ytpgkbolfbcninaa
open Go.ChangeShapes Go.WideShapes Go.ChangeAt Go.RowKit Go.Sh

theorem ownK : ownKnob Try.prog.godebug = none := by kernel_rfl
theorem laidK : laidOutB Try.prog = true := by kernel_rfl
def OkD (a : Int × Int × Int) : Prop := In64 a.1 ∧ In64 a.2.1 ∧ In64 a.2.2
section
variable {H : Type} {enc : TypeId × Value → H} {w : World} {base : Nat} {spare : Nat → Bool} {held : Bool}
theorem u8_wf {n : Int} (wo : (Lit.int .u8 n).wf = true) : 0 ≤ n ∧ n < 256 := by
  simp only [Lit.wf, Bool.and_eq_true, decide_eq_true_eq] at wo
  have h1 : IntKind.u8.min = 0 := by decide
  have h2 : IntKind.u8.max = 255 := by decide
  rw [h1, h2] at wo
  exact ⟨wo.1, by omega⟩
theorem arc_el (fuel : Nat) (cs : List Value) (y : DataW H × List MemPlace)
    (h : DataW.trod enc Try.prog w base spare held fuel 92 cs = some y) : ∃ a : Int × Int × Int, cs = RD.enc a ∧ OkD a := by
  obtain ⟨xs, rfl, hl, hw⟩ := trod_ints Try.underlying92 (by kernel_rfl) (fun j f hj => by
    match j, hj with
    | 0, hj => cases hj; exact ⟨rfl, by kernel_rfl, Try.underlying3⟩
    | 1, hj => cases hj; exact ⟨rfl, by kernel_rfl, Try.underlying3⟩
    | 2, hj => cases hj; exact ⟨rfl, by kernel_rfl, Try.underlying3⟩
    | n + 3, hj => simp at hj) h
  match xs, hl, hw with
  | [a, b, c], _, hw => exact ⟨(a, b, c), rfl, hw a (by simp), hw b (by simp), hw c (by simp)⟩
end
end Go.Proofs.Ytpgkbolfbcninaa

/- SpaceTop, SpaceSteps. -/
set_option maxRecDepth 100000
namespace Go.Sh
open Go.RowKit

section
variable {CV : CVT} {w : World}

theorem SpaceTop_ok (hcv : SpaceCV CV) {n0 a0 : Int} {s : SV} {arcs0 : List Arc} {K : Bool → World → Prop} (h : View RD w s arcs0) (ha : 0 ≤ a0 ∧ a0 < 256) (hk : ∀ w', Ext w w' → K true w') : sh_postroadlaw11_SpaceTop CV n0 s a0 K w := by
  unfold sh_postroadlaw11_SpaceTop
  refine Of07_ok h fun x1 s2 w3 arcs e3 h1 h12 ok _ hA fA => ?_
  intro b4 w5 e5 g4 g4' w6 o6
  have z3 := e3.size; have z5 := e5.size; have z6 := o6.size
  have e36 : Ext w3 w6 := ext_off e5 o6 g4
  obtain ⟨n, rfl⟩ := Int.eq_ofNat_of_zero_le (show 0 ≤ x1 by omega)
  refine Of9_ok (hA.ext e36).view ok (by omega) fun s7 s8 w9 rank ways e9 hR hW fR fW dRW hM => ⟨kp1 e9 (by omega), ?_⟩
  have z9 := e9.size
  have e09 := (e3.trans e36).trans e9
  have hok := hM.ok
  have fit := hM.fit (by omega)
  have hrn := hM.n
  refine HNew_ok hR.view hW.view (by have := hok.n; omega) (by have := hok.k; omega) (fun _ p w11 F e11 hH hF => ⟨kp1 e11 (by omega), ?_⟩) fun hno => absurd hok hno
  have z11 := e11.size
  have e011 := e09.trans e11
  have kn : ∀ {wa}, w6.heap.size ≤ wa.heap.size → Ext w wa → sh_postroadlaw11_known CV (fun t w8 => Keeps [b4] wa w8 ∧ K t w8) wa := fun {wa} hz ea =>
    known11_ok hcv fun w6 e6 => ⟨kp1 e6 (by omega), hk w6 (ea.trans e6)⟩
  rw [show IntKind.i64.wrap ((n : Int) - 1) = ((n - 1 : Nat) : Int) by rw [w64 (by omega) (by omega)]; omega]
  refine HAt_ok hH fun x12 hx12 => ⟨kp1 (.refl _) (by omega), ?_⟩
  obtain ⟨t, ht, htr⟩ := okR_onto hok.r (show n - 1 < rank.length by omega)
  have hx : x12 = (t : Int) := hx12.uniq hok.r (.inl ⟨t, ht, htr, rfl⟩)
  subst hx
  have hal : ∀ back v x, ¬ ES rank ways rank.length back t v x := fun back v x e => by
    have h1 := ES_rise hok e
    have hvn := ES_dom fit _ _ _ e ht
    have h2 := (okR_rk hok hvn).2
    rw [← rk_get ht, htr] at h1
    omega
  have hone : ∀ back, rowsL rank.length (clF rank ways rank.length back t) (fun _ => true) = [((t : Int), 0)] := fun back => rows_alone ht (cl_alone fit ht (hal back)) rfl
  refine Forward_ok hcv hH fit fun s14 w15 e15 h14 _ => ⟨kp1 e15 (by omega), ?_⟩
  have z15 := e15.size
  rw [hone] at h14
  rw [show ((s14.len : Int) != 1) = false by rw [h14.view.len]; rfl, cond_false]
  refine Back_ok hcv (hH.ext e15) fit fun s16 w17 e17 h16 _ => ⟨kp1 e17 (by omega), ?_⟩
  have z17 := e17.size
  rw [hone] at h16
  rw [show ((s16.len : Int) != 1) = false by rw [h16.view.len]; rfl, cond_false]
  have e1117 := e15.trans e17
  refine rAll_ok ok (by omega) (hA.ext ((e36.trans e9).trans (e11.trans e1117))).view fun s18 svs w19 e19 hT fT _ => ⟨kp1 e19 (by omega), ?_⟩
  have z19 := e19.size
  rw [if_neg (by omega)]
  have hv : 0 ≤ (IntKind.i64.wrap a0).tmod (n : Int) ∧ (IntKind.i64.wrap a0).tmod (n : Int) < n := by
    rw [w64 (by omega) (by omega), Int.tmod_eq_emod_of_nonneg ha.1]
    exact ⟨Int.emod_nonneg _ (by omega), Int.emod_lt_of_pos _ (by omega)⟩
  obtain ⟨v, hve⟩ := Int.eq_ofNat_of_zero_le hv.1
  rw [hve] at hv ⊢
  have hvn : v < rank.length := by omega
  have hrk : ∀ u : Nat, u < rank.length → rankF rank (u : Int) = rkA rank (u : Int) := fun u hu => by unfold rankF; rw [if_pos (by omega)]
  have hbig : ∀ {f q}, (rowsL rank.length f q).length ≤ 12 := fun {f q} => by have := rowsL_len rank.length f q; omega
  have lsv : svs.length = n := by rw [hT.len, allL_len]
  have e019 := e011.trans (e1117.trans e19)
  refine Forward_ok hcv (hH.ext (e1117.trans e19)) fit fun s20 w21 e21 h20 _ => ⟨kp1 e21 (by omega), ?_⟩
  have z21 := e21.size
  have cls := fun back u => clF_is (top := (rank.length : Int)) (back := back) fit hvn u
  have rise : ∀ back u, 0 ≤ clF rank ways rank.length back v u → rkA rank (v : Int) ≤ rkA rank (u : Int) := fun back u h0 => by
    rcases wk_rise hok ((cls back u).wk h0) with e | e
    · rw [e]; exact Int.le_refl _
    · omega
  have near : ∀ u, 0 ≤ clF rank ways rank.length false v u → 0 ≤ dst arcs v u ∧ dst arcs v u ≤ clF rank ways rank.length false v u := fun u h0 => (dst_is ok v u).min ((wk_map hM).1 ((cls false u).wk h0))
  have near' : ∀ u, 0 ≤ clF rank ways rank.length true v u → 0 ≤ dst arcs u v ∧ dst arcs u v ≤ clF rank ways rank.length true v u := fun u h0 => (dst_is ok u v).min ((wk_map hM).2 ((cls true u).wk h0))
  have v20 := h20.view
  have l20 := v20.len
  have hH21 := hH.ext ((e1117.trans e19).trans e21)
  refine Join.cut (fun _ w' => Ext w21 w') (fun J hJ => ?_) ?_
  · refine LoopT.gh (γ := Nat) (fun i (st : Int × Unit) w' => st.1 = i ∧ i ≤ (rowsL rank.length (clF rank ways rank.length false v) fun _ => true).length ∧ Ext w21 w') (fun i => (rowsL rank.length (clF rank ways rank.length false v) fun _ => true).length - i) 0 ⟨rfl, Nat.zero_le _, .refl _⟩ ?_
    rintro i ⟨x, _⟩ w25 ⟨hx, hi, e25⟩ J1 hJ1
    simp only at hx; subst hx
    dsimp only
    have hbg := @hbig (clF rank ways rank.length false v) (fun _ => true)
    rw [Bool.cond_decide]
    by_cases hc : (i : Int) < (s20.len : Int)
    · rw [if_pos hc]
      have hi' : i < (rowsL rank.length (clF rank ways rank.length false v) fun _ => true).length := by omega
      obtain ⟨u, hu, hu0, _, hue⟩ := rowsL_mem.1 (List.getElem_mem hi')
      have z25 := e25.size
      have hTa := hT.ext (e21.trans e25)
      refine slot_idx hTa.so.view (show v < svs.length by omega) fun p hp => ⟨svs[v]'(by omega), hp, ?_⟩
      have hrow := (hTa.row v (by omega) (by rw [allL_len]; omega)).view
      rw [allL_get] at hrow
      unfold distL at hrow
      rw [if_pos (by omega), Int.toNat_natCast, Int.toNat_natCast] at hrow
      refine re_idx (v20.ext e25) hi' fun _ a0 _ => ⟨_, a0, ?_⟩
      rw [hue]
      refine fi_rd hrow (show u < n by omega) fun p hp => ⟨_, hp, ?_⟩
      intro w32 e32
      have z32 := e32.size
      refine re_idx (v20.ext (e25.trans e32)) hi' fun _ a0 _ => ⟨_, a0, ?_⟩
      rw [hue]
      refine Rank_ok (hH21.ext (e25.trans e32)) ⟨kp1 (.refl _) (by omega), ?_⟩
      refine Rank_ok (hH21.ext (e25.trans e32)) ⟨kp1 (.refl _) (by omega), ?_⟩
      rw [hrk u hu, hrk v hvn]
      have r1 := rise false u hu0
      obtain ⟨q1, q2⟩ := near u hu0
      rw [Bool.cond_decide, if_neg (by omega), Bool.cond_decide, if_neg (by omega)]
      refine re_idx (v20.ext (e25.trans e32)) hi' fun _ _ a1 => ⟨_, a1, ?_⟩
      rw [hue, Bool.cond_decide, if_neg (by dsimp only; omega)]
      exact hJ1 (i + 1) _ _ ⟨wsucc (m := 2 ^ 40) (by omega) (by omega), by omega, e25.trans e32⟩ (by omega)
    · rw [if_neg hc]; exact hJ _ _ e25
  rintro _ w42 e42
  have z42 := e42.size
  refine Back_ok hcv (hH21.ext e42) fit fun s43 w44 e44 h43 _ => ⟨kp1 e44 (by omega), ?_⟩
  have z44 := e44.size
  have v43 := h43.view
  have l43 := v43.len
  have hH44 := hH21.ext (e42.trans e44)
  refine Join.cut (fun _ w' => Ext w44 w') (fun J hJ => ?_) ?_
  · refine LoopT.gh (γ := Nat) (fun i (st : Int × Unit) w' => st.1 = i ∧ i ≤ (rowsL rank.length (clF rank ways rank.length true v) fun _ => true).length ∧ Ext w44 w') (fun i => (rowsL rank.length (clF rank ways rank.length true v) fun _ => true).length - i) 0 ⟨rfl, Nat.zero_le _, .refl _⟩ ?_
    rintro i ⟨x, _⟩ w48 ⟨hx, hi, e48⟩ J1 hJ1
    simp only at hx; subst hx
    dsimp only
    have hbg := @hbig (clF rank ways rank.length true v) (fun _ => true)
    rw [Bool.cond_decide]
    by_cases hc : (i : Int) < (s43.len : Int)
    · rw [if_pos hc]
      have hi' : i < (rowsL rank.length (clF rank ways rank.length true v) fun _ => true).length := by omega
      obtain ⟨u, hu, hu0, _, hue⟩ := rowsL_mem.1 (List.getElem_mem hi')
      have z48 := e48.size
      refine re_idx (v43.ext e48) hi' fun _ a0 _ => ⟨_, a0, ?_⟩
      rw [hue]
      have hTa := hT.ext ((e21.trans e42).trans (e44.trans e48))
      refine slot_idx hTa.so.view (show u < svs.length by omega) fun p hp => ⟨svs[u]'(by omega), hp, ?_⟩
      have hrow := (hTa.row u (by omega) (by rw [allL_len]; omega)).view
      rw [allL_get] at hrow
      unfold distL at hrow
      rw [if_pos (by omega), Int.toNat_natCast, Int.toNat_natCast] at hrow
      refine fi_rd hrow (show v < n by omega) fun p hp => ⟨_, hp, ?_⟩
      refine re_idx (v43.ext e48) hi' fun _ a0 _ => ⟨_, a0, ?_⟩
      rw [hue]
      refine Rank_ok (hH44.ext e48) ⟨kp1 (.refl _) (by omega), ?_⟩
      refine Rank_ok (hH44.ext e48) ⟨kp1 (.refl _) (by omega), ?_⟩
      rw [hrk u hu, hrk v hvn]
      have r1 := rise true u hu0
      obtain ⟨q1, q2⟩ := near' u hu0
      rw [Bool.cond_decide, if_neg (by omega), Bool.cond_decide, if_neg (by omega)]
      refine re_idx (v43.ext e48) hi' fun _ _ a1 => ⟨_, a1, ?_⟩
      rw [hue, Bool.cond_decide, if_neg (by dsimp only; omega)]
      exact hJ1 (i + 1) _ _ ⟨wsucc (m := 2 ^ 40) (by omega) (by omega), by omega, e48⟩ (by omega)
    · rw [if_neg hc]; exact hJ _ _ e48
  rintro _ w64 e64
  have z64 := e64.size
  exact kn (by omega) ((e019.trans e21).trans ((e42.trans e44).trans e64))

theorem Way_H_quiet {p : Option Addr} {rank : List Int} {ways : List Wy} {F : Nat → Prop} {k : Int} {r : Int × Int × Int × Int × Int × Bool} {K : Int × Int × Int × Int × Int × Bool → Prop} (h : HierA w p rank ways F)
    (hr : (∃ i : Nat, ∃ hi : i < ways.length, k = (i : Int) ∧ r = (yF ways[i], yT ways[i], yW ways[i], yM ways[i], yA ways[i], true)) ∨ ¬ (0 ≤ k ∧ k < (ways.length : Int)) ∧ r = (0, 0, 0, 0, 0, false)) (hk : K r) :
    Quiet (Int × Int × Int × Int × Int × Bool) (fun r62 => (.tuple #[(.agg #[(.int .i64 r62.1), (.int .i64 r62.2.1), (.int .i64 r62.2.2.1), (.int .i64 r62.2.2.2.1), (.int .i64 r62.2.2.2.2.1)]), (.bool r62.2.2.2.2.2)])) (fun K63 w64' => sh_hier_Hier_Way p k (fun x56 x57 x58 x59 x60 t61 w64 => K63 (x56, x57, x58, x59, x60, t61) w64) w64') w K :=
  Quiet.mk r (fun w' e K' hK' => HWay_ok (h.ext e) (fun i hki hi w'' e'' => by
    rcases hr with ⟨j, hj, hkj, rfl⟩ | ⟨hno, _⟩
    · have : j = i := by omega
      subst this; exact hK' w'' e''
    · exact absurd ⟨by omega, by omega⟩ hno) fun hno w'' e'' => by
    rcases hr with ⟨j, hj, hkj, _⟩ | ⟨_, rfl⟩
    · exact absurd ⟨by omega, by omega⟩ hno
    · exact hK' w'' e'') hk

theorem SpaceSteps_ok (hcv : SpaceCV CV) {n0 a0 : Int} {s : SV} {arcs0 : List Arc} {K : Bool → World → Prop} (h : View RD w s arcs0) (ha : 0 ≤ a0 ∧ a0 < 256) (hk : ∀ w', Ext w w' → K true w') : sh_postroadlaw11_SpaceSteps CV n0 s a0 K w := by
  unfold sh_postroadlaw11_SpaceSteps
  refine Of07_ok h fun x1 s2 w3 arcs e3 h1 h12 ok _ hA fA => ?_
  intro b4 w5 e5 g4 g4' w6 o6
  have z3 := e3.size; have z5 := e5.size; have z6 := o6.size
  have e36 : Ext w3 w6 := ext_off e5 o6 g4
  obtain ⟨n, rfl⟩ := Int.eq_ofNat_of_zero_le (show 0 ≤ x1 by omega)
  refine Of9_ok (hA.ext e36).view ok (by omega) fun s7 s8 w9 rank ways e9 hR hW fR fW dRW hM => ⟨kp1 e9 (by omega), ?_⟩
  have z9 := e9.size
  have e09 := (e3.trans e36).trans e9
  have hok := hM.ok
  have fit := hM.fit (by omega)
  have hrn := hM.n
  refine HNew_ok hR.view hW.view (by have := hok.n; omega) (by have := hok.k; omega) (fun _ p w11 F e11 hH hF => ⟨kp1 e11 (by omega), ?_⟩) fun hno => absurd hok hno
  have z11 := e11.size
  have e011 := e09.trans e11
  have kn : ∀ {wa}, w6.heap.size ≤ wa.heap.size → Ext w wa → sh_postroadlaw11_known CV (fun t w8 => Keeps [b4] wa w8 ∧ K t w8) wa := fun {wa} hz ea =>
    known11_ok hcv fun w6 e6 => ⟨kp1 e6 (by omega), hk w6 (ea.trans e6)⟩
  rw [if_neg (by omega)]
  have hv : 0 ≤ (IntKind.i64.wrap a0).tmod (n : Int) ∧ (IntKind.i64.wrap a0).tmod (n : Int) < n := by
    rw [w64 (by omega) (by omega), Int.tmod_eq_emod_of_nonneg ha.1]
    exact ⟨Int.emod_nonneg _ (by omega), Int.emod_lt_of_pos _ (by omega)⟩
  obtain ⟨v, hve⟩ := Int.eq_ofNat_of_zero_le hv.1
  rw [hve] at hv ⊢
  have hvn : v < rank.length := by omega
  have hrk : ∀ u : Nat, u < rank.length → rankF rank (u : Int) = rkA rank (u : Int) := fun u hu => by unfold rankF; rw [if_pos (by omega)]
  have cls := fun u => clF_is (top := (rank.length : Int)) (back := false) fit hvn u
  have hpos := ES_pos (top := (rank.length : Int)) (back := false) fit
  have hdom := ES_dom (top := (rank.length : Int)) (back := false) fit
  generalize hf : clF rank ways rank.length false v = f at cls
  have fself : f v = 0 := (cls v).uniq (IsD.self hpos)
  have fle : ∀ u, u < rank.length → f u ≤ 25332747903959040 := fun u hu => by
    rcases (cls u).ge with h | h
    · omega
    · have h1 := wk_len fit ((cls u).wk h)
      have h2 := okR_rk hok hu
      have h3 := okR_rk hok hvn
      omega
  refine Forward_ok hcv hH fit fun s12 w13 e13 hO12 _ => ⟨kp1 e13 (by omega), ?_⟩
  rw [hf] at hO12
  have z13 := e13.size
  have v12 := hO12.view
  have l12 := v12.len
  have hbig := rowsL_len rank.length f fun _ => true
  have hpw := rowsL_pw rank.length f fun _ => true
  have find : ∀ u, u < rank.length → 0 ≤ f u → findR (rowsL rank.length f fun _ => true) (u : Int) = f u := fun u hu h0 => findR_rows hu h0 rfl
  have memL : ∀ e, e ∈ (rowsL rank.length f fun _ => true) ↔ ∃ u : Nat, u < rank.length ∧ 0 ≤ f u ∧ e = ((u : Int), f u) := fun e => by
    rw [rowsL_mem]
    exact exists_congr fun u => ⟨fun ⟨a, b, _, d⟩ => ⟨a, b, d⟩, fun ⟨a, b, d⟩ => ⟨a, b, rfl, d⟩⟩
  generalize (rowsL rank.length f fun _ => true) = l at v12 l12 hbig hpw find memL
  clear hO12
  refine Find_ok v12 (by omega) fun w15 e15 => ⟨kp1 e15 (by omega), ?_⟩
  have z15 := e15.size
  rw [find v hvn (by omega), fself, show ((0 : Int) != 0) = false from rfl, cond_false]
  have hH15 := hH.ext (e13.trans e15)
  have v15 := v12.ext e15
  have e015 := e011.trans (e13.trans e15)
  refine Join.cut (fun _ w' => Ext w15 w') (fun J hJ => ?_) ?_
  · refine LoopT.gh (γ := Nat) (fun i (st : Int × Unit) w' => st.1 = i ∧ i ≤ l.length ∧ Ext w15 w') (fun i => l.length - i) 0 ⟨rfl, Nat.zero_le _, .refl _⟩ ?_
    rintro i ⟨x, _⟩ w19 ⟨hx, hi, e19⟩ J1 hJ1
    simp only at hx; subst hx
    dsimp only
    have z19 := e19.size
    rw [Bool.cond_decide]
    by_cases hc : (i : Int) < (s12.len : Int)
    · rw [if_pos hc]
      have hi' : i < l.length := by omega
      obtain ⟨u, hu, hu0, hue⟩ := (memL l[i]).1 (List.getElem_mem hi')
      refine Join.cut (fun _ w' => Ext w15 w') (fun J2 hJ2 => ?_) fun _ w102 e102 => hJ1 (i + 1) _ _ ⟨wsucc (m := 2 ^ 40) (by omega) (by omega), by omega, e102⟩ (by omega)
      refine re_idx (v15.ext e19) hi' fun _ a0 _ => ⟨_, a0, ?_⟩
      rw [hue]
      refine Up_ok (v := (u : Int)) (hH15.ext e19) fun s23 w24 e24 hU _ => ⟨kp1 e24 (by omega), ?_⟩
      have z24 := e24.size
      have vU := hU.view
      have lU := vU.len
      have hUl := upF_lt hok (u : Int)
      have e24' := e19.trans e24
      refine Join.cut (fun _ w' => Ext w24 w') (fun J3 hJ3 => ?_) ?_
      · refine LoopT.gh (γ := Nat) (fun j (st : Int × Unit) w' => st.1 = j ∧ j ≤ (upF rank ways (u : Int)).length ∧ Ext w24 w') (fun j => (upF rank ways (u : Int)).length - j) 0 ⟨rfl, Nat.zero_le _, .refl _⟩ ?_
        rintro j ⟨x, _⟩ w28 ⟨hx, hj, e28⟩ J4 hJ4
        simp only at hx; subst hx
        dsimp only
        have z28 := e28.size
        rw [Bool.cond_decide]
        by_cases hcj : (j : Int) < (s23.len : Int)
        · rw [if_pos hcj]
          have hj' : j < (upF rank ways (u : Int)).length := by omega
          obtain ⟨k, hkk, k1, k2, hke⟩ := upF_mem (List.getElem_mem hj')
          have hokk := hok.f k hkk; unfold OkF at hokk
          have hWb := hM.b _ (List.getElem_mem hkk)
          obtain ⟨t, ht⟩ := Int.eq_ofNat_of_zero_le (show 0 ≤ yT ways[k] by omega)
          have htn : t < rank.length := by omega
          have hE : ES rank ways rank.length false u t (yW ways[k]) := ES_of hok hkk k1 ht (okR_rk hok hu).2 (by unfold IsUp at k2; rw [k1, ht] at k2; exact k2)
          have hmin := (cls t).min (((cls u).wk hu0).snoc hE)
          refine do_idx (vU.ext e28) hj' fun _ a0 _ _ => ⟨_, a0, ?_⟩
          rw [hke]
          simp only [ht]
          refine Find_ok (v15.ext (e24'.trans e28)) (by omega) fun w32 e32 => ⟨kp1 e32 (by omega), ?_⟩
          rw [find t htn hmin.1, Bool.cond_decide, if_neg (by omega)]
          refine re_idx (v15.ext ((e24'.trans e28).trans e32)) hi' fun _ _ a1 => ⟨_, a1, ?_⟩
          refine do_idx (vU.ext (e28.trans e32)) hj' fun _ _ a1 _ => ⟨_, a1, ?_⟩
          intro w38 e38
          have := fle u hu
          rw [hue, hke, Bool.cond_decide, if_neg (by dsimp only; rw [w64 (by omega) (by omega)]; omega)]
          exact hJ4 (j + 1) _ _ ⟨wsucc (m := 2 ^ 40) (by omega) (by omega), by omega, (e28.trans e32).trans e38⟩ (by omega)
        · rw [if_neg hcj]; exact hJ3 _ _ e28
      rintro _ w40 e40
      have z40 := e40.size
      have e40' := e24'.trans e40
      refine re_idx (v15.ext e40') hi' fun _ a0 _ => ⟨_, a0, ?_⟩
      rw [hue]
      -- made up
      have good : u = v ∨ ∃ j, ∃ hj : j < l.length, ∃ a k : Nat, ∃ hkk : k < ways.length, a < rank.length ∧ l[j] = ((a : Int), f a) ∧ yF ways[k] = (a : Int) ∧ yT ways[k] = (u : Int) ∧ findW ways (a : Int) (u : Int) = some k ∧ rkA rank (u : Int) > rkA rank (a : Int) ∧ f u = f a + yW ways[k] := by
        have hw := (cls u).wk hu0
        by_cases e : u = v
        · exact .inl e
        · right
          generalize hd : f u = d at hw
          cases hw with
          | nil => exact absurd rfl e
          | @snoc a _ y x hw' hE =>
            obtain ⟨k, hkk, k1, k2, k3, k4, k5⟩ := ES_way hok hE
            have k1 : yF ways[k] = (a : Int) := k1
            have k2 : yT ways[k] = (u : Int) := k2
            have han : a < rank.length := hE.1
            have m1 := (cls a).min hw'
            have m2 := (cls u).min (((cls a).wk m1.1).snoc hE)
            obtain ⟨j, hj, hje⟩ := List.getElem_of_mem ((memL ((a : Int), f a)).2 ⟨a, han, m1.1, rfl⟩)
            have hfk := hok.f.find hkk
            rw [k1, k2] at hfk
            exact ⟨j, hj, a, k, hkk, han, hje, k1, k2, hfk, k5, by rw [k3]; omega⟩
      refine Join.cut (fun (x : Bool × Unit) w' => Ext w40 w' ∧ x.1 = true) (fun J5 hJ5 => ?_) ?_
      · refine LoopT.gh (γ := Nat) (fun j (st : Bool × Int × Unit) w' => st.2.1 = j ∧ j ≤ l.length ∧ Ext w40 w' ∧ (st.1 = true ∨ ∃ j', j ≤ j' ∧ ∃ hj : j' < l.length, ∃ a k : Nat, ∃ hkk : k < ways.length, a < rank.length ∧ l[j'] = ((a : Int), f a) ∧ yF ways[k] = (a : Int) ∧ yT ways[k] = (u : Int) ∧ findW ways (a : Int) (u : Int) = some k ∧ rkA rank (u : Int) > rkA rank (a : Int) ∧ f u = f a + yW ways[k])) (fun j => l.length - j) 0 ⟨rfl, Nat.zero_le _, .refl _, ?_⟩ ?_
        · rcases good with e | ⟨j, hj, r⟩
          · left; rw [e]; exact beq_self_eq_true _
          · right; exact ⟨j, Nat.zero_le _, hj, r⟩
        rintro j ⟨made, x, _⟩ w46 ⟨hx, hj, e46, hgood⟩ J6 hJ6
        simp only at hx hgood; subst hx
        dsimp only
        have z46 := e46.size
        rw [Bool.cond_decide]
        by_cases hcj : (j : Int) < (s12.len : Int)
        · rw [if_pos hcj]
          have hj' : j < l.length := by omega
          obtain ⟨a, han, ha0, hae⟩ := (memL l[j]).1 (List.getElem_mem hj')
          have e46' := e40'.trans e46
          refine Join.cut (fun (x : Bool × Unit) w' => Ext w40 w' ∧ (x.1 = true ∨ ∃ j', j + 1 ≤ j' ∧ ∃ hj : j' < l.length, ∃ a k : Nat, ∃ hkk : k < ways.length, a < rank.length ∧ l[j'] = ((a : Int), f a) ∧ yF ways[k] = (a : Int) ∧ yT ways[k] = (u : Int) ∧ findW ways (a : Int) (u : Int) = some k ∧ rkA rank (u : Int) > rkA rank (a : Int) ∧ f u = f a + yW ways[k])) (fun J7 hJ7 => ?_) ?_
          · -- what is good further on, or here
            have later : ∀ (b : Bool) (w' : World), Ext w40 w' → (made = true → b = true) → ((∃ k : Nat, ∃ hkk : k < ways.length, findW ways (a : Int) (u : Int) = some k ∧ rkA rank (u : Int) > rkA rank (a : Int) ∧ f u = f a + yW ways[k]) → b = true) → J7 (b, ()) w' := fun b w' e hm hb => hJ7 _ _ ⟨e, by
              rcases hgood with h | ⟨j', hjj, hj'', a', k, hkk, ha', hl, k1, k2, k3, k4, k5⟩
              · exact .inl (hm h)
              · by_cases e : j' = j
                · subst e
                  rw [hae] at hl
                  have : a = a' := by have := congrArg Prod.fst hl; simp only at this; omega
                  subst this
                  exact .inl (hb ⟨k, hkk, k3, k4, k5⟩)
                · exact .inr ⟨j', by omega, hj'', a', k, hkk, ha', hl, k1, k2, k3, k4, k5⟩⟩
            refine re_idx (v15.ext e46') hj' fun _ a0 _ => ⟨_, a0, ?_⟩
            refine re_idx (v15.ext e46') hi' fun _ a0 _ => ⟨_, a0, ?_⟩
            rw [hae, hue]
            have hH46 := hH15.ext e46'
            refine HFind_quiet hH46 ?_
            have next : ∀ (r : Int × Int × Int × Int × Int × Bool), (r.2.2.2.2.2 = false ∧ findW ways (a : Int) (u : Int) = none ∨ ∃ k : Nat, ∃ hkk : k < ways.length, findW ways (a : Int) (u : Int) = some k ∧ r.2.2.2.2.2 = true ∧ r.2.2.1 = yW ways[k] ∧ 0 ≤ yW ways[k] ∧ yW ways[k] ≤ 1125899906842624) →
                (∀ b65 w66, Ext w46 w66 → w46.heap.size ≤ b65 → b65 < w66.heap.size → (∀ w67, Ext w66 w67 → (∀ w68, Off b65 w67 w68 → (∀ w69, Ext w68 w69 → (cond made (∀ w70, Ext w69 w70 → (J7 (true, ()) w70)) (cond r.2.2.2.2.2 (Idx s12.a s12.len (i : Int) 2 (fun a71 => (∃ x72 : Int, w69.cell? (a71.add 0) = some (.int .i64 x72) ∧
                  (Quiet (Int) (fun r74 => (.int .i64 r74)) (fun K75 w76' => sh_hier_Hier_Rank p x72 (fun x73 w76 => K75 x73 w76) w76') w69 (fun r74 => (Idx s12.a s12.len (j : Int) 2 (fun a77 => (∃ x78 : Int, w69.cell? (a77.add 0) = some (.int .i64 x78) ∧
                  (Quiet (Int) (fun r80 => (.int .i64 r80)) (fun K81 w82' => sh_hier_Hier_Rank p x78 (fun x79 w82 => K81 x79 w82) w82') w69 (fun r80 => (cond (decide (r74 > r80)) (Idx s12.a s12.len (i : Int) 2 (fun a83 => (∃ x84 : Int, w69.cell? (a83.add 1) = some (.int .i64 x84) ∧ (Idx s12.a s12.len (j : Int) 2 (fun a85 => (∃ x86 : Int, w69.cell? (a85.add 1) = some (.int .i64 x86) ∧
                  (∀ w87, Ext w69 w87 → (J7 (x84 == (IntKind.i64.wrap (x86 + r.2.2.1)), ()) w87)))))))) (∀ w88, Ext w69 w88 → (J7 (false, ()) w88))))))))))))) (∀ w89, Ext w69 w89 → (J7 (false, ()) w89)))))))) := fun r hr b65 w66 e66 g65 g65' w67 e67 w68 o68 w69 e69 => by
              have e69' : Ext w46 w69 := (ext_off (e66.trans e67) o68 g65).trans e69
              have e40a := e46.trans e69'
              have e15a := e46'.trans e69'
              cases made with
              | true => rw [cond_true]; intro w70 e70; exact later true w70 (e40a.trans e70) (fun _ => rfl) fun _ => rfl
              | false =>
                rw [cond_false]
                rcases hr with ⟨hr1, hr2⟩ | ⟨k, hkk, hr1, hr2, hr3, hr4, hr5⟩
                · rw [hr1, cond_false]
                  intro w89 e89
                  exact later false w89 (e40a.trans e89) (fun q => by cases q) fun ⟨k, _, h, _⟩ => by rw [hr2] at h; cases h
                · rw [hr2, cond_true]
                  refine re_idx (v15.ext e15a) hi' fun _ a0 _ => ⟨_, a0, ?_⟩
                  rw [hue]
                  refine Rank_quiet (hH15.ext e15a) ?_
                  refine re_idx (v15.ext e15a) hj' fun _ a0 _ => ⟨_, a0, ?_⟩
                  rw [hae]
                  refine Rank_quiet (hH15.ext e15a) ?_
                  rw [hrk u hu, hrk a han, Bool.cond_decide]
                  by_cases hgt : rkA rank (u : Int) > rkA rank (a : Int)
                  · rw [if_pos hgt]
                    refine re_idx (v15.ext e15a) hi' fun _ _ a1 => ⟨_, a1, ?_⟩
                    refine re_idx (v15.ext e15a) hj' fun _ _ a1 => ⟨_, a1, ?_⟩
                    intro w87 e87
                    refine later _ w87 (e40a.trans e87) (fun q => by cases q) fun ⟨k', _, h1, _, h3⟩ => ?_
                    rw [hr1] at h1
                    injection h1 with h1
                    subst h1
                    have := fle a han
                    rw [hue, hae, hr3, beq_iff_eq]
                    dsimp only
                    rw [w64 (by omega) (by omega)]; exact h3
                  · rw [if_neg hgt]
                    intro w88 e88
                    exact later false w88 (e40a.trans e88) (fun q => by cases q) fun ⟨_, _, _, h, _⟩ => absurd h hgt
            cases hfw : findW ways (a : Int) (u : Int) with
            | none =>
              refine Way_H_quiet hH46 (r := (0, 0, 0, 0, 0, false)) (.inr ⟨by show ¬ (0 ≤ (-1 : Int) ∧ _); omega, rfl⟩) ?_
              exact next _ (.inl ⟨rfl, hfw⟩)
            | some k =>
              obtain ⟨hkk, k1, k2, _⟩ := findW_some hfw
              have hokk := hok.f k hkk; unfold OkF at hokk
              refine Way_H_quiet hH46 (r := (yF ways[k], yT ways[k], yW ways[k], yM ways[k], yA ways[k], true)) (.inl ⟨k, hkk, rfl, rfl⟩) ?_
              exact next _ (.inr ⟨k, hkk, hfw, rfl, rfl, by omega, hM.b _ (List.getElem_mem hkk)⟩)
          · rintro ⟨b, _⟩ w91 ⟨e91, hg⟩
            exact hJ6 (j + 1) _ _ ⟨wsucc (m := 2 ^ 40) (by omega) (by omega), by omega, e91, hg⟩ (by omega)
        · rw [if_neg hcj]
          refine hJ5 _ _ ⟨e46, ?_⟩
          rcases hgood with h | ⟨j', h1, h2, _⟩
          · exact h
          · omega
      rintro ⟨made, _⟩ w93 ⟨e93, hmade⟩
      simp only at hmade; subst hmade
      have z93 := e93.size
      have e93' := e40'.trans e93
      rw [Bool.not_true, cond_false, Bool.cond_decide]
      by_cases h0 : (i : Int) > 0
      · rw [if_pos h0]
        refine re_idx (v15.ext e93') hi' fun _ a0 _ => ⟨_, a0, ?_⟩
        rw [show IntKind.i64.wrap ((i : Int) - 1) = ((i - 1 : Nat) : Int) by rw [w64 (by omega) (by omega)]; omega]
        refine re_idx (v15.ext e93') (show i - 1 < l.length by omega) fun _ a0 _ => ⟨_, a0, ?_⟩
        intro w99 e99
        have := List.pairwise_iff_getElem.1 hpw (i - 1) i (by omega) hi' (by omega)
        rw [Bool.cond_decide, if_neg (by omega)]
        exact hJ2 _ _ (e93'.trans e99)
      · rw [if_neg h0]
        intro w100 e100
        exact hJ2 _ _ (e93'.trans e100)
    · rw [if_neg hc]; exact hJ _ _ e19
  · rintro _ w104 e104
    exact kn (by have := e104.size; omega) (e015.trans e104)
end
end Go.Sh
