/- More of what all plain proofs lean on: boxes that are kept, one field of a record written, slices that are spoilt. -/
import Derived.Test.YtoomennincfkgaaBase
set_option maxRecDepth 100000
namespace Go.Sh
open Go.RowKit

theorem kp0 {w w' : World} : Keeps [] w w' := fun _ h => by cases h
theorem kp0_1 (w : World) (a : Nat) : Keeps [a] w w := fun _ _ => rfl
theorem kp1 {w w' : World} {a : Nat} (e : Ext w w') (ha : a < w.heap.size) : Keeps [a] w w' := kp_ext e fun b hb => by
  simp only [List.mem_cons, List.not_mem_nil, or_false] at hb; omega
theorem kp2 {w w' : World} {a b : Nat} (e : Ext w w') (ha : a < w.heap.size) (hb : b < w.heap.size) : Keeps [a, b] w w' := kp_ext e fun c hc => by
  simp only [List.mem_cons, List.not_mem_nil, or_false] at hc; omega
theorem kp3 {w w' : World} {a b c : Nat} (e : Ext w w') (ha : a < w.heap.size) (hb : b < w.heap.size) (hc : c < w.heap.size) : Keeps [a, b, c] w w' := kp_ext e fun d hd => by
  simp only [List.mem_cons, List.not_mem_nil, or_false] at hd; omega
theorem kc1 {w w' : World} {F : Nat → Prop} {a : Nat} (c : Chg F w w') (ha : a < w.heap.size) (fa : ¬ F a) : Keeps [a] w w' := kp_chg c fun b hb => by
  simp only [List.mem_cons, List.not_mem_nil, or_false] at hb; subst hb; exact ⟨ha, fa⟩
theorem kc2 {w w' : World} {F : Nat → Prop} {a b : Nat} (c : Chg F w w') (ha : a < w.heap.size) (fa : ¬ F a) (hb : b < w.heap.size) (fb : ¬ F b) : Keeps [a, b] w w' := kp_chg c fun d hd => by
  simp only [List.mem_cons, List.not_mem_nil, or_false] at hd
  rcases hd with rfl | rfl
  · exact ⟨ha, fa⟩
  · exact ⟨hb, fb⟩
theorem kc3 {w w' : World} {F : Nat → Prop} {a b c : Nat} (h : Chg F w w') (ha : a < w.heap.size) (fa : ¬ F a) (hb : b < w.heap.size) (fb : ¬ F b) (hc : c < w.heap.size) (fc : ¬ F c) : Keeps [a, b, c] w w' := kp_chg h fun d hd => by
  simp only [List.mem_cons, List.not_mem_nil, or_false] at hd
  rcases hd with rfl | rfl | rfl
  · exact ⟨ha, fa⟩
  · exact ⟨hb, fb⟩
  · exact ⟨hc, fc⟩

section
variable {α : Type} {R : Rc α}
theorem flat_set1 {l : List α} {i j : Nat} (hi : i < l.length) (hj : j < R.sz) {v : Value} {y : α} (hy : R.enc y = (R.enc l[i]).set j v) : (R.flat l).set (i * R.sz + j) v = R.flat (l.set i y) := by
  obtain ⟨a, b, x, rfl, rfl⟩ : ∃ a b x, l = a ++ x :: b ∧ a.length = i := ⟨l.take i, l.drop (i + 1), l[i], by simp, by simp; omega⟩
  have e1 : (a ++ x :: b)[a.length] = x := by simp
  rw [e1] at hy
  have e2 : (a ++ x :: b).set a.length y = a ++ y :: b := by simp
  rw [e2, R.flat_append, R.flat_append, R.flat_cons, R.flat_cons, hy]
  rw [List.set_append_right _ _ (by rw [R.flat_len]; omega), R.flat_len, Nat.add_sub_cancel_left]
  rw [List.set_append_left _ _ (by rw [R.len]; exact hj)]

/-- One field of an owned record is written. -/
theorem Own.field {w : World} {s : SV} {xs : List α} (h : Own R w s xs) {i j : Nat} (hi : i < xs.length) (hj : j < R.sz) {v : Value} {y : α} (hy : R.enc y = (R.enc xs[i]).set j v) {K : World → Prop}
    (hk : ∀ w', Chg s.blk w w' → Own R w' s (xs.set i y) → K w') : Idx s.a s.len (i : Int) R.sz (fun a => stL w (a.add j) [v] 0 K) := by
  obtain ⟨rest, h1, h2, h3⟩ := h
  rcases h3 with ⟨_, h, _⟩ | ⟨b, hb, hB⟩
  · subst h; simp at hi
  refine ⟨_, hb, by omega, by omega, ?_⟩
  simp only [Int.toNat_natCast, addm, Nat.zero_add]
  have hi' : i < (xs ++ rest).length := by simp; omega
  have hlen : i * R.sz + R.sz ≤ (R.flat (xs ++ rest)).length := by
    rw [R.flat_len, ← Nat.succ_mul]
    exact Nat.mul_le_mul_right _ hi'
  refine stL_blk (b := b) (o := i * R.sz + j) [v] 0 w _ _ hB (by simp only [List.length_cons, List.length_nil]; omega) fun w' o hB' => ?_
  refine hk w' (.of_off o ⟨_, hb, rfl⟩) ⟨rest, by simpa using h1, by simpa using h2, .inr ⟨b, hb, ?_⟩⟩
  have e := flat_set1 (R := R) (l := xs ++ rest) hi' hj (v := v) (y := y) (by rw [List.getElem_append_left hi]; exact hy)
  rw [List.set_append_left _ _ hi] at e
  rw [← e]
  exact hB'

theorem Own.field2 {w : World} {s : SV} {xs : List α} (h : Own R w s xs) {i j0 j1 : Nat} (hi : i < xs.length) (hj : j0 + j1 < R.sz) {v : Value} {y : α} (hy : R.enc y = (R.enc xs[i]).set (j0 + j1) v) {K : World → Prop}
    (hk : ∀ w', Chg s.blk w w' → Own R w' s (xs.set i y) → K w') : Idx s.a s.len (i : Int) R.sz (fun a => stL w ((a.add j0).add j1) [v] 0 K) := by
  obtain ⟨p0, hp0, h00, h01, hA⟩ := h.field hi hj hy hk
  refine ⟨p0, hp0, h00, h01, ?_⟩
  have hsp : p0.spot = none := h.view.spot (fun e => by rw [e] at hi; simp at hi) p0 hp0
  obtain ⟨pb, po, ps⟩ := p0
  simp only at hsp; subst hsp
  simp only [addm, Nat.add_assoc] at hA ⊢
  exact hA

/-- A loop writes one field of all records. -/
theorem spoil_ok {w : World} {s : SV} {xs : List α} (h : Own R w s xs) (hn : xs.length < 2 ^ 40) {bs : List Nat} (hb : ∀ b ∈ bs, b < w.heap.size ∧ ¬ s.blk b) {j : Nat} (hj : j < R.sz) {v : Value} {f : α → α} (hf : ∀ x, R.enc (f x) = (R.enc x).set j v)
    {J : Unit → World → Prop} (hk : ∀ w', Chg s.blk w w' → Own R w' s (xs.map f) → J () w') :
    LoopT (Int × Unit) (fun t again w1 => cond (decide (t.1 < (s.len : Int))) (Idx s.a s.len t.1 R.sz (fun a => stL w1 (a.add j) [v] 0 (fun w2 => Keeps bs w1 w2 ∧ again (IntKind.i64.wrap (t.1 + (1 : Int)), ()) w2))) (J () w1)) ((0 : Int), ()) w := by
  have hlen := h.view.len
  refine LoopT.gh (γ := Nat) (fun i (st : Int × Unit) w' => st.1 = i ∧ i ≤ xs.length ∧ Chg s.blk w w' ∧ Own R w' s ((xs.take i).map f ++ xs.drop i)) (fun i => xs.length - i) 0 ⟨rfl, Nat.zero_le _, .refl _ _, by simpa using h⟩ ?_
  rintro i ⟨x, _⟩ w1 ⟨hx, hi, c1, hO⟩ J1 hJ1
  simp only at hx; subst hx
  dsimp only
  rw [Bool.cond_decide]
  by_cases hc : (i : Int) < (s.len : Int)
  · rw [if_pos hc]
    have hi' : i < xs.length := by omega
    have hl : ((xs.take i).map f ++ xs.drop i).length = xs.length := by simp; omega
    have hgi : ((xs.take i).map f ++ xs.drop i)[i]'(by omega) = xs[i] := by
      rw [List.getElem_append_right (by simp only [List.length_map, List.length_take]; omega)]
      simp only [List.length_map, List.length_take, Nat.min_eq_left hi]
      rw [List.getElem_drop]; congr 1; omega
    refine hO.field (i := i) (j := j) (y := f xs[i]) (by omega) hj (by rw [hgi]; exact hf _) fun w2 c2 hO2 => ?_
    refine ⟨kp_chg c2 fun b hbm => ⟨Nat.lt_of_lt_of_le (hb b hbm).1 c1.size, (hb b hbm).2⟩, ?_⟩
    refine hJ1 (i + 1) _ _ ⟨wsucc (m := 2 ^ 40) (by omega) (by omega), by omega, c1.trans c2 (fun _ _ h => h), ?_⟩ (by omega)
    have e : ((xs.take i).map f ++ xs.drop i).set i (f xs[i]) = (xs.take (i + 1)).map f ++ xs.drop (i + 1) := by
      apply List.ext_getElem
      · simp; omega
      · intro k h1 h2
        rw [List.getElem_set]
        by_cases ek : i = k
        · subst ek
          rw [if_pos rfl, List.getElem_append_left (by simp; omega)]
          simp
        · rw [if_neg ek]
          by_cases hlt : k < i
          · rw [List.getElem_append_left (by simp; omega), List.getElem_append_left (by simp; omega)]; simp
          · rw [List.getElem_append_right (by simp; omega), List.getElem_append_right (by simp; omega)]
            simp only [List.length_map, List.length_take, List.getElem_drop]
            congr 1; omega
    rw [e] at hO2; exact hO2
  · rw [if_neg hc]
    have : i = xs.length := by omega
    subst this
    refine hk w1 c1 ?_
    simpa using hO
end

theorem set_enc0 (x : Int × Int × Int) (v : Int) : RD.enc (v, x.2.1, x.2.2) = (RD.enc x).set 0 (.int .i64 v) := rfl
theorem set_enc1 (x : Int × Int × Int) (v : Int) : RD.enc (x.1, v, x.2.2) = (RD.enc x).set 1 (.int .i64 v) := rfl

/-- A quiet answer out of a walk that changes nothing. -/
theorem Quiet.of {ρ : Type} {enc : ρ → Value} {f : (ρ → World → Prop) → World → Prop} {w : World} {K : ρ → Prop} (r : ρ) (h : ∀ w', Ext w w' → ∀ K' : ρ → World → Prop, (∀ w'', Ext w' w'' → K' r w'') → f K' w') (hk : K r) : Quiet ρ enc f w K := Quiet.mk r h hk
end Go.Sh
