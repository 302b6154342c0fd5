/- More of what all plain proofs lean on: boxes that are kept, one field of a record written, slices that are spoilt. -/
import Derived.Test.YtoomennincfkgaaBase
set_option maxRecDepth 100000
namespace Go.Sh
open Go.RowKit

theorem kp0 {w w' : World} : Keeps [] w w' := fun _ h => by cases h
theorem kp0_1 (w : World) (a : Nat) : Keeps [a] w w := fun _ _ => rfl
theorem kp1 {w w' : World} {a : Nat} (e : Ext w w') (ha : a < w.heap.size) : Keeps [a] w w' := kp_ext e fun b hb => by
  simp only [List.mem_cons, List.not_mem_nil, or_false] at hb; omega
theorem kp2 {w w' : World} {a b : Nat} (e : Ext w w') (ha : a < w.heap.size) (hb : b < w.heap.size) : Keeps [a, b] w w' := kp_ext e fun c hc => by
  simp only [List.mem_cons, List.not_mem_nil, or_false] at hc; omega
theorem kp3 {w w' : World} {a b c : Nat} (e : Ext w w') (ha : a < w.heap.size) (hb : b < w.heap.size) (hc : c < w.heap.size) : Keeps [a, b, c] w w' := kp_ext e fun d hd => by
  simp only [List.mem_cons, List.not_mem_nil, or_false] at hd; omega
theorem kc1 {w w' : World} {F : Nat → Prop} {a : Nat} (c : Chg F w w') (ha : a < w.heap.size) (fa : ¬ F a) : Keeps [a] w w' := kp_chg c fun b hb => by
  simp only [List.mem_cons, List.not_mem_nil, or_false] at hb; subst hb; exact ⟨ha, fa⟩
theorem kc2 {w w' : World} {F : Nat → Prop} {a b : Nat} (c : Chg F w w') (ha : a < w.heap.size) (fa : ¬ F a) (hb : b < w.heap.size) (fb : ¬ F b) : Keeps [a, b] w w' := kp_chg c fun d hd => by
  simp only [List.mem_cons, List.not_mem_nil, or_false] at hd
  rcases hd with rfl | rfl
  · exact ⟨ha, fa⟩
  · exact ⟨hb, fb⟩
theorem kc3 {w w' : World} {F : Nat → Prop} {a b c : Nat} (h : Chg F w w') (ha : a < w.heap.size) (fa : ¬ F a) (hb : b < w.heap.size) (fb : ¬ F b) (hc : c < w.heap.size) (fc : ¬ F c) : Keeps [a, b, c] w w' := kp_chg h fun d hd => by
  simp only [List.mem_cons, List.not_mem_nil, or_false] at hd
  rcases hd with rfl | rfl | rfl
  · exact ⟨ha, fa⟩
  · exact ⟨hb, fb⟩
  · exact ⟨hc, fc⟩

section
variable {α : Type} {R : Rc α}
theorem flat_set1 {l : List α} {i j : Nat} (hi : i < l.length) (hj : j < R.sz) {v : Value} {y : α} (hy : R.enc y = (R.enc l[i]).set j v) : (R.flat l).set (i * R.sz + j) v = R.flat (l.set i y) := by
  obtain ⟨a, b, x, rfl, rfl⟩ : ∃ a b x, l = a ++ x :: b ∧ a.length = i := ⟨l.take i, l.drop (i + 1), l[i], by simp, by simp; omega⟩
  have e1 : (a ++ x :: b)[a.length] = x := by simp
  rw [e1] at hy
  have e2 : (a ++ x :: b).set a.length y = a ++ y :: b := by simp
  rw [e2, R.flat_append, R.flat_append, R.flat_cons, R.flat_cons, hy]
  rw [List.set_append_right _ _ (by rw [R.flat_len]; omega), R.flat_len, Nat.add_sub_cancel_left]
  rw [List.set_append_left _ _ (by rw [R.len]; exact hj)]

/-- One field of an owned record is written. -/
theorem Own.field {w : World} {s : SV} {xs : List α} (h : Own R w s xs) {i j : Nat} (hi : i < xs.length) (hj : j < R.sz) {v : Value} {y : α} (hy : R.enc y = (R.enc xs[i]).set j v) {K : World → Prop}
    (hk : ∀ w', Chg s.blk w w' → Own R w' s (xs.set i y) → K w') : Idx s.a s.len (i : Int) R.sz (fun a => stL w (a.add j) [v] 0 K) := by
  obtain ⟨rest, h1, h2, h3⟩ := h
  rcases h3 with ⟨_, h, _⟩ | ⟨b, hb, hB⟩
  · subst h; simp at hi
  refine ⟨_, hb, by omega, by omega, ?_⟩
  simp only [Int.toNat_natCast, addm, Nat.zero_add]
  have hi' : i < (xs ++ rest).length := by simp; omega
  have hlen : i * R.sz + R.sz ≤ (R.flat (xs ++ rest)).length := by
    rw [R.flat_len, ← Nat.succ_mul]
    exact Nat.mul_le_mul_right _ hi'
  refine stL_blk (b := b) (o := i * R.sz + j) [v] 0 w _ _ hB (by simp only [List.length_cons, List.length_nil]; omega) fun w' o hB' => ?_
  refine hk w' (.of_off o ⟨_, hb, rfl⟩) ⟨rest, by simpa using h1, by simpa using h2, .inr ⟨b, hb, ?_⟩⟩
  have e := flat_set1 (R := R) (l := xs ++ rest) hi' hj (v := v) (y := y) (by rw [List.getElem_append_left hi]; exact hy)
  rw [List.set_append_left _ _ hi] at e
  rw [← e]
  exact hB'

theorem Own.field2 {w : World} {s : SV} {xs : List α} (h : Own R w s xs) {i j0 j1 : Nat} (hi : i < xs.length) (hj : j0 + j1 < R.sz) {v : Value} {y : α} (hy : R.enc y = (R.enc xs[i]).set (j0 + j1) v) {K : World → Prop}
    (hk : ∀ w', Chg s.blk w w' → Own R w' s (xs.set i y) → K w') : Idx s.a s.len (i : Int) R.sz (fun a => stL w ((a.add j0).add j1) [v] 0 K) := by
  obtain ⟨p0, hp0, h00, h01, hA⟩ := h.field hi hj hy hk
  refine ⟨p0, hp0, h00, h01, ?_⟩
  have hsp : p0.spot = none := h.view.spot (fun e => by rw [e] at hi; simp at hi) p0 hp0
  obtain ⟨pb, po, ps⟩ := p0
  simp only at hsp; subst hsp
  simp only [addm, Nat.add_assoc] at hA ⊢
  exact hA

/-- A loop writes one field of all records. -/
theorem spoil_ok {w : World} {s : SV} {xs : List α} (h : Own R w s xs) (hn : xs.length < 2 ^ 40) {bs : List Nat} (hb : ∀ b ∈ bs, b < w.heap.size ∧ ¬ s.blk b) {j : Nat} (hj : j < R.sz) {v : Value} {f : α → α} (hf : ∀ x, R.enc (f x) = (R.enc x).set j v)
    {J : Unit → World → Prop} (hk : ∀ w', Chg s.blk w w' → Own R w' s (xs.map f) → J () w') :
    LoopT (Int × Unit) (fun t again w1 => cond (decide (t.1 < (s.len : Int))) (Idx s.a s.len t.1 R.sz (fun a => stL w1 (a.add j) [v] 0 (fun w2 => Keeps bs w1 w2 ∧ again (IntKind.i64.wrap (t.1 + (1 : Int)), ()) w2))) (J () w1)) ((0 : Int), ()) w := by
  have hlen := h.view.len
  refine LoopT.gh (γ := Nat) (fun i (st : Int × Unit) w' => st.1 = i ∧ i ≤ xs.length ∧ Chg s.blk w w' ∧ Own R w' s ((xs.take i).map f ++ xs.drop i)) (fun i => xs.length - i) 0 ⟨rfl, Nat.zero_le _, .refl _ _, by simpa using h⟩ ?_
  rintro i ⟨x, _⟩ w1 ⟨hx, hi, c1, hO⟩ J1 hJ1
  simp only at hx; subst hx
  dsimp only
  rw [Bool.cond_decide]
  by_cases hc : (i : Int) < (s.len : Int)
  · rw [if_pos hc]
    have hi' : i < xs.length := by omega
    have hl : ((xs.take i).map f ++ xs.drop i).length = xs.length := by simp; omega
    have hgi : ((xs.take i).map f ++ xs.drop i)[i]'(by omega) = xs[i] := by
      rw [List.getElem_append_right (by simp only [List.length_map, List.length_take]; omega)]
      simp only [List.length_map, List.length_take, Nat.min_eq_left hi]
      rw [List.getElem_drop]; congr 1; omega
    refine hO.field (i := i) (j := j) (y := f xs[i]) (by omega) hj (by rw [hgi]; exact hf _) fun w2 c2 hO2 => ?_
    refine ⟨kp_chg c2 fun b hbm => ⟨Nat.lt_of_lt_of_le (hb b hbm).1 c1.size, (hb b hbm).2⟩, ?_⟩
    refine hJ1 (i + 1) _ _ ⟨wsucc (m := 2 ^ 40) (by omega) (by omega), by omega, c1.trans c2 (fun _ _ h => h), ?_⟩ (by omega)
    have e : ((xs.take i).map f ++ xs.drop i).set i (f xs[i]) = (xs.take (i + 1)).map f ++ xs.drop (i + 1) := by
      apply List.ext_getElem
      · simp; omega
      · intro k h1 h2
        rw [List.getElem_set]
        by_cases ek : i = k
        · subst ek
          rw [if_pos rfl, List.getElem_append_left (by simp; omega)]
          simp
        · rw [if_neg ek]
          by_cases hlt : k < i
          · rw [List.getElem_append_left (by simp; omega), List.getElem_append_left (by simp; omega)]; simp
          · rw [List.getElem_append_right (by simp; omega), List.getElem_append_right (by simp; omega)]
            simp only [List.length_map, List.length_take, List.getElem_drop]
            congr 1; omega
    rw [e] at hO2; exact hO2
  · rw [if_neg hc]
    have : i = xs.length := by omega
    subst this
    refine hk w1 c1 ?_
    simpa using hO
end

theorem set_enc0 (x : Int × Int × Int) (v : Int) : RD.enc (v, x.2.1, x.2.2) = (RD.enc x).set 0 (.int .i64 v) := rfl
theorem set_enc1 (x : Int × Int × Int) (v : Int) : RD.enc (x.1, v, x.2.2) = (RD.enc x).set 1 (.int .i64 v) := rfl

/-- A quiet answer out of a walk that changes nothing. -/
theorem Quiet.of {ρ : Type} {enc : ρ → Value} {f : (ρ → World → Prop) → World → Prop} {w : World} {K : ρ → Prop} (r : ρ) (h : ∀ w', Ext w w' → ∀ K' : ρ → World → Prop, (∀ w'', Ext w' w'' → K' r w'') → f K' w') (hk : K r) : Quiet ρ enc f w K := Quiet.mk r h hk

/-- append of one that is laid for it. -/
theorem push_ok {α : Type} {R : Rc α} {w : World} {s : SV} {xs : List α} {x : α} (h : Own R w s xs) {bytes : Nat} (hb : (xs.length + 1) * bytes ≤ 2 ^ 47) (hn : xs.length + 1 < 2 ^ 62) {K : World → SV → World → Prop}
    (hk : ∀ w2 s' w', Ext w w2 → Chg s.blk w2 w' → (∀ k, s'.blk k → s.blk k ∨ w.heap.size ≤ k) → Own R w' s' (xs ++ [x]) → K w2 s' w') :
    NewB (R.enc x) w (fun b w2 => App bytes (R.enc R.z) s ⟨some ⟨b, 0, none⟩, 1, 1⟩ w2 (fun s' w' => K w2 s' w')) := by
  intro b w2 e2 g2 hB
  have z2 := e2.size
  exact Own.app (R := R) (h.ext e2) (View.one (R := R) (x := x) hB) (by simpa using hb) (by simpa using hn) fun s' w' c' hs hO => hk w2 s' w' e2 c' (fun k hk => (hs k hk).imp id fun h => Nat.le_trans z2 h) hO
theorem chg_ext {F : Nat → Prop} {a b c : World} (e : Ext a b) (h : Chg F b c) : Chg F a c := (Chg.of_ext (F := F) e).trans h fun _ _ h => h
/-- append of a list to nothing. -/
theorem copy_ok {α : Type} {R : Rc α} {w : World} {t : SV} {ys : List α} (h : View R w t ys) {bytes : Nat} (hb : ys.length * bytes ≤ 2 ^ 47) (hn : ys.length < 2 ^ 62) {K : SV → World → Prop}
    (hk : ∀ s' w', Ext w w' → Own R w' s' ys → Fsh w s' → K s' w') : App bytes (R.enc R.z) ⟨none, 0, 0⟩ t w K :=
  Own.app (R := R) Own.nil h (by simpa using hb) (by simpa using hn) fun s' w' c' hs hO => hk s' w' (c'.ext fun k _ ⟨q, hq, _⟩ => by cases hq) (by simpa using hO) fun k hk => (hs k hk).elim (fun ⟨q, hq, _⟩ => by cases hq) id

def RS : Rc SV where
  sz := 1
  enc s := [.slice s.a s.len s.cap]
  len _ := rfl
  pos := by decide
  z := ⟨none, 0, 0⟩
  one := by intro x v hv; simp at hv; subst hv; rfl
theorem slot_idx {w : World} {s : SV} {xs : List SV} (h : View RS w s xs) {i : Nat} (hl : i < xs.length) {K : Addr → Prop}
    (hk : ∀ a, w.cell? a = some (.slice xs[i].a xs[i].len xs[i].cap) → K a) : Idx s.a s.len (i : Int) 1 K := by
  refine View.idx (R := RS) h (by omega) (by simpa using hl) fun a ha hc => ?_
  have := hc 0 _ rfl
  simp only [Int.toNat_natCast] at this
  obtain ⟨b, o, sp⟩ := a
  simp only at ha; subst ha
  rw [add0] at this
  exact hk _ this

/-- A table: a slice of slices of numbers. -/
structure TblO (w : World) (s : SV) (svs : List SV) (L : List (List Int)) : Prop where
  so : Own RS w s svs
  len : svs.length = L.length
  row : ∀ v (h1 : v < svs.length) (h2 : v < L.length), Own RI w svs[v] L[v]
  ds : ∀ v (h : v < svs.length) k, svs[v].blk k → ¬ s.blk k
theorem TblO.chg {w w' : World} {s : SV} {svs : List SV} {L : List (List Int)} {G : Nat → Prop} (h : TblO w s svs L) (c : Chg G w w') (h1 : ∀ k, s.blk k → ¬ G k) (h2 : ∀ v (hv : v < svs.length) k, svs[v].blk k → ¬ G k) : TblO w' s svs L :=
  ⟨h.so.chg c h1, h.len, fun v a b => (h.row v a b).chg c (h2 v a), h.ds⟩
theorem TblO.ext {w w' : World} {s : SV} {svs : List SV} {L : List (List Int)} (h : TblO w s svs L) (e : Ext w w') : TblO w' s svs L := h.chg (G := fun _ => False) (.of_ext e) (fun _ _ h => h) fun _ _ _ _ h => h
theorem TblO.lt {w : World} {s : SV} {svs : List SV} {L : List (List Int)} (h : TblO w s svs L) {v k : Nat} (hv : v < svs.length) (hk : svs[v].blk k) : k < w.heap.size := (h.row v hv (by rw [← h.len]; exact hv)).lt hk
theorem TblO.nil {w : World} : TblO w ⟨none, 0, 0⟩ [] [] := ⟨Own.nil, rfl, fun v h1 => by simp at h1, fun v h => by simp at h⟩
/-- A row more. -/
theorem TblO.push {w : World} {s : SV} {svs : List SV} {L : List (List Int)} {r : SV} {row : List Int} (h : TblO w s svs L) (hr : Own RI w r row) (hd : ∀ k, r.blk k → ¬ s.blk k) {bytes : Nat} (hb : (svs.length + 1) * bytes ≤ 2 ^ 47) (hn : svs.length + 1 < 2 ^ 62) {K : World → SV → World → Prop}
    (hk : ∀ w2 s' w', Ext w w2 → Chg s.blk w2 w' → (∀ k, s'.blk k → s.blk k ∨ w.heap.size ≤ k) → TblO w' s' (svs ++ [r]) (L ++ [row]) → K w2 s' w') :
    NewB [.slice r.a r.len r.cap] w (fun b w2 => App bytes [.slice none 0 0] s ⟨some ⟨b, 0, none⟩, 1, 1⟩ w2 (fun s' w' => K w2 s' w')) := by
  refine push_ok (R := RS) (x := r) h.so hb hn fun w2 s' w' e2 c' hs hO => hk w2 s' w' e2 c' hs ⟨hO, by simp [h.len], fun v h1 h2 => ?_, fun v hv k hk1 hk2 => ?_⟩
  · simp only [List.length_append, List.length_cons, List.length_nil] at h1
    by_cases e : v < svs.length
    · rw [List.getElem_append_left e, List.getElem_append_left (by rw [← h.len]; exact e)]
      exact ((h.row v e _).ext e2).chg c' fun k q1 q2 => h.ds v e k q1 q2
    · have e1 : v = svs.length := by omega
      subst e1
      rw [List.getElem_append_right (Nat.le_refl _), List.getElem_append_right (by rw [h.len]; exact Nat.le_refl _)]
      simp only [h.len, Nat.sub_self, List.getElem_cons_zero]
      exact (hr.ext e2).chg c' hd
  · simp only [List.length_append, List.length_cons, List.length_nil] at hv
    by_cases e : v < svs.length
    · rw [List.getElem_append_left e] at hk1
      rcases hs k hk2 with h' | h'
      · exact h.ds v e k hk1 h'
      · have := h.lt e hk1; omega
    · have e1 : v = svs.length := by omega
      subst e1
      rw [List.getElem_append_right (Nat.le_refl _)] at hk1
      simp only [Nat.sub_self, List.getElem_cons_zero] at hk1
      rcases hs k hk2 with h' | h'
      · exact hd k hk1 h'
      · have := hr.lt hk1; omega
end Go.Sh
