/- The maps' reference: which arcs count, and the edges out of a place; what is only laid. -/
import Derived.Test.YtoomennincfkgaaGraphRef
import Derived.Test.YtoomennincfkgaaHierPut
import Derived.Test.YtoomennincfkgaaBase2
set_option maxRecDepth 100000
namespace Go.Sh
open Go.RowKit

theorem kpE {w0 a b : World} {bs : List Nat} (ea : Ext w0 a) (eb : Ext w0 b) (h : ∀ x ∈ bs, x < w0.heap.size) : Keeps bs a b := fun x hx => by
  rw [eb.blk (h x hx), ea.blk (h x hx)]

/-- A slice that grows: what is laid behind it is of its own. -/
structure Acc {α : Type} (R : Rc α) (w0 : World) (n : Nat) (w : World) (s : SV) (xs : List α) : Prop where
  e : Ext w0 w
  m : w0.heap.size ≤ n
  z : n ≤ w.heap.size
  o : Own R w s xs
  f : ∀ k, s.blk k → n ≤ k
section
variable {α : Type} {R : Rc α} {w0 w w' w'' : World} {n : Nat} {s : SV} {xs : List α}
theorem Acc.nil (e : Ext w0 w) (m : w0.heap.size ≤ n) (z : n ≤ w.heap.size) : Acc R w0 n w ⟨none, 0, 0⟩ [] := ⟨e, m, z, Own.nil, fun _ ⟨_, h, _⟩ => by cases h⟩
theorem Acc.ext (h : Acc R w0 n w s xs) (e : Ext w w') : Acc R w0 n w' s xs := ⟨h.e.trans e, h.m, Nat.le_trans h.z e.size, h.o.ext e, h.f⟩
/-- A box that was laid ahead is written. -/
theorem Acc.off (h : Acc R w0 n w s xs) {b : Nat} (o : Off b w w') (h0 : w0.heap.size ≤ b) (hb : b < n) : Acc R w0 n w' s xs :=
  ⟨ext_off h.e o h0, h.m, by rw [o.size]; exact h.z, h.o.off o fun hk => by have := h.f _ hk; omega, h.f⟩
/-- .. that was laid since. -/
theorem Acc.off' (h : Acc R w0 n w s xs) {b : Nat} (e : Ext w w') (o : Off b w' w'') (hb : w.heap.size ≤ b) : Acc R w0 n w'' s xs := h.ext (ext_off e o hb)
theorem Acc.kp (h : Acc R w0 n w s xs) {w1 w2 : World} (e : Ext w w1) (c : Chg s.blk w1 w2) {bs : List Nat} (hb : ∀ b ∈ bs, b < w1.heap.size ∧ (b < n ∨ w.heap.size ≤ b)) : Keeps bs w1 w2 :=
  kp_chg c fun b hm => ⟨(hb b hm).1, fun hk => by have := h.f b hk; have := h.o.lt hk; have := (hb b hm).2; omega⟩
theorem Acc.push (h : Acc R w0 n w s xs) {x : α} {bytes : Nat} (hb : (xs.length + 1) * bytes ≤ 2 ^ 47) (hn : xs.length + 1 < 2 ^ 62) {K : World → SV → World → Prop}
    (hk : ∀ w2 s' w', Ext w w2 → Chg s.blk w2 w' → (∀ k, s'.blk k → s.blk k ∨ w.heap.size ≤ k) → Acc R w0 n w' s' (xs ++ [x]) → K w2 s' w') :
    NewB (R.enc x) w (fun b w2 => App bytes (R.enc R.z) s ⟨some ⟨b, 0, none⟩, 1, 1⟩ w2 (fun s' w' => K w2 s' w')) :=
  push_ok h.o hb hn fun w2 s' w' e2 c hs hO => hk w2 s' w' e2 c hs ⟨ext_chg (h.e.trans e2) c fun k hk => Nat.le_trans h.m (h.f k hk), h.m, Nat.le_trans h.z (Nat.le_trans e2.size c.size), hO, fun k hk => by
    rcases hs k hk with h1 | h1
    · exact h.f k h1
    · exact Nat.le_trans h.z h1⟩
/-- What another slice's growth leaves as it was. -/
theorem Acc.other {F : Nat → Prop} {w2 : World} (h : Acc R w0 n w s xs) (e : Ext w w2) (c : Chg F w2 w') (d : Dj s.blk F) (e0 : Ext w0 w') : Acc R w0 n w' s xs :=
  ⟨e0, h.m, Nat.le_trans h.z (Nat.le_trans e.size c.size), (h.o.ext e).chg c d, h.f⟩
theorem Acc.dj {β : Type} {S : Rc β} {ys : List β} {t s' : SV} (h : Acc S w0 n w t ys) (d : Dj s.blk t.blk) (hs : ∀ k, s'.blk k → s.blk k ∨ w.heap.size ≤ k) : Dj s'.blk t.blk := d.grow hs fun _ hk => h.o.lt hk
/-- .. in a region that draws its order. -/
theorem Acc.push' (h : Acc R w0 n w s xs) {x : α} {bytes : Nat} (hb : (xs.length + 1) * bytes ≤ 2 ^ 47) (hn : xs.length + 1 < 2 ^ 62) {K : World → SV → World → Prop}
    (hk : ∀ w2 s' w', Ext w w2 → Chg s.blk w2 w' → (∀ k, s'.blk k → s.blk k ∨ w.heap.size ≤ k) → Acc R w0 n w' s' (xs ++ [x]) → K w2 s' w') :
    NewB (R.enc x) w (fun b w1 => ∀ w2, Ext w1 w2 → App bytes (R.enc R.z) s ⟨some ⟨b, 0, none⟩, 1, 1⟩ w2 (fun s' w' => K w2 s' w')) := by
  intro b w1 e1 g1 hB w2 e2
  have e12 := e1.trans e2
  have z2 := e12.size
  exact Own.app (R := R) (h.o.ext e12) (View.one (R := R) (x := x) (e2.blkE hB)) (by simpa using hb) (by simpa using hn) fun s' w' c hs hO => hk w2 s' w' e12 c (fun k hk => (hs k hk).imp id fun h => Nat.le_trans z2 h) ⟨ext_chg (h.e.trans e12) c fun k hk => Nat.le_trans h.m (h.f k hk), h.m, Nat.le_trans h.z (Nat.le_trans e12.size c.size), hO, fun k hk => by
    rcases hs k hk with h1 | h1
    · exact h.f k h1
    · exact Nat.le_trans h.z (Nat.le_trans z2 h1)⟩
end

section
variable {w : World}

theorem counts_ok {N : Int} {s : SV} {arcs : List Arc} {k : Nat} {K : Bool → World → Prop} (h : View RD w s arcs) (ok : OkMap N arcs) (hk : k < arcs.length) (hK : ∀ w', Ext w w' → K (decide (Kept arcs k)) w') : sh_postroadref06_counts N s (k : Int) K w := by
  unfold sh_postroadref06_counts
  intro b1 w2 e2 g1 g1'
  have z2 := e2.size
  have hl := h.len; have hlen := ok.len
  refine do_idx (h.ext e2) hk fun _ a0 a1 a2 => ⟨_, a0, _, a1, _, a2, ?_⟩
  intro b7 w8 e8 g7 g7' w9 o9
  have e9 : Ext w w9 := ext_off (e2.trans e8) o9 (by omega)
  simp only [arcA_get hk]
  obtain ⟨f1, f2⟩ := ok.fr hk
  obtain ⟨t1, t2⟩ := ok.to hk
  by_cases hft : frA arcs k = toA arcs k
  · rw [show ((arcA arcs k).1 == (arcA arcs k).2.1) = true by rw [beq_iff_eq]; omega, cond_true]
    have := hK w9 e9
    rw [decide_eq_false (fun q => q.1 hft)] at this; exact this
  rw [show ((arcA arcs k).1 == (arcA arcs k).2.1) = false by rw [beq_eq_false_iff_ne]; omega, cond_false]
  refine LoopT.gh (γ := Nat) (fun i (st : Int × Unit) w' => st.1 = i ∧ i ≤ arcs.length ∧ Ext w w' ∧ ∀ j, j < i → Same arcs j k → ¬ Less arcs j k) (fun i => arcs.length - i) 0 ⟨rfl, Nat.zero_le _, e9, fun j hj => by omega⟩ ?_
  rintro i ⟨x, _⟩ w12 ⟨hx, hi, e12, hno⟩ J1 hJ1
  simp only at hx; subst hx
  dsimp only
  rw [Bool.cond_decide]
  by_cases hc : (i : Int) < (s.len : Int)
  · rw [if_pos hc]
    have hi' : i < arcs.length := by omega
    have z12 := e12.size
    refine Join.cut (fun _ w' => Ext w w' ∧ (Same arcs i k → ¬ Less arcs i k)) (fun J hJ => ?_) ?_
    · refine do_idx (h.ext e12) hi' fun _ a0 a1 a2 => ⟨_, a0, _, a1, _, a2, ?_⟩
      intro b18 w19 e19 g18 g18' w20 o20
      have e20 : Ext w w20 := ext_off (e12.trans e19) o20 (by omega)
      simp only [arcA_get hi']
      obtain ⟨f3, _⟩ := ok.fr hi'
      obtain ⟨t3, _⟩ := ok.to hi'
      have no : Same arcs i k → Less arcs i k → K false w20 := fun h1 h2 => by
        have := hK w20 e20
        rw [decide_eq_false (fun q => q.2 i hi' h1 h2)] at this; exact this
      by_cases h1 : frA arcs i = frA arcs k
      · rw [show ((arcA arcs i).1 == (arcA arcs k).1) = true by rw [beq_iff_eq]; omega, cond_true]
        by_cases h2 : toA arcs i = toA arcs k
        · rw [show ((arcA arcs i).2.1 == (arcA arcs k).2.1) = true by rw [beq_iff_eq]; omega, cond_true, Bool.cond_decide]
          by_cases h3 : (arcA arcs i).2.2 < (arcA arcs k).2.2
          · rw [if_pos h3]; exact no ⟨h1, h2⟩ (.inl h3)
          · rw [if_neg h3]
            by_cases h4 : (arcA arcs i).2.2 = (arcA arcs k).2.2
            · rw [show ((arcA arcs i).2.2 == (arcA arcs k).2.2) = true by rw [beq_iff_eq]; exact h4, cond_true, Bool.cond_decide]
              by_cases h5 : (i : Int) < (k : Int)
              · rw [if_pos h5]; exact no ⟨h1, h2⟩ (.inr ⟨h4, by omega⟩)
              · rw [if_neg h5]; exact hJ _ _ ⟨e20, fun _ q => q.elim (fun q => h3 q) fun q => by omega⟩
            · rw [show ((arcA arcs i).2.2 == (arcA arcs k).2.2) = false by rw [beq_eq_false_iff_ne]; exact h4, cond_false]
              exact hJ _ _ ⟨e20, fun _ q => q.elim (fun q => h3 q) fun q => h4 q.1⟩
        · rw [show ((arcA arcs i).2.1 == (arcA arcs k).2.1) = false by rw [beq_eq_false_iff_ne]; omega, cond_false]
          exact hJ _ _ ⟨e20, fun q => absurd q.2 h2⟩
      · rw [show ((arcA arcs i).1 == (arcA arcs k).1) = false by rw [beq_eq_false_iff_ne]; omega, cond_false]
        exact hJ _ _ ⟨e20, fun q => absurd q.1 h1⟩
    · rintro _ w22 ⟨e22, hn⟩
      refine hJ1 (i + 1) _ _ ⟨wsucc (m := 2 ^ 40) (by omega) (by omega), by omega, e22, fun j hj hs => ?_⟩ (by omega)
      by_cases e : j = i
      · subst e; exact hn hs
      · exact hno j (by omega) hs
  · rw [if_neg hc]
    have := hK w12 e12
    rw [show decide (Kept arcs k) = true from decide_eq_true ⟨hft, fun i hi => hno i (by omega)⟩] at this; exact this

def kI (arcs : List Arc) (k : Nat) : Int := if Kept arcs k then 1 else 0
theorem fi_succ (n : Nat) (f : Nat → Int) : fi (n + 1) f = fi n f ++ [f n] := by unfold fi; rw [List.range_succ, List.map_append]; rfl

theorem mNew_ok {N : Int} {s : SV} {arcs : List Arc} {K : Int → SV → SV → Bool → World → Prop} (h : View RD w s arcs) (ok : OkMap N arcs)
    (hK : ∀ t w', Ext w w' → Own RI w' t (fi arcs.length (kI arcs)) → Fsh w t → K N s t true w') : sh_postroadref06_New N s K w := by
  unfold sh_postroadref06_New
  intro b1 w2 e2 g1 g1' b3 w4 e4 g3 g3'
  have z2 := e2.size; have z4 := e4.size
  have hl := h.len; have hlen := ok.len
  refine check5_ok (h.ext (e2.trans e4)) fun c w6 e6 hc => ?_
  refine ⟨kp_ext e6 (by (intro b hb; simp only [List.mem_cons, List.not_mem_nil, or_false] at hb; omega)), ?_⟩
  have z6 := e6.size
  rw [show (c != 0) = false by rw [bne_eq_false_iff_eq]; exact hc.2 ok, cond_false]
  intro b8 w9 e9 g8 g8' w10 o10
  have z9 := e9.size; have z10 := o10.size
  have e10 : Ext w w10 := ext_off (((e2.trans e4).trans e6).trans e9) o10 (by omega)
  refine Join.cut (fun (x : (Int × SV × SV × Unit) × Unit) w' => x.1.1 = N ∧ x.1.2.1 = s ∧ Acc RI w w10.heap.size w' x.1.2.2.1 (fi arcs.length (kI arcs))) (fun J hJ => ?_) ?_
  · refine LoopT.gh (γ := Nat) (fun i (st : Int × (Int × SV × SV × Unit) × Unit) w' => st.1 = i ∧ i ≤ arcs.length ∧ st.2.1.1 = N ∧ st.2.1.2.1 = s ∧ Acc RI w w10.heap.size w' st.2.1.2.2.1 (fi i (kI arcs))) (fun i => arcs.length - i) 0
      ⟨rfl, Nat.zero_le _, rfl, rfl, Acc.nil e10 e10.size (Nat.le_refl _)⟩ ?_
    rintro i ⟨x, ⟨m, t, u, _⟩, _⟩ w14 ⟨hx, hi, hm, ht, hA⟩ J1 hJ1
    simp only at hx hm ht hA
    subst hx hm ht
    dsimp only
    have z14 := hA.z
    rw [Bool.cond_decide]
    by_cases hc : (i : Int) < (t.len : Int)
    · rw [if_pos hc]
      have hi' : i < arcs.length := by omega
      refine Join.cut (fun (x : Int × Unit) w' => x.1 = kI arcs i ∧ Acc RI w w10.heap.size w' u (fi i (kI arcs))) (fun J' hJ' => ?_) ?_
      · refine counts_ok (h.ext hA.e) ok hi' fun w17 e17 => ⟨kp_ext e17 (by (intro b hb; simp only [List.mem_cons, List.not_mem_nil, or_false] at hb; omega)), ?_⟩
        by_cases hk : Kept arcs i
        · rw [decide_eq_true hk, cond_true]; exact hJ' _ _ ⟨by unfold kI; rw [if_pos hk], hA.ext e17⟩
        · rw [decide_eq_false hk, cond_false]; exact hJ' _ _ ⟨by unfold kI; rw [if_neg hk], hA.ext e17⟩
      · rintro ⟨x, _⟩ w19 ⟨hx, hA⟩
        simp only at hx; subst hx
        have z19 := hA.z
        refine hA.push (R := RI) (x := kI arcs i) (by rw [fi_len]; omega) (by rw [fi_len]; omega) fun w21 s22 w23 e21 c23 _ hA3 => ?_
        have z21 := e21.size
        refine ⟨hA.kp e21 c23 (by (intro b hb; simp only [List.mem_cons, List.not_mem_nil, or_false] at hb; omega)), fun w24 o24 => ?_⟩
        refine hJ1 (i + 1) _ _ ⟨wsucc (m := 2 ^ 40) (by omega) (by omega), by omega, rfl, rfl, ?_⟩ (by omega)
        rw [fi_succ]
        exact hA3.off o24 (by omega) (by omega)
    · rw [if_neg hc]
      have : i = arcs.length := by omega
      subst this
      exact hJ _ _ ⟨rfl, rfl, hA⟩
  · rintro ⟨⟨m, t, u, _⟩, _⟩ w26 ⟨hm, ht, hA⟩ w27 o27
    simp only at hm ht hA
    subst hm ht
    have hA := hA.off o27 (by omega) (by omega)
    exact hK _ _ hA.e hA.o fun k hk => by have := hA.f k hk; omega

theorem semSlice_none {sz : Nat} {a : Option Addr} {n c : Nat} {h : Option Int} {K : SV → Prop} : semSlice sz a n c none h K = semSlice sz a n c (some ((0 : Nat) : Int)) h K := by
  simp [semSlice]

theorem mput_ok {l0 : SV} {xs : List (Int × Int × Int)} {V W A : Int} {K : SV → World → Prop} (h : Own RD w l0 xs) (hr : Rise xs) (hn : xs.length < 2 ^ 40)
    (hk : ∀ s w', Ext w w' → Fsh w s → Own RD w' s (insE (V, W, A) xs) → K s w') : sh_postroadref06_put l0 V W A K w := by
  unfold sh_postroadref06_put
  intro b1 w2 e2 g1 g1'
  have z2 := e2.size
  have hl := h.view.len
  refine Join.cut (fun (x : Int × Unit) w' => Ext w2 w' ∧ ∃ k : Nat, x.1 = (k : Int) ∧ k ≤ xs.length ∧ insE (V, W, A) xs = xs.take k ++ (V, W, A) :: xs.drop k) (fun J hJ => ?_) ?_
  · refine LoopT.gh (γ := Nat) (fun k (st : Int × Unit) w' => st.1 = k ∧ k ≤ xs.length ∧ Ext w2 w' ∧ ∀ j (hj : j < xs.length), j < k → xs[j].1 < V) (fun k => xs.length - k) 0 ⟨rfl, Nat.zero_le _, .refl _, fun j hj hk => by omega⟩ ?_
    rintro k ⟨x, _⟩ w6 ⟨hx, hk', e6, hlt⟩ J1 hJ1
    simp only at hx; subst hx
    dsimp only
    rw [Bool.cond_decide]
    by_cases hc : (k : Int) < (l0.len : Int)
    · rw [if_pos hc]
      have hi : k < xs.length := by omega
      refine do_idx ((h.ext e2).ext e6).view hi fun _ a0 _ _ => ⟨_, a0, ?_⟩
      intro w9 e9
      rw [Bool.cond_decide]
      by_cases hlt' : xs[k].1 < V
      · rw [if_pos hlt']
        refine hJ1 (k + 1) _ _ ⟨wsucc (m := 2 ^ 40) (by omega) (by omega), by omega, e6.trans e9, fun j hj hjk => ?_⟩ (by omega)
        by_cases e : j = k
        · subst e; exact hlt'
        · exact hlt j hj (by omega)
      · rw [if_neg hlt']
        exact hJ _ _ ⟨e6.trans e9, k, rfl, hk', insE_at hk' hlt fun _ => hlt'⟩
    · rw [if_neg hc]
      intro w10 e10
      exact hJ _ _ ⟨e6.trans e10, k, rfl, hk', insE_at hk' hlt fun h => by omega⟩
  · rintro ⟨_, _⟩ w12 ⟨e12, k, rfl, hk', hins⟩
    dsimp only
    have z12 := e12.size
    have h12 := (h.ext e2).ext e12
    rw [semSlice_none]
    refine h12.slice (R := RD) (lo := 0) (hi := k) (Nat.zero_le _) hk' fun s13 v13 _ => ?_
    rw [List.drop_zero, Nat.sub_zero] at v13
    refine copy_ok (R := RD) v13 (by rw [List.length_take]; omega) (by rw [List.length_take]; omega) fun s14 w15 e15 hO f14 => ?_
    have z15 := e15.size
    refine ⟨kp_ext e15 (by (intro b hb; simp only [List.mem_cons, List.not_mem_nil, or_false] at hb; omega)), ?_⟩
    have hA : Acc RD w2 w12.heap.size w15 s14 (xs.take k) := ⟨e12.trans e15, z12, z15, hO, f14⟩
    have ltk : (xs.take k).length ≤ xs.length := by rw [List.length_take]; omega
    refine hA.push (R := RD) (x := (V, W, A)) (by omega) (by omega) fun w17 s18 w19 e17 c19 _ hA => ?_
    have z17 := e17.size
    refine ⟨kp_chg c19 fun b hb => ?_, ?_⟩
    · simp only [List.mem_cons, List.not_mem_nil, or_false] at hb; subst hb
      exact ⟨by omega, fun hk => by have := f14 _ hk; omega⟩
    refine (h.ext (e2.trans hA.e)).tail (R := RD) (lo := k) hk' fun s20 v20 _ => ?_
    refine Own.app (R := RD) hA.o v20 (by simp only [List.length_append, List.length_take, List.length_drop, List.length_cons, List.length_nil]; omega) (by simp only [List.length_append, List.length_take, List.length_drop, List.length_cons, List.length_nil]; omega) fun s21 w22 c22 hs hO => ?_
    have z19 := hA.z
    refine ⟨kp_chg c22 fun b hb => ?_, ?_⟩
    · simp only [List.mem_cons, List.not_mem_nil, or_false] at hb; subst hb
      exact ⟨by omega, fun hk => by have := hA.f _ hk; omega⟩
    refine hk s21 w22 (ext_chg (e2.trans hA.e) c22 fun k hk => by have := hA.f k hk; omega) (fun k hk => ?_) ?_
    · rcases hs k hk with h1 | h1
      · have := hA.f k h1; omega
      · omega
    · rw [hins]
      simpa using hO

/-- The edge of an arc; the way of an arc. -/
def edA (arcs : List Arc) (k : Nat) : Arc := ((arcA arcs k).2.1, (arcA arcs k).2.2, (k : Int))
def wyK (arcs : List Arc) (k : Nat) : Wy := ((arcA arcs k).1, (arcA arcs k).2.1, (arcA arcs k).2.2, -1, (k : Int))

theorem mOut_ok {N : Int} {s t : SV} {arcs : List Arc} {v : Int} {K : SV → World → Prop} (h : View RD w s arcs) (ht : View RI w t (fi arcs.length (kI arcs))) (ok : OkMap N arcs)
    (hK : ∀ u w' xs, Ext w w' → Own RD w' u xs → Fsh w u → Rise xs → xs.length ≤ arcs.length → (∀ e, e ∈ xs ↔ ∃ k, k < arcs.length ∧ Kept arcs k ∧ (arcA arcs k).1 = v ∧ e = edA arcs k) → K u w') : sh_postroadref06_Out N s t v K w := by
  unfold sh_postroadref06_Out
  intro b1 w2 e2 g1 g1'
  have z2 := e2.size
  have hl := h.len; have hlen := ok.len; have htl := ht.len
  rw [fi_len] at htl
  refine LoopT.gh (γ := Nat × List Arc) (fun g (st : SV × Int × Unit) w' => st.2.1 = g.1 ∧ g.1 ≤ arcs.length ∧ Acc RD w w2.heap.size w' st.1 g.2 ∧ Rise g.2 ∧ g.2.length ≤ g.1 ∧ ∀ e, e ∈ g.2 ↔ ∃ k, k < g.1 ∧ Kept arcs k ∧ (arcA arcs k).1 = v ∧ e = edA arcs k) (fun g => arcs.length - g.1) (0, [])
    ⟨rfl, Nat.zero_le _, Acc.nil e2 z2 (Nat.le_refl _), List.Pairwise.nil, Nat.le_refl _, fun e => by simp⟩ ?_
  rintro ⟨i, xs⟩ ⟨u, x, _⟩ w5 ⟨hx, hi, hA, hr, hxl, hm⟩ J1 hJ1
  simp only at hx hi hA hr hxl hm
  subst hx
  dsimp only
  have z5 := hA.z
  rw [Bool.cond_decide]
  by_cases hc : (i : Int) < (t.len : Int)
  · rw [if_pos hc]
    have hi' : i < arcs.length := by omega
    refine Join.cut (fun (y : SV × Unit) w' => ∃ xs', Acc RD w w2.heap.size w' y.1 xs' ∧ Rise xs' ∧ xs'.length ≤ i + 1 ∧ ∀ e, e ∈ xs' ↔ e ∈ xs ∨ (Kept arcs i ∧ (arcA arcs i).1 = v ∧ e = edA arcs i)) (fun J hJ => ?_) ?_
    · refine fi_rd (ht.ext hA.e) hi' fun a ha => ⟨_, ha, ?_⟩
      by_cases hk : Kept arcs i
      · rw [show (kI arcs i == 1) = true by unfold kI; rw [if_pos hk]; rfl, cond_true]
        refine do_idx (h.ext hA.e) hi' fun _ a0 _ _ => ⟨_, a0, ?_⟩
        simp only [arcA_get hi']
        by_cases hv : (arcA arcs i).1 = v
        · rw [show ((arcA arcs i).1 == v) = true by rw [beq_iff_eq]; exact hv, cond_true]
          refine do_idx (h.ext hA.e) hi' fun _ _ a1 _ => ⟨_, a1, ?_⟩
          refine do_idx (h.ext hA.e) hi' fun _ _ _ a2 => ⟨_, a2, ?_⟩
          simp only [arcA_get hi']
          intro w16 e16
          have z16 := e16.size
          refine mput_ok (hA.ext e16).o hr (by omega) fun s15 w17 e17 f15 hO => ?_
          refine ⟨kp_ext e17 (by (intro b hb; simp only [List.mem_cons, List.not_mem_nil, or_false] at hb; omega)), fun w18 e18 => ?_⟩
          have z17 := e17.size
          refine hJ _ _ ⟨insE (edA arcs i) xs, (Acc.mk ((hA.e.trans e16).trans e17) hA.m (by omega) hO fun k hk => by have := f15 k hk; omega : Acc RD w w2.heap.size w17 s15 (insE (edA arcs i) xs)).ext e18, insE_rise hr fun y hy => ?_, by rw [insE_len]; omega, fun e => ?_⟩
          · obtain ⟨k, hki, hkk, hkv, rfl⟩ := (hm y).1 hy
            intro he
            have f1 := ok.fr (show k < arcs.length by omega); have f2 := ok.fr hi'
            have t1 := ok.to (show k < arcs.length by omega); have t2 := ok.to hi'
            have he' : (arcA arcs k).2.1 = (arcA arcs i).2.1 := he
            have hs : Same arcs k i := ⟨by omega, by omega⟩
            have := Less.total (hk.2 k (by omega) hs) (hkk.2 i hi' hs.symm)
            omega
          · rw [insE_mem, or_comm]
            exact ⟨fun q => q.imp id fun q => ⟨hk, hv, q⟩, fun q => q.imp id fun q => q.2.2⟩
        · rw [show ((arcA arcs i).1 == v) = false by rw [beq_eq_false_iff_ne]; exact hv, cond_false]
          exact hJ _ _ ⟨xs, hA, hr, by omega, fun e => ⟨.inl, fun q => q.elim id fun q => absurd q.2.1 hv⟩⟩
      · rw [show (kI arcs i == 1) = false by unfold kI; rw [if_neg hk]; rfl, cond_false]
        exact hJ _ _ ⟨xs, hA, hr, by omega, fun e => ⟨.inl, fun q => q.elim id fun q => absurd q.1 hk⟩⟩
    · rintro ⟨u', _⟩ w20 ⟨xs', hA', hr', hl', hm'⟩
      refine hJ1 (i + 1, xs') _ _ ⟨wsucc (m := 2 ^ 40) (by omega) (by omega), by simp only; omega, hA', hr', hl', fun e => ?_⟩ (by simp only; omega)
      rw [hm', hm]
      constructor
      · rintro (⟨k, h1, h2, h3, h4⟩ | ⟨h2, h3, h4⟩)
        · exact ⟨k, by simp only; omega, h2, h3, h4⟩
        · exact ⟨i, by simp only; omega, h2, h3, h4⟩
      · rintro ⟨k, h1, h2, h3, h4⟩
        simp only at h1
        by_cases e1 : k = i
        · subst e1; exact .inr ⟨h2, h3, h4⟩
        · exact .inl ⟨k, by omega, h2, h3, h4⟩
  · rw [if_neg hc]
    have : i = arcs.length := by omega
    subst this
    exact hK u w5 xs hA.e hA.o (fun k hk => by have := hA.f k hk; omega) hr hxl hm
end
end Go.Sh
