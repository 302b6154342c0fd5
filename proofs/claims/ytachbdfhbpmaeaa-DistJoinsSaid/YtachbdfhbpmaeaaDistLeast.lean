/- The nearest first: from a place on, by edges. -/
import Derived.Test.YtachbdfhbpmaeaaWalks
import Derived.Test.YtachbdfhbpmaeaaHierPure
import Derived.Test.YtachbdfhbpmaeaaBase2
import Derived.Test.YtachbdfhbpmaeaaHeapApi
set_option maxRecDepth 100000
namespace Go.Sh
open Go.RowKit

/-- They lead to places, and are not too long. -/
structure EdOk (n : Nat) (M : Int) (ed : Nat → List (Int × Int × Int)) : Prop where
  m : 0 ≤ M
  b : (n : Int) * M < 2 ^ 62
  nn : n ≤ 16777216
  e : ∀ u, u < n → ∀ e ∈ ed u, 0 ≤ e.1 ∧ e.1 < n ∧ 0 ≤ e.2.1 ∧ e.2.1 ≤ M
  l : ∀ u, u < n → (ed u).length < 2 ^ 40

theorem least_le {L : List (Int × Int)} {m : Int × Int} (h : Least L m) : m ∈ L ∧ ∀ y ∈ L, m.2 ≤ y.2 := by
  refine ⟨h.1, fun y hy => ?_⟩
  have := h.2 y hy
  unfold eLt at this; simp at this; omega
theorem rid_mem {L : List (Int × Int)} {id : Int} {e : Int × Int} : e ∈ rid L id ↔ e ∈ L ∧ e.1 ≠ id := by
  unfold rid; rw [List.mem_filter]; simp

theorem least_ok {CV : CVT} {w : World} {n s : Nat} {M : Int} {ed : Nat → List (Int × Int × Int)} {f0 : Value} {K : SV → World → Prop} (ok : EdOk n M ed) (hs : s < n)
    (hCV : ∀ v : Nat, v < n → ∀ w', Ext w w' → ∀ K' : Value → World → Prop, (∀ t w'', Ext w' w'' → Own RD w'' t (ed v) → Fsh w' t → K' (.slice t.a t.len t.cap) w'') → CV f0 [.int .i64 (v : Int)] K' w')
    (hk : ∀ t f w', Ext w w' → Own RI w' t (fi n f) → Fsh w t → (∀ v, v < n → IsD (EE' n ed) s v (f v)) → K t w') : sh_dist_least CV (n : Int) (s : Int) f0 K w := by
  unfold sh_dist_least
  have hn := ok.nn
  have hpos : ∀ u v x, EE' n ed u v x → 0 ≤ x := fun u v x ⟨hu, e, he, _, hx⟩ => by have := ok.e u hu e he; omega
  have hdom : ∀ u v x, EE' n ed u v x → u < n → v < n := fun u v x ⟨hu, e, he, hv, _⟩ _ => by have := ok.e u hu e he; omega
  rw [Bool.cond_decide, if_neg (by omega), Bool.cond_decide, if_neg (by omega)]
  refine own_mk (R := RI) (bytes := 8) (by omega) (by omega) (by omega) fun s1 w2 e2 f1 hO => ?_
  simp only [Int.toNat_natCast] at hO
  rw [show RI.z = (0 : Int) from rfl, fi_rep] at hO
  have l1 := hO.view.len
  rw [fi_len] at l1
  have m1 : ∀ {k}, s1.blk k → k < w2.heap.size := fun hk => hO.lt hk
  have z2 := e2.size
  refine Join.cut (fun _ w' => Ext w w' ∧ w2.heap.size ≤ w'.heap.size ∧ Own RI w' s1 (fi n fun _ => -1)) (fun J hJ => ?_) ?_
  · refine LoopT.gh (γ := Nat) (fun i (st : Int × Unit) w' => st.1 = i ∧ i ≤ n ∧ Ext w w' ∧ w2.heap.size ≤ w'.heap.size ∧ Own RI w' s1 (fi n fun j => if j < i then -1 else 0)) (fun i => n - i) 0 ⟨rfl, Nat.zero_le _, e2, Nat.le_refl _, (congrArg (Own RI w2 s1) (fi_congr fun j _ => by rw [if_neg (by omega)])).mp hO⟩ ?_
    rintro i ⟨x, _⟩ w6 ⟨hx, hi, e6, z6, hO6⟩ J1 hJ1
    simp only at hx; subst hx
    dsimp only
    rw [Bool.cond_decide]
    by_cases hc : (i : Int) < (s1.len : Int)
    · rw [if_pos hc]
      refine fi_wr hO6 (by omega) fun a put => ?_
      refine put w6 _ _ hO6 fun w8 c8 hO8 => ?_
      have z8 := c8.size
      refine hJ1 (i + 1) _ _ ⟨wsucc (m := 2 ^ 40) (by omega) (by omega), by omega, ext_chg e6 c8 f1, by omega, (congrArg (Own RI w8 s1) (fi_congr fun j _ => ?_)).mp hO8⟩ (by omega)
      by_cases hj : j = i
      · subst hj; rw [if_pos rfl, if_pos (by omega)]
      · rw [if_neg hj]
        by_cases hj2 : j < i
        · rw [if_pos hj2, if_pos (by omega)]
        · rw [if_neg hj2, if_neg (by omega)]
    · rw [if_neg hc]
      exact hJ _ _ ⟨e6, z6, (congrArg (Own RI w6 s1) (fi_congr fun j hj => by rw [if_pos (by omega)])).mp hO6⟩
  rintro _ w10 ⟨e10, z10, hO10⟩
  refine New_ok (by omega) (by omega) fun p w12 F12 e12 hH12 f12 => ?_
  rw [Int.toNat_natCast] at hH12
  have z12 := e12.size
  refine Set_ok hH12 (by omega) (by omega) fun w14 F14 c14 f14 hH14 => ?_
  have z14 := c14.size
  have e14 : Ext w w14 := ext_chg (e10.trans e12) c14 fun k hk => by have := f12 k hk; have := e10.size; omega
  have hO14 : Own RI w14 s1 (fi n fun _ => -1) := (hO10.ext e12).chg c14 fun k h1 h2 => by have := f12 k h2; have := m1 h1; omega
  refine LoopT.gh (γ := (Nat → Int) × List (Int × Int) × (Nat → Prop)) (fun gh (_ : Unit) w' => Ext w w' ∧ w10.heap.size ≤ w'.heap.size ∧ Own RI w' s1 (fi n gh.1) ∧ HeapA w' p n gh.2.1 gh.2.2 ∧ (∀ k, gh.2.2 k → w10.heap.size ≤ k) ∧ Dij (EE' n ed) n s M gh.1 gh.2.1) (fun gh => n - cntR gh.1 n)
    (fun _ => -1, [((s : Int), 0)], F14) ⟨e14, by omega, hO14, hH14, fun k hk => (f14 k hk).elim (f12 k) fun h => Nat.le_trans z12 h, Dij.begin hs ok.m⟩ ?_
  rintro ⟨f, L, F⟩ ⟨⟩ w17 ⟨e17, z17, hO17, hH17, f17, hD⟩ J1 hJ1
  simp only at hO17 hH17 f17 hD hJ1
  by_cases hL : L = []
  · subst hL
    refine Pop_no hH17 ?_
    simp only [Bool.not_false, cond_true]
    exact hk s1 f w17 e17 hO17 f1 fun v hv => hD.done hpos hdom hv
  refine Pop_ok hH17 hL fun m w21 F21 hm c21 f21 hH21 => ?_
  simp only [Bool.not_true, cond_false]
  have z21 := c21.size
  obtain ⟨hmin, hmL⟩ := least_le hm
  obtain ⟨h0, h1, h2, h3, h4⟩ := hD.o m hmin
  have f21' : ∀ k, F21 k → w10.heap.size ≤ k := fun k hk => by
    rcases f21 k hk with h | h
    · exact f17 k h
    · omega
  have e21 : Ext w w21 := ext_chg e17 c21 fun k hk => by have := f17 k hk; have := e10.size; omega
  have hO21 : Own RI w21 s1 (fi n f) := hO17.chg c21 fun k h1 h2 => by have := f17 k h2; have := m1 h1; omega
  obtain ⟨hP, _, hcnt⟩ := hD.pop hpos hdom hmin hmL (L' := rid L m.1) fun e => rid_mem
  obtain ⟨c, hc0⟩ := Int.eq_ofNat_of_zero_le h0
  have hc1 : m.1.toNat = c := by omega
  rw [hc1] at hP hcnt h1
  rw [hc0]
  have hm0 : 0 ≤ m.2 := h3.nonneg hpos
  have hk2 := hD.kb hmin
  have hb := ok.b
  refine fi_wr hO21 h1 fun a put => ?_
  refine put w21 m.2 _ hO21 fun w23 c23 hO23 => ?_
  have z23 := c23.size
  have e23 : Ext w w23 := ext_chg e21 c23 f1
  have hH23 : HeapA w23 p n (rid L m.1) F21 := hH21.chg c23 fun k h1 h2 => by have := f21' k h1; have := m1 h2; omega
  change Own RI w23 s1 (fi n (up1 f c m.2)) at hO23
  have hfc : up1 f c m.2 c = m.2 := up1_at
  refine hCV c h1 w23 e23 _ fun s24 w26 e26 hO26 f24 => ⟨s24, rfl, ?_⟩
  have z26 := e26.size
  have l24 := hO26.view.len
  have hel := ok.l c h1
  refine LoopT.gh (γ := Nat × List (Int × Int) × (Nat → Prop)) (fun gh (st : Int × Unit) w' => st.1 = gh.1 ∧ gh.1 ≤ (ed c).length ∧ Ext w w' ∧ w26.heap.size ≤ w'.heap.size ∧ Own RI w' s1 (fi n (up1 f c m.2)) ∧ HeapA w' p n gh.2.1 gh.2.2 ∧ (∀ k, gh.2.2 k → w10.heap.size ≤ k) ∧ Own RD w' s24 (ed c) ∧ Dj gh.2.2 s24.blk ∧
      DijP (EE' n ed) n s M (up1 f c m.2) gh.2.1 c (fun v x => ∃ j, ∃ hj : j < (ed c).length, j < gh.1 ∧ ((ed c)[j]).1 = (v : Int) ∧ ((ed c)[j]).2.1 = x)) (fun gh => (ed c).length - gh.1)
    (0, rid L m.1, F21) ⟨rfl, Nat.zero_le _, e23.trans e26, Nat.le_refl _, hO23.ext e26, hH23.ext e26, f21', hO26, fun k h1 h2 => by have := hH23.lt h1; have := f24 k h2; omega, hP.mono fun v x h => by obtain ⟨j, _, hj, _⟩ := h; omega⟩ ?_
  rintro ⟨i, L1, F1⟩ ⟨x, _⟩ w29 ⟨hx, hi, e29, z29, hO29, hH29, f29, hE29, dj29, hP29⟩ J2 hJ2
  simp only at hx hi hO29 hH29 f29 dj29 hP29 hJ2; subst hx
  dsimp only
  rw [Bool.cond_decide]
  by_cases hc : (i : Int) < (s24.len : Int)
  · rw [if_pos hc]
    have hi' : i < (ed c).length := by omega
    obtain ⟨q0, q1, q2, q3⟩ := ok.e c h1 _ (List.getElem_mem hi')
    obtain ⟨v, hv⟩ := Int.eq_ofNat_of_zero_le q0
    have hvn : v < n := by omega
    have hEv : EE' n ed c v ((ed c)[i]).2.1 := ⟨h1, _, List.getElem_mem hi', hv, rfl⟩
    refine do_idx hE29.view hi' fun _ a0 a1 a2 => ⟨_, a0, _, a1, _, a2, ?_⟩
    intro b34 w35 e35 g34 g34' w36 o36
    have z35 := e35.size; have z36 := o36.size
    have nb : ¬ F1 b34 := fun h => by have := hH29.lt h; omega
    have hH36 : HeapA w36 p n L1 F1 := (hH29.ext e35).chg (G := fun k => k = b34) (.of_off o36 rfl) fun k h1 h2 => nb (h2 ▸ h1)
    have e36 : Ext w w36 := ext_off (e29.trans e35) o36 (by have := e29.size; omega)
    have hO36 : Own RI w36 s1 (fi n (up1 f c m.2)) := (hO29.ext e35).off o36 fun h => by have := m1 h; omega
    have hE36 : Own RD w36 s24 (ed c) := (hE29.ext e35).off o36 fun h => by have := hE29.lt h; omega
    have hle := hP29.le q3
    rw [hfc] at hle
    have wrap : IntKind.i64.wrap (m.2 + ((ed c)[i]).2.1) = m.2 + ((ed c)[i]).2.1 := w64 (by omega) (by omega)
    rw [wrap, hv]
    -- the next round
    have next : ∀ (L2 : List (Int × Int)) (F2 : Nat → Prop) (w' : World), Ext w w' → w26.heap.size ≤ w'.heap.size → Own RI w' s1 (fi n (up1 f c m.2)) → HeapA w' p n L2 F2 → (∀ k, F2 k → w10.heap.size ≤ k) → Own RD w' s24 (ed c) → Dj F2 s24.blk →
        DijP (EE' n ed) n s M (up1 f c m.2) L2 c (fun v' x' => (∃ j, ∃ hj : j < (ed c).length, j < i ∧ ((ed c)[j]).1 = (v' : Int) ∧ ((ed c)[j]).2.1 = x') ∨ v' = v ∧ x' = ((ed c)[i]).2.1) → J2 (IntKind.i64.wrap ((i : Int) + 1), ()) w' := fun L2 F2 w' q1 q2 q3 q4 q5 q6 q7 q8 =>
      hJ2 (i + 1, L2, F2) _ _ ⟨wsucc (m := 2 ^ 40) (by omega) (by omega), by simp only; omega, q1, q2, q3, q4, q5, q6, q7, q8.mono fun v' x' ⟨j, hj, hji, r1, r2⟩ => by
        by_cases e : j = i
        · subst e; right; exact ⟨by omega, r2.symm⟩
        · left; exact ⟨j, hj, by simp only at hji; omega, r1, r2⟩⟩ (by simp only; omega)
    have set : ∀ (w39 : World), Ext w36 w39 → (∀ k, ((v : Int), k) ∈ L1 → m.2 + ((ed c)[i]).2.1 ≤ k) → up1 f c m.2 v = -1 → sh_heap_Heap_Set p (v : Int) (m.2 + ((ed c)[i]).2.1) (fun t42 w43 => (Keeps [b34] w39 w43 ∧ (J2 ((IntKind.i64.wrap ((i : Int) + (1 : Int))), ()) w43))) w39 := fun w39 e39 hb' hf => by
      have z39 := e39.size
      refine Set_ok (hH36.ext e39) (by omega) (by omega) fun w43 F43 c43 f43 hH43 => ⟨kc1 c43 (by omega) nb, ?_⟩
      have z43 := c43.size
      refine next _ F43 w43 (ext_chg (e36.trans e39) c43 fun k hk => by have := f29 k hk; have := e10.size; omega) (by omega) ((hO36.ext e39).chg c43 fun k h1 h2 => by have := f29 k h2; have := m1 h1; omega) hH43 (fun k hk => ?_) ((hE36.ext e39).chg c43 fun k h1 h2 => dj29 k h2 h1) (fun k hk h2 => ?_) ?_
      · rcases f43 k hk with h | h
        · exact f29 k h
        · omega
      · rcases f43 k hk with h | h
        · exact dj29 k h h2
        · have := hE29.lt h2; omega
      · refine hP29.set hvn hEv q3 hf (fun k hk => by rw [hfc]; exact hb' k hk) fun e => ?_
        rw [List.mem_cons, rid_mem, hfc]
    have skip : ∀ (w39 : World), Ext w36 w39 → (0 ≤ up1 f c m.2 v ∨ ∃ k, ((v : Int), k) ∈ L1 ∧ k ≤ m.2 + ((ed c)[i]).2.1) → J2 ((IntKind.i64.wrap ((i : Int) + (1 : Int))), ()) w39 := fun w39 e39 hsk => by
      have z39 := e39.size
      exact next L1 F1 w39 (e36.trans e39) (by omega) (hO36.ext e39) (hH36.ext e39) f29 (hE36.ext e39) dj29 (hP29.skip (by rw [hfc]; exact hsk))
    have hval : up1 f c m.2 v = -1 ∨ 0 ≤ up1 f c m.2 v := by
      rcases hP29.d v hvn with h | ⟨_, h, _⟩
      · exact .inl h
      · exact .inr h
    refine Key_ok hH36 (fun key hin w39 e39 => ⟨kp1 e39 (by omega), ?_⟩) (fun hno => ⟨kp0_1 _ _, ?_⟩)
    · refine fi_rd (hO36.ext e39).view hvn fun _ q => ⟨_, q, ?_⟩
      rcases hval with h | h
      · rw [show (up1 f c m.2 v == -1) = true by rw [h]; rfl]
        simp only [Bool.not_true, cond_false, cond_true]
        rw [Bool.cond_decide]
        by_cases hlt : m.2 + ((ed c)[i]).2.1 < key
        · rw [if_pos hlt]
          exact set w39 e39 (fun k hk => by rw [hH36.uniq hk hin]; omega) h
        · rw [if_neg hlt]
          exact skip w39 e39 (.inr ⟨key, hin, by omega⟩)
      · rw [show (up1 f c m.2 v == -1) = false by rw [beq_eq_false_iff_ne]; omega, cond_false]
        exact skip w39 e39 (.inl h)
    · refine fi_rd hO36.view hvn fun _ q => ⟨_, q, ?_⟩
      rcases hval with h | h
      · rw [show (up1 f c m.2 v == -1) = true by rw [h]; rfl]
        simp only [Bool.not_false, cond_true]
        exact set w36 (.refl _) (fun k hk => absurd hk (hno k)) h
      · rw [show (up1 f c m.2 v == -1) = false by rw [beq_eq_false_iff_ne]; omega, cond_false]
        exact skip w36 (.refl _) (.inl h)
  · rw [if_neg hc]
    have : i = (ed c).length := by omega
    subst this
    have hcn := cntR_le (up1 f c m.2) n
    refine hJ1 (up1 f c m.2, L1, F1) () w29 ⟨e29, by omega, hO29, hH29, f29, hP29.done fun v x ⟨_, e, he, r1, r2⟩ => ?_⟩ (by simp only; omega)
    obtain ⟨j, hj, rfl⟩ := List.getElem_of_mem he
    exact ⟨j, hj, hj, r1, r2⟩
end Go.Sh
