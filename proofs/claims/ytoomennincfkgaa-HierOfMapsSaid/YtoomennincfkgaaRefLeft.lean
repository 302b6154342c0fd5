/- What is left of a map: laid, and read. -/
import Derived.Test.YtoomennincfkgaaRefMap
import Derived.Test.YtoomennincfkgaaContr2
import Derived.Test.YtoomennincfkgaaHierRows
set_option maxRecDepth 100000
namespace Go.Sh
open Go.RowKit

/-- Left, in memory. -/
structure LeftV (w : World) (n : Nat) (sI sL sO : SV) (inn : Nat → Int) (L : List Wy) (lost : Nat → Int) : Prop where
  i : View RI w sI (fi n inn)
  l : View RW w sL L
  o : View RI w sO (fi n lost)
  k : L.length < 2 ^ 40
  n40 : n ≤ 4096
section
variable {w w' : World} {n : Nat} {sI sL sO : SV} {inn lost : Nat → Int} {L : List Wy}
theorem LeftV.ext (h : LeftV w n sI sL sO inn L lost) (e : Ext w w') : LeftV w' n sI sL sO inn L lost := ⟨h.i.ext e, h.l.ext e, h.o.ext e, h.k, h.n40⟩
theorem LeftV.chg {F : Nat → Prop} (h : LeftV w n sI sL sO inn L lost) (c : Chg F w w') (h1 : Dj sI.blk F) (h2 : Dj sL.blk F) (h3 : Dj sO.blk F) : LeftV w' n sI sL sO inn L lost := ⟨h.i.chg c h1, h.l.chg c h2, h.o.chg c h3, h.k, h.n40⟩

theorem New8_ok {s t : SV} {arcs : List Arc} {K : Int → SV → SV → SV → World → Prop} (h : View RD w s arcs) (ht : View RI w t (fi arcs.length (kI arcs))) (ok : OkMap (n : Int) arcs) (hn : n ≤ 4096)
    (hK : ∀ sI sL sO w' L, Ext w w' → LeftV w' n sI sL sO (fun _ => 1) L (fun _ => 0) → Fsh w sI → Fsh w sL → Fsh w sO → (∀ k, sI.blk k → k < w'.heap.size) → (∀ k, sL.blk k → k < w'.heap.size) → (∀ k, sO.blk k → k < w'.heap.size) →
      Uq L → (∀ y, y ∈ L ↔ ∃ k, k < arcs.length ∧ Kept arcs k ∧ y = wyK arcs k) → K n sI sL sO w') : sh_postroadref08_New n s t K w := by
  unfold sh_postroadref08_New
  intro b1 w2 e2 g1 g1' b3 w4 e4 g3 g3' b5 w6 e6 g5 g5' w7 o7
  have z2 := e2.size; have z4 := e4.size; have z6 := e6.size; have z7 := o7.size
  have hlen := ok.len
  have e7 : Ext w w7 := ext_off ((e2.trans e4).trans e6) o7 (by omega)
  have big : ∀ i, i ≤ n → i * arcs.length ≤ 4096 * 67108864 := fun i hi => Nat.mul_le_mul (by omega) hlen
  refine Join.cut (fun (x : (Int × SV × SV × SV × Unit) × Unit) w' => x.1.1 = n ∧ ∃ L, Acc RI w w7.heap.size w' x.1.2.1 (fi n fun _ => 1) ∧ Acc RW w w7.heap.size w' x.1.2.2.1 L ∧ Acc RI w w7.heap.size w' x.1.2.2.2.1 (fi n fun _ => 0) ∧ L.length ≤ n * arcs.length ∧ Uq L ∧ (∀ y, y ∈ L ↔ ∃ k, k < arcs.length ∧ Kept arcs k ∧ y = wyK arcs k)) (fun J hJ => ?_) ?_
  · refine LoopT.gh (γ := Nat × List Wy) (fun g (st : Int × (Int × SV × SV × SV × Unit) × Unit) w' => st.1 = g.1 ∧ g.1 ≤ n ∧ st.2.1.1 = n ∧ Acc RI w w7.heap.size w' st.2.1.2.1 (fi g.1 fun _ => 1) ∧ Acc RW w w7.heap.size w' st.2.1.2.2.1 g.2 ∧ Acc RI w w7.heap.size w' st.2.1.2.2.2.1 (fi g.1 fun _ => 0) ∧
        Dj st.2.1.2.1.blk st.2.1.2.2.1.blk ∧ Dj st.2.1.2.1.blk st.2.1.2.2.2.1.blk ∧ Dj st.2.1.2.2.1.blk st.2.1.2.2.2.1.blk ∧ g.2.length ≤ g.1 * arcs.length ∧ Uq g.2 ∧ (∀ y, y ∈ g.2 ↔ ∃ k, k < arcs.length ∧ Kept arcs k ∧ (arcA arcs k).1 < (g.1 : Int) ∧ y = wyK arcs k)) (fun g => n - g.1) (0, [])
      ⟨rfl, Nat.zero_le _, rfl, Acc.nil e7 e7.size (Nat.le_refl _), Acc.nil e7 e7.size (Nat.le_refl _), Acc.nil e7 e7.size (Nat.le_refl _), fun _ ⟨_, h, _⟩ => (by cases h), fun _ ⟨_, h, _⟩ => (by cases h), fun _ ⟨_, h, _⟩ => (by cases h), by simp, List.Pairwise.nil, fun y => ⟨fun h => (by cases h), fun ⟨k, hk, _, h, _⟩ => by have := (ok.fr hk).1; simp only at h; omega⟩⟩ ?_
    rintro ⟨u, L⟩ ⟨x, ⟨m, sI, sL, sO, _⟩, _⟩ w11 ⟨hx, hu, hm, hI, hL, hO, dIL, dIO, dLO, hLl, hq, hmem⟩ J1 hJ1
    simp only at hx hu hm hI hL hO dIL dIO dLO hLl hq hmem
    subst hx hm
    dsimp only
    rw [Bool.cond_decide]
    by_cases hc : (u : Int) < (n : Int)
    · rw [if_pos hc]
      have hu' : u < n := by omega
      have z11 := hI.z
      have bg := big u hu
      refine Join.cut (fun (x : (Int × SV × SV × SV × Unit) × Unit) w' => x.1.1 = n ∧ ∃ L', Acc RI w w7.heap.size w' x.1.2.1 (fi (u + 1) fun _ => 1) ∧ Acc RW w w7.heap.size w' x.1.2.2.1 L' ∧ Acc RI w w7.heap.size w' x.1.2.2.2.1 (fi (u + 1) fun _ => 0) ∧
        Dj x.1.2.1.blk x.1.2.2.1.blk ∧ Dj x.1.2.1.blk x.1.2.2.2.1.blk ∧ Dj x.1.2.2.1.blk x.1.2.2.2.1.blk ∧ L'.length ≤ (u + 1) * arcs.length ∧ Uq L' ∧ (∀ y, y ∈ L' ↔ ∃ k, k < arcs.length ∧ Kept arcs k ∧ (arcA arcs k).1 < ((u + 1 : Nat) : Int) ∧ y = wyK arcs k)) (fun J' hJ' => ?_) ?_
      · refine hI.push (R := RI) (x := 1) (by rw [fi_len]; omega) (by rw [fi_len]; omega) fun w14 s15 w16 e14 c16 hs15 hI1 => ?_
        have z14 := e14.size
        refine ⟨hI.kp e14 c16 (by (intro b hb; simp only [List.mem_cons, List.not_mem_nil, or_false] at hb; omega)), fun w17 o17 => ?_⟩
        have hL1 := hL.other e14 c16 dIL.symm hI1.e
        have hO1 := hO.other e14 c16 dIO.symm hI1.e
        have dIL1 := hL.dj dIL hs15
        have dIO1 := hO.dj dIO hs15
        have hI2 := hI1.off o17 (by omega) (by omega); have hL2 := hL1.off o17 (by omega) (by omega); have hO2 := hO1.off o17 (by omega) (by omega)
        have z17 := hI2.z
        refine hO2.push (R := RI) (x := 0) (by rw [fi_len]; omega) (by rw [fi_len]; omega) fun w19 s20 w21 e19 c21 hs20 hO3 => ?_
        have z19 := e19.size
        refine ⟨hO2.kp e19 c21 (by (intro b hb; simp only [List.mem_cons, List.not_mem_nil, or_false] at hb; omega)), fun w22 o22 => ?_⟩
        have hI3 := hI2.other e19 c21 dIO1 hO3.e
        have hL3 := hL2.other e19 c21 dLO hO3.e
        have dIO3 := (hI2.dj dIO1.symm hs20).symm
        have dLO3 := (hL2.dj dLO.symm hs20).symm
        have hI4 := hI3.off o22 (by omega) (by omega); have hL4 := hL3.off o22 (by omega) (by omega); have hO4 := hO3.off o22 (by omega) (by omega)
        have z22 := hI4.z
        refine mOut_ok (h.ext hI4.e) (ht.ext hI4.e) ok fun s23 w24 xs e24 hX fX hr hxl hxm => ?_
        refine ⟨kp_ext e24 (by (intro b hb; simp only [List.mem_cons, List.not_mem_nil, or_false] at hb; omega)), ?_⟩
        have z24 := e24.size
        have dX : ∀ s : SV, (∀ k, s.blk k → k < w22.heap.size) → Dj s23.blk s.blk := fun s hs k h1 h2 => by have := fX k h1; have := hs k h2; omega
        have dXL := dX sL fun k hk => hL4.o.lt hk
        have hX5 : View RD w24 s23 xs := hX.view
        have hI5 := hI4.ext e24; have hL5 := hL4.ext e24; have hO5 := hO4.ext e24
        have ltX : ∀ k, s23.blk k → k < w24.heap.size := fun k hk => hX.lt hk
        have hx23 := hX5.len
        rw [← fi_succ] at hI5
        rw [← fi_succ] at hO5
        clear hX hI1 hI2 hI3 hI4 hL1 hL2 hL3 hL4 hO1 hO2 hO3 hO4
        refine LoopT.gh (γ := Nat × List Wy) (fun g (st : Int × (Int × SV × SV × SV × Unit) × Unit) w' => st.1 = g.1 ∧ g.1 ≤ xs.length ∧ st.2.1.1 = n ∧ st.2.1.2.1 = s15 ∧ st.2.1.2.2.2.1 = s20 ∧ Acc RI w w7.heap.size w' s15 (fi (u + 1) fun _ => 1) ∧ Acc RW w w7.heap.size w' st.2.1.2.2.1 g.2 ∧ Acc RI w w7.heap.size w' s20 (fi (u + 1) fun _ => 0) ∧
            Dj s15.blk st.2.1.2.2.1.blk ∧ Dj st.2.1.2.2.1.blk s20.blk ∧ Dj s23.blk st.2.1.2.2.1.blk ∧ View RD w' s23 xs ∧ w24.heap.size ≤ w'.heap.size ∧ g.2 = L ++ (xs.take g.1).map fun e => ((u : Int), e.1, e.2.1, (-1 : Int), e.2.2)) (fun g => xs.length - g.1) (0, L)
          ⟨rfl, Nat.zero_le _, rfl, rfl, rfl, hI5, hL5, hO5, dIL1, dLO3, dXL, hX5, Nat.le_refl _, by simp⟩ ?_
        rintro ⟨j, L'⟩ ⟨x, ⟨m', sI', sL', sO', _⟩, _⟩ w27 ⟨hx', hj, hm', e1, e2', hI6, hL6, hO6, d1, d2, d3, hX6, z27, hL'⟩ J2 hJ2
        simp only at hx' hj hm' e1 e2' hI6 hL6 hO6 d1 d2 d3 hX6 z27 hL'
        subst hx' hm' e1 e2'
        dsimp only
        rw [Bool.cond_decide]
        by_cases hcj : (j : Int) < (s23.len : Int)
        · rw [if_pos hcj]
          have hj' : j < xs.length := by omega
          refine do_idx hX6 hj' fun _ a0 _ _ => ⟨_, a0, ?_⟩
          refine do_idx hX6 hj' fun _ _ a1 _ => ⟨_, a1, ?_⟩
          refine do_idx hX6 hj' fun _ _ _ a2 => ⟨_, a2, ?_⟩
          intro w34 e34
          have hL7 := hL6.ext e34
          have hLen : L'.length = L.length + j := by rw [hL']; simp; omega
          refine hL7.push' (R := RW) (x := ((u : Int), xs[j].1, xs[j].2.1, -1, xs[j].2.2)) (by omega) (by omega) fun w37 s38 w39 e37 c39 hs38 hL8 => ?_
          have z34 := e34.size; have z37 := e37.size
          refine ⟨hL7.kp e37 c39 (by (intro b hb; simp only [List.mem_cons, List.not_mem_nil, or_false] at hb; omega)), fun w40 e40 w41 o41 w42 e42 => ?_⟩
          have hI8 := (hI6.ext e34).other e37 c39 d1 hL8.e
          have hO8 := (hO6.ext e34).other e37 c39 d2.symm hL8.e
          have hX8 := (hX6.ext (e34.trans e37)).chg c39 d3
          have z39 := hL8.z
          have c42 : ∀ {β : Type} {S : Rc β} {q : SV} {ys : List β}, Acc S w w7.heap.size w39 q ys → Acc S w w7.heap.size w42 q ys := fun hh => ((hh.ext e40).off o41 (by omega) (by omega)).ext e42
          have n5 : ¬ s23.blk b5 := fun hk => by have := fX _ hk; omega
          have z40 := e40.size; have z41 := o41.size; have z42 := e42.size
          have z39' := c39.size
          refine hJ2 (j + 1, L' ++ [((u : Int), xs[j].1, xs[j].2.1, -1, xs[j].2.2)]) _ _ ⟨wsucc (m := 2 ^ 40) (by omega) (by omega), by simp only; omega, rfl, rfl, rfl, c42 hI8, c42 hL8, c42 hO8, ?_, ?_, ?_, ((hX8.ext e40).chg (.of_off (F := fun k => k = b5) o41 rfl) fun k hk e => n5 (e ▸ hk)).ext e42, by omega, ?_⟩ (by simp only; omega)
          · exact (((hI6.ext e34).dj d1.symm hs38)).symm
          · exact (hO6.ext e34).dj d2 hs38
          · intro k hk1 hk2
            rcases hs38 k hk2 with q | q
            · exact d3 k hk1 q
            · have := ltX k hk1; omega
          · rw [take_snoc' hj', List.map_append, ← List.append_assoc, ← hL']; rfl
        · rw [if_neg hcj]
          have : j = xs.length := by omega
          subst this
          rw [List.take_length] at hL'
          have hmm : ∀ y, y ∈ L' ↔ y ∈ L ∨ ∃ k, k < arcs.length ∧ Kept arcs k ∧ (arcA arcs k).1 = (u : Int) ∧ y = wyK arcs k := fun y => by
            rw [hL', List.mem_append, List.mem_map]
            refine or_congr Iff.rfl ⟨fun ⟨e, he, hy⟩ => ?_, fun ⟨k, k1, k2, k3, hy⟩ => ?_⟩
            · obtain ⟨k, k1, k2, k3, rfl⟩ := (hxm e).1 he
              exact ⟨k, k1, k2, k3, by rw [← hy]; unfold edA wyK; rw [k3]⟩
            · exact ⟨edA arcs k, (hxm _).2 ⟨k, k1, k2, k3, rfl⟩, by rw [hy]; unfold edA wyK; rw [k3]⟩
          refine hJ' _ _ ⟨rfl, L', hI6, hL6, hO6, d1, dIO3, d2, ?_, ?_, fun y => ?_⟩
          · rw [hL', List.length_append, List.length_map, Nat.succ_mul]; omega
          · rw [hL']
            refine Uq.append hq ?_ fun a ha b hb => ?_
            · unfold Uq
              rw [List.pairwise_map]
              exact hr.imp fun {a b} h q => by have : a.1 = b.1 := q.2; omega
            · obtain ⟨k, k1, k2, k3, rfl⟩ := (hmem a).1 ha
              obtain ⟨e, _, rfl⟩ := List.mem_map.1 hb
              intro q
              have := q.1
              simp only [yF, wyK] at this
              omega
          · rw [hmm, hmem]
            constructor
            · rintro (⟨k, k1, k2, k3, k4⟩ | ⟨k, k1, k2, k3, k4⟩)
              · exact ⟨k, k1, k2, by omega, k4⟩
              · exact ⟨k, k1, k2, by omega, k4⟩
            · rintro ⟨k, k1, k2, k3, k4⟩
              by_cases e : (arcA arcs k).1 = (u : Int)
              · exact .inr ⟨k, k1, k2, e, k4⟩
              · exact .inl ⟨k, k1, k2, by omega, k4⟩
      · rintro ⟨⟨m', sI', sL', sO', _⟩, _⟩ w44 ⟨hm', L', q1, q2, q3, q4, q5, q6, q7, q8, q9⟩
        simp only at hm' q1 q2 q3 q4 q5 q6
        subst hm'
        exact hJ1 (u + 1, L') _ _ ⟨wsucc (m := 2 ^ 40) (by omega) (by omega), by simp only; omega, rfl, q1, q2, q3, q4, q5, q6, q7, q8, q9⟩ (by simp only; omega)
    · rw [if_neg hc]
      have : u = n := by omega
      subst this
      refine hJ _ _ ⟨rfl, L, hI, hL, hO, hLl, hq, fun y => ?_⟩
      rw [hmem]
      exact ⟨fun ⟨k, k1, k2, _, k4⟩ => ⟨k, k1, k2, k4⟩, fun ⟨k, k1, k2, k4⟩ => ⟨k, k1, k2, by have := ok.fr k1; omega, k4⟩⟩
  · rintro ⟨⟨m, sI, sL, sO, _⟩, _⟩ w46 ⟨hm, L, hI, hL, hO, hLl, hq, hmem⟩ w47 o47
    simp only at hm hI hL hO
    subst hm
    have hI := hI.off o47 (by omega) (by omega); have hL := hL.off o47 (by omega) (by omega); have hO := hO.off o47 (by omega) (by omega)
    have bg := big n (Nat.le_refl _)
    exact hK sI sL sO w47 L hI.e ⟨hI.o.view, hL.o.view, hO.o.view, by omega, hn⟩ (fun k hk => by have := hI.f k hk; omega) (fun k hk => by have := hL.f k hk; omega) (fun k hk => by have := hO.f k hk; omega) (fun k hk => hI.o.lt hk) (fun k hk => hL.o.lt hk) (fun k hk => hO.o.lt hk) hq hmem

theorem Places_ok {K : SV → World → Prop} (h : LeftV w n sI sL sO inn L lost)
    (hK : ∀ s w' ps, Ext w w' → Own RI w' s ps → Fsh w s → ps.length ≤ n → (∀ x, x ∈ ps ↔ ∃ v : Nat, v < n ∧ inn v = 1 ∧ x = (v : Int)) → K s w') : sh_postroadref08_Places n sI sL sO K w := by
  unfold sh_postroadref08_Places
  intro b1 w2 e2 g1 g1'
  have z2 := e2.size
  have hn := h.n40
  refine LoopT.gh (γ := Nat × List Int) (fun g (st : SV × Int × Unit) w' => st.2.1 = g.1 ∧ g.1 ≤ n ∧ Acc RI w w2.heap.size w' st.1 g.2 ∧ g.2.length ≤ g.1 ∧ ∀ x, x ∈ g.2 ↔ ∃ v : Nat, v < g.1 ∧ inn v = 1 ∧ x = (v : Int)) (fun g => n - g.1) (0, [])
    ⟨rfl, Nat.zero_le _, Acc.nil e2 z2 (Nat.le_refl _), Nat.le_refl _, fun e => by simp⟩ ?_
  rintro ⟨i, xs⟩ ⟨u, x, _⟩ w5 ⟨hx, hi, hA, hxl, hm⟩ J1 hJ1
  simp only at hx hi hA hxl hm
  subst hx
  dsimp only
  have z5 := hA.z
  rw [Bool.cond_decide]
  by_cases hc : (i : Int) < (n : Int)
  · rw [if_pos hc]
    have hi' : i < n := by omega
    refine Join.cut (fun (y : SV × Unit) w' => ∃ xs', Acc RI w w2.heap.size w' y.1 xs' ∧ xs'.length ≤ i + 1 ∧ ∀ e, e ∈ xs' ↔ e ∈ xs ∨ (inn i = 1 ∧ e = (i : Int))) (fun J hJ => ?_) ?_
    · refine fi_rd (h.i.ext hA.e) hi' fun a ha => ⟨_, ha, ?_⟩
      by_cases hk : inn i = 1
      · rw [show (inn i == 1) = true by rw [hk]; rfl, cond_true]
        refine hA.push (R := RI) (x := (i : Int)) (by omega) (by omega) fun w10 s11 w12 e10 c12 _ hA1 => ?_
        have z10 := e10.size
        refine ⟨hA.kp e10 c12 (by (intro b hb; simp only [List.mem_cons, List.not_mem_nil, or_false] at hb; omega)), hJ _ _ ⟨_, hA1, by simp; omega, fun e => ?_⟩⟩
        rw [List.mem_append, List.mem_singleton]
        exact or_congr Iff.rfl ⟨fun q => ⟨hk, q⟩, fun q => q.2⟩
      · rw [show (inn i == 1) = false by rw [beq_eq_false_iff_ne]; exact hk, cond_false]
        exact hJ _ _ ⟨xs, hA, by omega, fun e => ⟨.inl, fun q => q.elim id fun q => absurd q.1 hk⟩⟩
    · rintro ⟨u', _⟩ w20 ⟨xs', hA', hl', hm'⟩
      refine hJ1 (i + 1, xs') _ _ ⟨wsucc (m := 2 ^ 40) (by omega) (by omega), by simp only; omega, hA', hl', fun e => ?_⟩ (by simp only; omega)
      rw [hm', hm]
      constructor
      · rintro (⟨k, h1, h2, h3⟩ | ⟨h2, h3⟩)
        · exact ⟨k, by simp only; omega, h2, h3⟩
        · exact ⟨i, by simp only; omega, h2, h3⟩
      · rintro ⟨k, h1, h2, h3⟩
        simp only at h1
        by_cases e1 : k = i
        · subst e1; exact .inr ⟨h2, h3⟩
        · exact .inl ⟨k, by omega, h2, h3⟩
  · rw [if_neg hc]
    have : i = n := by omega
    subst this
    exact hK u w5 xs hA.e hA.o (fun k hk => by have := hA.f k hk; omega) hxl hm

def isF (n : Nat) (inn : Nat → Int) (v : Int) : Bool := decide (0 ≤ v ∧ v < n ∧ inn v.toNat = 1)
theorem is_ok {v : Int} {K : Bool → World → Prop} (h : LeftV w n sI sL sO inn L lost) (hK : ∀ w', Ext w w' → K (isF n inn v) w') : sh_postroadref08_is n sI sL sO v K w := by
  unfold sh_postroadref08_is
  intro b1 w2 e2 g1 g1'
  have := hK w2 e2
  unfold isF at this
  rw [Bool.cond_decide]
  by_cases h0 : v ≥ 0
  · rw [if_pos h0, Bool.cond_decide]
    by_cases h1 : v < n
    · rw [if_pos h1]
      obtain ⟨k, rfl⟩ := Int.eq_ofNat_of_zero_le h0
      refine fi_rd (h.i.ext e2) (show k < n by omega) fun a ha => ⟨_, ha, ?_⟩
      rw [show (inn k == 1) = decide (0 ≤ (k : Int) ∧ (k : Int) < n ∧ inn (k : Int).toNat = 1) by
        rw [Int.toNat_natCast, Bool.eq_iff_iff, beq_iff_eq, decide_eq_true_iff]; exact ⟨fun q => ⟨h0, h1, q⟩, fun q => q.2.2⟩]
      exact this
    · rw [if_neg h1]
      rw [decide_eq_false (fun q => h1 q.2.1)] at this; exact this
  · rw [if_neg h0]
    rw [decide_eq_false (fun q => h0 q.1)] at this; exact this

/-- The way from u to v, and whether there is one. -/
def wayF (L : List Wy) (u v : Int) : Int × Int × Int × Bool := match findW L u v with | some k => (yW (wyA L k), yM (wyA L k), yA (wyA L k), true) | none => (0, 0, 0, false)
theorem Way_ok {u v : Int} {K : Int → Int → Int → Bool → World → Prop} (h : LeftV w n sI sL sO inn L lost)
    (hK : ∀ w', Ext w w' → K (wayF L u v).1 (wayF L u v).2.1 (wayF L u v).2.2.1 (wayF L u v).2.2.2 w') : sh_postroadref08_Way n sI sL sO u v K w := by
  unfold sh_postroadref08_Way
  intro b1 w2 e2 g1 g1' b3 w4 e4 g3 g3'
  have z2 := e2.size; have z4 := e4.size
  have hl := h.l.len; have hk40 := h.k
  refine Join.cut (fun _ w' => Ext w w' ∧ findW L u v = none) (fun J hJ => ?_) ?_
  · refine LoopT.gh (γ := Nat) (fun i (st : Int × (Int × Int × Int × Unit) × Unit) w' => st.1 = i ∧ i ≤ L.length ∧ Ext w w' ∧ findW (L.take i) u v = none) (fun i => L.length - i) 0 ⟨rfl, Nat.zero_le _, e2.trans e4, rfl⟩ ?_
    rintro i ⟨x, ⟨x1, x2, x3, _⟩, _⟩ w5 ⟨hx, hi, e5, hno⟩ J1 hJ1
    simp only at hx; subst hx
    dsimp only
    rw [Bool.cond_decide]
    by_cases hc : (i : Int) < (sL.len : Int)
    · rw [if_pos hc]
      have hi' : i < L.length := by omega
      have hst := findW_snoc (L.take i) L[i] u v
      rw [← take_snoc' hi', hno] at hst
      simp only at hst
      refine Join.cut (fun _ w' => w' = w5 ∧ ¬ (yF L[i] = u ∧ yT L[i] = v)) (fun J' hJ' => ?_) ?_
      · refine way_idx (h.l.ext e5) hi' fun _ _ a0 _ _ _ _ => ⟨_, a0, ?_⟩
        by_cases h1 : yF L[i] = u
        · rw [show (yF L[i] == u) = true by simpa using h1, cond_true]
          refine way_idx (h.l.ext e5) hi' fun _ _ _ a1 _ _ _ => ⟨_, a1, ?_⟩
          by_cases h2 : yT L[i] = v
          · rw [show (yT L[i] == v) = true by simpa using h2, cond_true]
            have hf : findW L u v = some i := by
              have h3 : L = L.take (i + 1) ++ L.drop (i + 1) := (List.take_append_drop _ _).symm
              rw [if_pos ⟨h1, h2⟩, List.length_take, Nat.min_eq_left hi] at hst
              rw [h3]
              unfold findW at hst ⊢
              rw [List.findIdx?_append, hst]; rfl
            refine way_idx (h.l.ext e5) hi' fun a ha _ _ a2 a3 a4 => ⟨yW L[i], ?_, yM L[i], ?_, yA L[i], ?_, fun w18 o18 => ?_⟩
            · obtain ⟨b, o, sp⟩ := a
              simp only at ha; subst ha
              rw [addm] at a2 ⊢; rw [addm]; exact a2
            · obtain ⟨b, o, sp⟩ := a
              simp only at ha; subst ha
              rw [addm] at a3 ⊢; rw [addm, Nat.add_assoc]; exact a3
            · obtain ⟨b, o, sp⟩ := a
              simp only at ha; subst ha
              rw [addm] at a4 ⊢; rw [addm, Nat.add_assoc]; exact a4
            · have := hK w18 (ext_off e5 o18 (by omega))
              unfold wayF at this
              rw [hf] at this
              simp only [← wyA_get hi'] at this
              exact this
          · rw [show (yT L[i] == v) = false by simpa using h2, cond_false]
            exact hJ' _ _ ⟨rfl, fun hh => h2 hh.2⟩
        · rw [show (yF L[i] == u) = false by simpa using h1, cond_false]
          exact hJ' _ _ ⟨rfl, fun hh => h1 hh.1⟩
      · rintro _ w12 ⟨rfl, hne⟩
        rw [if_neg hne] at hst
        exact hJ1 (i + 1) _ _ ⟨wsucc (m := 2 ^ 40) (by omega) (by omega), by omega, e5, hst⟩ (by omega)
    · rw [if_neg hc]
      have : i = L.length := by omega
      subst this
      rw [List.take_length] at hno
      exact hJ _ _ ⟨e5, hno⟩
  · rintro _ w22 ⟨e22, hno⟩ w23 o23
    have := hK w23 (ext_off e22 o23 (by omega))
    unfold wayF at this
    rw [hno] at this; exact this
theorem Way_quiet {u v : Int} {K : Int × Int × Int × Bool → Prop} (h : LeftV w n sI sL sO inn L lost) (hk : K (wayF L u v)) :
    Quiet (Int × Int × Int × Bool) (fun r => (.tuple #[(.agg #[(.int .i64 r.1), (.int .i64 r.2.1), (.int .i64 r.2.2.1)]), (.bool r.2.2.2)])) (fun K18 w19' => sh_postroadref08_Way n sI sL sO u v (fun x13 x14 x15 t16 w19 => K18 (x13, x14, x15, t16) w19) w19') w K :=
  Quiet.mk _ (fun w' e _ hK' => Way_ok (h.ext e) fun w'' e'' => hK' w'' e'') hk

def hasF (L : List Wy) (u v : Nat) : Bool := (findW L (u : Int) (v : Int)).isSome
theorem wayF_has (L : List Wy) (u v : Nat) : (wayF L (u : Int) (v : Int)).2.2.2 = hasF L u v := by unfold wayF hasF; split <;> simp_all
/-- The places that a test takes. -/
def selL (p : Nat → Bool) (i : Nat) : List Int := ((List.range i).filter p).map fun (u : Nat) => (u : Int)
theorem selL_succ (p : Nat → Bool) (i : Nat) : selL p (i + 1) = if p i = true then selL p i ++ [(i : Int)] else selL p i := by
  unfold selL
  rw [List.range_succ, List.filter_append, List.map_append]
  by_cases h : p i = true
  · rw [if_pos h, List.filter_cons_of_pos h]; rfl
  · rw [if_neg h, List.filter_cons_of_neg h]; simp
theorem selL_len (p : Nat → Bool) (i : Nat) : (selL p i).length ≤ i := by
  unfold selL; rw [List.length_map]; have := List.length_filter_le p (List.range i); simpa using this
theorem mem_selL {p : Nat → Bool} {i : Nat} {x : Int} : x ∈ selL p i ↔ ∃ u : Nat, u < i ∧ p u = true ∧ x = (u : Int) := by
  unfold selL
  rw [List.mem_map]
  exact ⟨fun ⟨u, h1, h2⟩ => ⟨u, by simpa using (List.mem_filter.1 h1).1, (List.mem_filter.1 h1).2, h2.symm⟩, fun ⟨u, h1, h2, h3⟩ => ⟨u, List.mem_filter.2 ⟨by simpa using h1, h2⟩, h3.symm⟩⟩

theorem Ins_ok {v : Nat} {K : SV → World → Prop} (h : LeftV w n sI sL sO inn L lost)
    (hK : ∀ s w', Ext w w' → Own RI w' s (selL (fun u => hasF L u v) n) → Fsh w s → K s w') : sh_postroadref08_Ins n sI sL sO v K w := by
  unfold sh_postroadref08_Ins
  intro b1 w2 e2 g1 g1'
  have z2 := e2.size
  have hn := h.n40
  refine LoopT.gh (γ := Nat) (fun i (st : SV × Int × Unit) w' => st.2.1 = i ∧ i ≤ n ∧ Acc RI w w2.heap.size w' st.1 (selL (fun u => hasF L u v) i)) (fun i => n - i) 0 ⟨rfl, Nat.zero_le _, Acc.nil e2 z2 (Nat.le_refl _)⟩ ?_
  rintro i ⟨u, x, _⟩ w5 ⟨hx, hi, hA⟩ J1 hJ1
  simp only at hx hi hA
  subst hx
  dsimp only
  have z5 := hA.z
  have hsl := selL_len (fun u => hasF L u v) i
  rw [Bool.cond_decide]
  by_cases hc : (i : Int) < (n : Int)
  · rw [if_pos hc]
    have hi' : i < n := by omega
    refine Join.cut (fun (y : SV × Unit) w' => Acc RI w w2.heap.size w' y.1 (selL (fun u => hasF L u v) (i + 1))) (fun J hJ => ?_) ?_
    · refine Way_ok (h.ext hA.e) fun w11 e11 => ?_
      have z11 := e11.size
      refine ⟨kp_ext e11 (by (intro b hb; simp only [List.mem_cons, List.not_mem_nil, or_false] at hb; omega)), ?_⟩
      intro b12 w13 e13 g12 g12' w14 o14
      have z13 := e13.size; have z14 := o14.size
      have hA1 := hA.off' (e11.trans e13) o14 (by omega)
      rw [wayF_has]
      rw [selL_succ] at hJ
      by_cases hh : hasF L i v = true
      · rw [if_pos hh] at hJ
        rw [hh, cond_true]
        refine hA1.push (R := RI) (x := (i : Int)) (by omega) (by omega) fun w16 s17 w18 e16 c18 _ hA2 => ?_
        have z16 := e16.size
        refine ⟨kp_chg c18 fun b hb => ?_, hJ _ _ hA2⟩
        simp only [List.mem_cons, List.not_mem_nil, or_false] at hb
        exact ⟨by omega, fun hk => by have := hA.f _ hk; have := hA.o.lt hk; omega⟩
      · rw [if_neg hh] at hJ
        rw [Bool.not_eq_true] at hh
        rw [hh, cond_false]
        exact hJ _ _ hA1
    · rintro ⟨u', _⟩ w20 hA'
      exact hJ1 (i + 1) _ _ ⟨wsucc (m := 2 ^ 40) (by omega) (by omega), by omega, hA'⟩ (by omega)
  · rw [if_neg hc]
    have : i = n := by omega
    subst this
    exact hK u w5 hA.e hA.o (fun k hk => by have := hA.f k hk; omega)

theorem Outs_ok {v : Nat} {K : SV → World → Prop} (h : LeftV w n sI sL sO inn L lost)
    (hK : ∀ s w', Ext w w' → Own RI w' s (selL (fun u => hasF L v u) n) → Fsh w s → K s w') : sh_postroadref08_Outs n sI sL sO v K w := by
  unfold sh_postroadref08_Outs
  intro b1 w2 e2 g1 g1'
  have z2 := e2.size
  have hn := h.n40
  refine LoopT.gh (γ := Nat) (fun i (st : SV × Int × Unit) w' => st.2.1 = i ∧ i ≤ n ∧ Acc RI w w2.heap.size w' st.1 (selL (fun u => hasF L v u) i)) (fun i => n - i) 0 ⟨rfl, Nat.zero_le _, Acc.nil e2 z2 (Nat.le_refl _)⟩ ?_
  rintro i ⟨u, x, _⟩ w5 ⟨hx, hi, hA⟩ J1 hJ1
  simp only at hx hi hA
  subst hx
  dsimp only
  have z5 := hA.z
  have hsl := selL_len (fun u => hasF L v u) i
  rw [Bool.cond_decide]
  by_cases hc : (i : Int) < (n : Int)
  · rw [if_pos hc]
    have hi' : i < n := by omega
    refine Join.cut (fun (y : SV × Unit) w' => Acc RI w w2.heap.size w' y.1 (selL (fun u => hasF L v u) (i + 1))) (fun J hJ => ?_) ?_
    · refine Way_ok (h.ext hA.e) fun w11 e11 => ?_
      have z11 := e11.size
      refine ⟨kp_ext e11 (by (intro b hb; simp only [List.mem_cons, List.not_mem_nil, or_false] at hb; omega)), ?_⟩
      intro b12 w13 e13 g12 g12' w14 o14
      have z13 := e13.size; have z14 := o14.size
      have hA1 := hA.off' (e11.trans e13) o14 (by omega)
      rw [wayF_has]
      rw [selL_succ] at hJ
      by_cases hh : hasF L v i = true
      · rw [if_pos hh] at hJ
        rw [hh, cond_true]
        refine hA1.push (R := RI) (x := (i : Int)) (by omega) (by omega) fun w16 s17 w18 e16 c18 _ hA2 => ?_
        have z16 := e16.size
        refine ⟨kp_chg c18 fun b hb => ?_, hJ _ _ hA2⟩
        simp only [List.mem_cons, List.not_mem_nil, or_false] at hb
        exact ⟨by omega, fun hk => by have := hA.f _ hk; have := hA.o.lt hk; omega⟩
      · rw [if_neg hh] at hJ
        rw [Bool.not_eq_true] at hh
        rw [hh, cond_false]
        exact hJ _ _ hA1
    · rintro ⟨u', _⟩ w20 hA'
      exact hJ1 (i + 1) _ _ ⟨wsucc (m := 2 ^ 40) (by omega) (by omega), by omega, hA'⟩ (by omega)
  · rw [if_neg hc]
    have : i = n := by omega
    subst this
    exact hK u w5 hA.e hA.o (fun k hk => by have := hA.f k hk; omega)
end
end Go.Sh
