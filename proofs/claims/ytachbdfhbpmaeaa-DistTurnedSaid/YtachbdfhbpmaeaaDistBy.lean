/- DistBy, DistSteps. -/
import Derived.Test.YtachbdfhbpmaeaaDistKnown
set_option maxRecDepth 100000
namespace Go.Sh
open Go.RowKit

theorem tmod_u {a n : Int} (ha : 0 ≤ a ∧ a < 256) (hn : 1 ≤ n ∧ n ≤ 12) : ∃ i : Nat, (IntKind.i64.wrap a).tmod n = (i : Int) ∧ (i : Int) < n := by
  rw [w64 (by omega) (by omega)]
  have h0 : 0 ≤ a.tmod n := Int.tmod_nonneg _ ha.1
  have h1 : a.tmod n < n := Int.tmod_lt_of_pos _ (by omega)
  obtain ⟨i, hi⟩ := Int.eq_ofNat_of_zero_le h0
  exact ⟨i, hi, by omega⟩

section
variable {CV : CVT} {w : World} {s : SV} {as : List Arc}

theorem bet_in {N : Int} {arcs : List Arc} {i j : Nat} (hi : (i : Int) < N) (hj : (j : Int) < N) : betF N arcs (i : Int) (j : Int) = dst arcs i j := by
  unfold betF; rw [if_pos (by omega)]; simp

theorem DistBy_ok (hcv : DistCV CV) {n0 a b c : Int} {K : Bool → World → Prop} (h : View RD w s as) (ha : 0 ≤ a ∧ a < 256) (hb : 0 ≤ b ∧ b < 256) (hc : 0 ≤ c ∧ c < 256) (hk : ∀ w', Ext w w' → K true w') : sh_postroadlaw07_DistBy CV n0 s a b c K w := by
  unfold sh_postroadlaw07_DistBy
  refine Of7_ok h fun n t w3 arcs e3 n1 n2 ok hl40 hO fO => ?_
  obtain ⟨i, hi, hi2⟩ := tmod_u ha ⟨n1, n2⟩
  obtain ⟨j, hj, hj2⟩ := tmod_u hb ⟨n1, n2⟩
  obtain ⟨k, hk', hk2⟩ := tmod_u hc ⟨n1, n2⟩
  rw [hi, hj, hk']
  have htot := totW_ok ok
  intro b4 w5 e5 g4 g4' w6 o6
  have z3 := e3.size; have z5 := e5.size; have z6 := o6.size
  have e06 : Ext w w6 := ext_off (e3.trans e5) o6 (by omega)
  have hO6 : Own RD w6 t arcs := (hO.ext e5).off o6 fun hk => by have := hO.lt hk; omega
  refine GNew_ok hcv.g hO6.view (fun _ p w8 F e8 hG _ => ⟨kp1 e8 (by omega), ?_⟩) (fun no => absurd ok no)
  have z8 := e8.size
  rw [if_neg (by omega), if_neg (by omega), if_neg (by omega)]
  refine Between_ok hcv hG fun w10 e10 => ⟨kp1 e10 (by omega), ?_⟩
  have z10 := e10.size
  refine Between_ok hcv (hG.ext e10) fun w12 e12 => ⟨kp1 e12 (by omega), ?_⟩
  have z12 := e12.size
  refine Between_ok hcv ((hG.ext e10).ext e12) fun w14 e14 => ⟨kp1 e14 (by omega), ?_⟩
  have z14 := e14.size
  rw [bet_in hi2 hj2, bet_in hj2 hk2, bet_in hi2 hk2]
  have e014 := (((e06.trans e8).trans e10).trans e12).trans e14
  have hG14 := ((hG.ext e10).ext e12).ext e14
  have hO14 := (((hO6.ext e8).ext e10).ext e12).ext e14
  refine Join.cut (fun _ w' => Ext w14 w') (fun J hJ => ?_) ?_
  · have fin : sh_dist_Between CV p (i : Int) (i : Int) (fun x16 w17 => (Keeps [b4] w14 w17 ∧ (cond (x16 != (0 : Int)) (K false w17) (sh_dist_Total CV n t (fun x18 w19 => (Keeps [b4] w17 w19 ∧ (cond (decide (dst arcs i j > x18)) (K false w19) (J () w19)))) w17)))) w14 := by
      refine Between_ok hcv hG14 fun w17 e17 => ⟨kp1 e17 (by omega), ?_⟩
      have z17 := e17.size
      rw [bet_in hi2 hi2, dst_self ok, bne_self_eq_false, cond_false]
      refine Total_ok hcv (hO14.ext e17).view fun w19 e19 => ⟨kp1 e19 (by omega), ?_⟩
      have h1 : totF n arcs = totW arcs := by unfold totF; rw [if_pos ok]
      have h2 := dst_tot ok i j hi2
      rw [h1, decide_eq_false (by omega), cond_false]
      exact hJ _ _ (e17.trans e19)
    rw [Bool.cond_decide]
    split
    · rename_i x0
      rw [Bool.cond_decide]
      split
      · rename_i y0
        have w1 := (dst_is ok i j).wk x0
        have w2 := (dst_is ok j k).wk y0
        obtain ⟨m1, m2⟩ := (dst_is ok i k).min (w1.trans w2)
        have t1 := dst_tot ok i j hi2; have t2 := dst_tot ok j k hj2
        rw [decide_eq_false (by omega), cond_false, w64 (by omega) (by omega), decide_eq_false (by omega), cond_false]
        exact fin
      · exact fin
    · exact fin
  rintro _ w29 e29
  have z29 := e29.size
  refine Out_ok (hG14.ext e29) fun s30 w31 e31 hO30 _ => ⟨kp1 e31 (by omega), ?_⟩
  have z31 := e31.size
  have l30 := hO30.view.len
  have hlen := outE_len ok (i : Int)
  have e031 := (e014.trans e29).trans e31
  refine Join.cut (fun _ w' => Ext w31 w') (fun J hJ => ?_) ?_
  · refine LoopT.gh (γ := Nat) (fun q (st : Int × Unit) w' => st.1 = q ∧ q ≤ (outE n arcs (i : Int)).length ∧ Ext w31 w') (fun q => (outE n arcs (i : Int)).length - q) 0 ⟨rfl, Nat.zero_le _, .refl _⟩ ?_
    rintro q ⟨x, _⟩ w35 ⟨hx, hq, e35⟩ J1 hJ1
    simp only at hx; subst hx
    dsimp only
    have z35 := e35.size
    rw [Bool.cond_decide]
    by_cases hcc : (q : Int) < (s30.len : Int)
    · rw [if_pos hcc]
      have hq' : q < (outE n arcs (i : Int)).length := by omega
      obtain ⟨v, hv, hE, _⟩ := outE_EA ok (List.getElem_mem hq')
      refine do_idx (hO30.ext e35).view hq' fun _ a0 _ _ => ⟨_, a0, ?_⟩
      rw [hv]
      obtain ⟨_, _, _, _, _, _, hvn, _⟩ := EA_arc ok hE
      refine Between_ok hcv (((hG14.ext e29).ext e31).ext e35) fun w39 e39 => ⟨kp1 e39 (by omega), ?_⟩
      rw [bet_in hi2 hvn]
      obtain ⟨m1, m2⟩ := (dst_is ok i v).min (.edge hE)
      rw [decide_eq_false (by omega), cond_false]
      refine do_idx ((hO30.ext e35).ext e39).view hq' fun _ _ a1 _ => ⟨_, a1, ?_⟩
      rw [decide_eq_false (by omega), cond_false]
      exact hJ1 (q + 1) _ _ ⟨wsucc (m := 2 ^ 40) (by omega) (by omega), by omega, e35.trans e39⟩ (by omega)
    · rw [if_neg hcc]; exact hJ _ _ e35
  rintro _ w43 e43
  have z43 := e43.size
  exact known7_ok hcv fun w45 e45 => ⟨kp1 e45 (by omega), hk w45 ((e031.trans e43).trans e45)⟩

/-- The edge by which a place is entered. -/
theorem last_in {n : Nat} {arcs : List Arc} (ok : OkMap (n : Int) arcs) {u v : Nat} (hne : v ≠ u) (h0 : 0 ≤ dst arcs u v) : ∃ e ∈ inE (n : Int) arcs (v : Int), ∃ q : Nat, e.1 = (q : Int) ∧ 0 ≤ dst arcs u q ∧ dst arcs u v = dst arcs u q + e.2.1 := by
  have hD := dst_is ok u v
  have hw := hD.wk h0
  obtain ⟨y, hy, hyw⟩ := hw.loops (F := fun a b x => EA arcs a b x ∧ ∃ k ∈ keptL arcs, frA arcs k = a ∧ toA arcs k = b ∧ wtA arcs k = x) (EA_pos ok) fun a b x e hab => by
    obtain ⟨c, hc, h1, h2⟩ := EA_outE ok e hab
    obtain ⟨k, hk, hf, rfl⟩ := (mem_outE ok).1 hc
    simp only at h1 h2
    have := EA_of ok (kept_lt hk)
    rw [show frA arcs k = a by omega, show toA arcs k = b by omega] at this
    exact ⟨wtA arcs k, h2, this, k, hk, by omega, by omega, rfl⟩
  have hy2 := (hD.min (hyw.mono fun _ _ _ e => e.1)).2
  cases hyw with
  | nil => exact absurd rfl hne
  | snoc hq e =>
    rename_i q d x
    obtain ⟨hE, k, hk, h1, h2, h3⟩ := e
    have hq' := hq.mono (F := EA arcs) fun _ _ _ e => e.1
    obtain ⟨m1, m2⟩ := (dst_is ok u q).min hq'
    have m3 := (hD.min (((dst_is ok u q).wk m1).snoc hE)).2
    refine ⟨_, (mem_inE ok).2 ⟨k, hk, by rw [h2], rfl⟩, q, by simp only; omega, m1, ?_⟩
    simp only; omega

/-- Is a place made up by one of some edges? -/
noncomputable def madeF (b0 : Bool) (dv : Int) (d : Nat → Int) (l : List Arc) : Bool := b0 || l.any fun e => decide (0 ≤ d e.1.toNat) && (dv == d e.1.toNat + e.2.1)
theorem madeF_snoc (b0 : Bool) (dv : Int) (d : Nat → Int) (l : List Arc) (e : Arc) : madeF b0 dv d (l ++ [e]) = (madeF b0 dv d l || (decide (0 ≤ d e.1.toNat) && (dv == d e.1.toNat + e.2.1))) := by
  unfold madeF; rw [List.any_append, Bool.or_assoc]; simp

theorem steps_loop {n u v : Nat} {arcs : List Arc} {s9 s16 : SV} {w17 : World} (ok : OkMap (n : Int) arcs) (hu : u < n) (hv : v < n) (h9 : View RI w17 s9 (fi n fun j => dst arcs u j)) (h16 : View RD w17 s16 (inE (n : Int) arcs (v : Int))) (b0 : Bool) {Kf : World → Prop} {J : Bool × Unit → World → Prop}
    (hJ : ∀ w', Ext w17 w' → J (madeF b0 (dst arcs u v) (dst arcs u) (inE (n : Int) arcs (v : Int)), ()) w') :
    LoopT (Bool × Int × Unit) (fun t22 again21 w23 =>
      (cond (decide (t22.2.1 < (s16.len : Int))) (Join (Bool × Unit) (fun J24 =>
      (Idx s16.a s16.len t22.2.1 3 (fun a25 =>
      (∃ x26 : Int, w23.cell? (a25.add 0) = some (.int .i64 x26) ∧
      (Idx s9.a s9.len x26 1 (fun a27 =>
      (∃ x28 : Int, w23.cell? a27 = some (.int .i64 x28) ∧
      (Join (Unit) (fun J29 =>
      (cond (decide (x28 ≥ (0 : Int))) (Idx s9.a s9.len (v : Int) 1 (fun a30 =>
      (∃ x31 : Int, w23.cell? a30 = some (.int .i64 x31) ∧
      (cond (decide (x31 < (0 : Int))) (∀ w32, Ext w23 w32 →
      (Kf w32)) (Idx s9.a s9.len (v : Int) 1 (fun a33 =>
      (∃ x34 : Int, w23.cell? a33 = some (.int .i64 x34) ∧
      (Idx s16.a s16.len t22.2.1 3 (fun a35 =>
      (∃ x36 : Int, w23.cell? (a35.add 1) = some (.int .i64 x36) ∧
      (∀ w37, Ext w23 w37 →
      (cond (decide (x34 > (IntKind.i64.wrap (x28 + x36)))) (Kf w37) (J29 () w37))))))))))))) (∀ w38, Ext w23 w38 →
      (J29 () w38))))
      (fun t39 w40 =>
      (cond t22.1 (∀ w41, Ext w40 w41 →
      (J24 (true, ()) w41)) (cond (decide (x28 ≥ (0 : Int))) (Idx s9.a s9.len (v : Int) 1 (fun a42 =>
      (∃ x43 : Int, w40.cell? a42 = some (.int .i64 x43) ∧
      (Idx s16.a s16.len t22.2.1 3 (fun a44 =>
      (∃ x45 : Int, w40.cell? (a44.add 1) = some (.int .i64 x45) ∧
      (∀ w46, Ext w40 w46 →
      (J24 (x43 == (IntKind.i64.wrap (x28 + x45)), ()) w46)))))))) (∀ w47, Ext w40 w47 →
      (J24 (false, ()) w47)))))))))))))
      (fun t48 w49 =>
      (again21 (t48.1, (IntKind.i64.wrap (t22.2.1 + (1 : Int))), ()) w49))) (J (t22.1, ()) w23))) (b0, (0 : Int), ()) w17 := by
  have l16 := h16.len
  have hlen := inE_len ok (v : Int)
  have htot := totW_ok ok
  generalize hL : inE (n : Int) arcs (v : Int) = L at *
  refine LoopT.gh (γ := Nat) (fun i (st : Bool × Int × Unit) w' => st.1 = madeF b0 (dst arcs u v) (dst arcs u) (L.take i) ∧ st.2.1 = i ∧ i ≤ L.length ∧ Ext w17 w') (fun i => L.length - i) 0 ⟨by simp [madeF], rfl, Nat.zero_le _, .refl _⟩ ?_
  rintro i ⟨m, x, _⟩ w23 ⟨hm, hx, hi, e23⟩ J1 hJ1
  simp only at hm hx; subst hx hm
  dsimp only
  rw [Bool.cond_decide]
  by_cases hc : (i : Int) < (s16.len : Int)
  · rw [if_pos hc]
    have hi' : i < L.length := by omega
    obtain ⟨k, hk, hto, he⟩ := (mem_inE ok).1 (by rw [hL]; exact List.getElem_mem hi')
    have hE := EA_of ok (kept_lt hk)
    rw [show toA arcs k = v by omega] at hE
    obtain ⟨_, _, _, _, _, qn, _, w0, w1⟩ := EA_arc ok hE
    have h1 : L[i].1 = (frA arcs k : Int) := by rw [he]
    have h2 : L[i].2.1 = wtA arcs k := by rw [he]
    have hsn := madeF_snoc b0 (dst arcs u v) (dst arcs u) (L.take i) L[i]
    rw [← take_snoc' hi', h1, h2, Int.toNat_natCast] at hsn
    have t1 := dst_tot ok u (frA arcs k) (by omega)
    refine Join.cut (fun (x : Bool × Unit) w' => x.1 = madeF b0 (dst arcs u v) (dst arcs u) (L.take (i + 1)) ∧ Ext w17 w') (fun J2 hJ2 => ?_) (fun x w' ⟨q1, q2⟩ => hJ1 (i + 1) _ _ ⟨q1, wsucc (m := 2 ^ 40) (by omega) (by omega), by omega, q2⟩ (by omega))
    have h9' := h9.ext e23; have h16' := h16.ext e23
    refine do_idx h16' hi' fun _ a0 _ _ => ⟨_, a0, ?_⟩
    rw [h1]
    refine fi_rd h9' (show frA arcs k < n by omega) fun _ q => ⟨_, q, ?_⟩
    refine Join.cut (fun _ w' => Ext w23 w') (fun J3 hJ3 => ?_) ?_
    · rw [Bool.cond_decide]
      split
      · rename_i x0
        obtain ⟨m1, m2⟩ := (dst_is ok u v).min (((dst_is ok u (frA arcs k)).wk x0).snoc hE)
        refine fi_rd h9' hv fun _ q => ⟨_, q, ?_⟩
        rw [decide_eq_false (by omega), cond_false]
        refine fi_rd h9' hv fun _ q => ⟨_, q, ?_⟩
        refine do_idx h16' hi' fun _ _ a1 _ => ⟨_, a1, ?_⟩
        intro w37 e37
        rw [h2, w64 (by omega) (by omega), decide_eq_false (by omega), cond_false]
        exact hJ3 _ _ e37
      · intro w38 e38; exact hJ3 _ _ e38
    rintro _ w40 e40
    have e40' := e23.trans e40
    generalize hM : madeF b0 (dst arcs u v) (dst arcs u) (L.take i) = M at *
    cases M with
    | true =>
      rw [cond_true]
      intro w41 e41
      exact hJ2 _ _ ⟨by rw [hsn]; simp, e40'.trans e41⟩
    | false =>
      rw [cond_false, Bool.cond_decide]
      rw [Bool.false_or] at hsn
      split
      · rename_i x0
        refine fi_rd (h9.ext e40') hv fun _ q => ⟨_, q, ?_⟩
        refine do_idx (h16.ext e40') hi' fun _ _ a1 _ => ⟨_, a1, ?_⟩
        intro w46 e46
        rw [h2, w64 (by omega) (by omega)]
        exact hJ2 _ _ ⟨by rw [hsn, decide_eq_true (show 0 ≤ dst arcs u (frA arcs k) from x0), Bool.true_and], e40'.trans e46⟩
      · rename_i x0
        intro w47 e47
        exact hJ2 _ _ ⟨by rw [hsn, decide_eq_false (fun h : 0 ≤ dst arcs u (frA arcs k) => x0 h), Bool.false_and], e40'.trans e47⟩
  · rw [if_neg hc]
    have : i = L.length := by omega
    subst this
    rw [List.take_length]
    exact hJ _ e23

theorem DistSteps_ok (hcv : DistCV CV) {n0 a : Int} {K : Bool → World → Prop} (h : View RD w s as) (ha : 0 ≤ a ∧ a < 256) (hk : ∀ w', Ext w w' → K true w') : sh_postroadlaw07_DistSteps CV n0 s a K w := by
  unfold sh_postroadlaw07_DistSteps
  refine Of7_ok h fun n t w3 arcs e3 n1 n2 ok hl40 hO fO => ?_
  obtain ⟨u, hu, hu2⟩ := tmod_u ha ⟨n1, n2⟩
  rw [hu]
  intro b4 w5 e5 g4 g4' w6 o6
  have z3 := e3.size; have z5 := e5.size; have z6 := o6.size
  have e06 : Ext w w6 := ext_off (e3.trans e5) o6 (by omega)
  have hO6 : Own RD w6 t arcs := (hO.ext e5).off o6 fun hk => by have := hO.lt hk; omega
  refine GNew_ok hcv.g hO6.view (fun _ p w8 F e8 hG _ => ⟨kp1 e8 (by omega), ?_⟩) (fun no => absurd ok no)
  have z8 := e8.size
  rw [if_neg (by omega)]
  refine From_ok hcv hG fun s9 w10 e10 hO9 _ => ⟨kp1 e10 (by omega), ?_⟩
  have z10 := e10.size
  obtain ⟨m, rfl⟩ := Int.eq_ofNat_of_zero_le (show 0 ≤ n by omega)
  have l9 := hO9.view.len
  rw [distL_len ⟨by omega, hu2⟩] at l9
  rw [distL_get ⟨by omega, hu2⟩] at hO9
  simp only [Int.toNat_natCast] at hO9 l9
  rw [show ((s9.len : Int) != (m : Int)) = false by rw [l9]; simp, cond_false]
  have e010 := (e06.trans e8).trans e10
  refine Join.cut (fun _ w' => Ext w10 w') (fun J hJ => ?_) (fun _ w91 e91 => known7_ok hcv fun w93 e93 => ⟨kp1 e93 (by have := e91.size; omega), hk w93 ((e010.trans e91).trans e93)⟩)
  refine LoopT.gh (γ := Nat) (fun v (st : Int × Unit) w' => st.1 = v ∧ v ≤ m ∧ Ext w10 w') (fun v => m - v) 0 ⟨rfl, Nat.zero_le _, .refl _⟩ ?_
  rintro v ⟨x, _⟩ w14 ⟨hx, hv, e14⟩ J1 hJ1
  simp only at hx; subst hx
  dsimp only
  have z14 := e14.size
  rw [Bool.cond_decide]
  by_cases hc : (v : Int) < (m : Int)
  · rw [if_pos hc]
    have hv' : v < m := by omega
    refine Join.cut (fun _ w' => Ext w10 w') (fun J2 hJ2 => ?_) (fun _ w' q => hJ1 (v + 1) _ _ ⟨wsucc (m := 2 ^ 40) (by omega) (by omega), by omega, q⟩ (by omega))
    refine In_ok ((hG.ext e10).ext e14) fun s16 w17 e17 hO16 _ => ⟨kp1 e17 (by omega), ?_⟩
    have h9 := ((hO9.ext e14).ext e17).view
    have fin : ∀ (b0 : Bool), (b0 = true ↔ v = u) → ∀ w51, Ext w17 w51 → (cond (!(madeF b0 (dst arcs u v) (dst arcs u) (inE (m : Int) arcs (v : Int)))) (Idx s9.a s9.len (v : Int) 1 (fun a52 =>
        (∃ x53 : Int, w51.cell? a52 = some (.int .i64 x53) ∧ (cond (decide (x53 ≥ (0 : Int))) (K false w51) (J2 () w51))))) (J2 () w51)) := fun b0 hb0 w51 e51 => by
      have e51' := (e14.trans e17).trans e51
      cases hM : madeF b0 (dst arcs u v) (dst arcs u) (inE (m : Int) arcs (v : Int)) with
      | true => simp only [Bool.not_true, cond_false]; exact hJ2 _ _ e51'
      | false =>
        simp only [Bool.not_false, cond_true]
        refine fi_rd (h9.ext e51) hv' fun _ q => ⟨_, q, ?_⟩
        unfold madeF at hM
        rw [Bool.or_eq_false_iff] at hM
        have hne : v ≠ u := fun e => by rw [hb0.2 e] at hM; cases hM.1
        by_cases h0 : dst arcs u v ≥ 0
        · exfalso
          obtain ⟨e, he, q, h1, h2, h3⟩ := last_in ok hne h0
          have := List.any_eq_false.1 hM.2 e he
          rw [h1, Int.toNat_natCast] at this
          simp [h2, h3] at this
        · rw [decide_eq_false h0, cond_false]; exact hJ2 _ _ e51'
    by_cases hvu : v = u
    · subst hvu
      rw [show (((v : Nat) : Int) == (v : Int)) = true by simp, cond_true]
      refine fi_rd h9 hv' fun _ q => ⟨_, q, ?_⟩
      rw [dst_self ok]
      refine Join.cut (fun (x : Bool × Unit) w' => x.1 = madeF true (dst arcs v v) (dst arcs v) (inE (m : Int) arcs (v : Int)) ∧ Ext w17 w') (fun J3 hJ3 => steps_loop ok (by omega) hv' h9 hO16.view true fun w' e' => hJ3 _ _ ⟨rfl, e'⟩) ?_
      rintro ⟨x, _⟩ w51 ⟨hx, e51⟩
      simp only at hx; subst hx
      exact fin true (by simp) w51 e51
    · rw [show (((v : Nat) : Int) == (u : Int)) = false by simp; omega, cond_false]
      refine Join.cut (fun (x : Bool × Unit) w' => x.1 = madeF false (dst arcs u v) (dst arcs u) (inE (m : Int) arcs (v : Int)) ∧ Ext w17 w') (fun J3 hJ3 => steps_loop ok (by omega) hv' h9 hO16.view false fun w' e' => hJ3 _ _ ⟨rfl, e'⟩) ?_
      rintro ⟨x, _⟩ w85 ⟨hx, e85⟩
      simp only at hx; subst hx
      exact fin false (by simp [hvu]) w85 e85
  · rw [if_neg hc]; exact hJ _ _ e14
end
end Go.Sh
