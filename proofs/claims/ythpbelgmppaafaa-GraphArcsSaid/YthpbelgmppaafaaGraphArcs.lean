/- GraphArcs. -/
import Derived.Test.YthpbelgmppaafaaGraphSides
set_option maxRecDepth 100000
namespace Go.Sh
open Go.RowKit

theorem GraphArcs_ok {CV : CVT} (hcv : GraphCV CV) {w : World} {N : Int} {s : SV} {arcs : List Arc} {K : Bool → World → Prop} (h : View RD w s arcs) (hk : ∀ w', Ext w w' → K true w') : sh_postroadlaw06_GraphArcs CV N s K w := by
  unfold sh_postroadlaw06_GraphArcs
  intro b1 w2 e2 g1 g1'
  have z2 := e2.size
  have hlen := h.len
  refine Right_ok (h.ext e2) fun b w4 e4 hb => ⟨kp_ext e4 (by (intro b hb; simp only [List.mem_cons, List.not_mem_nil, or_false] at hb; omega)), ?_⟩
  have z4 := e4.size
  have e4' := e2.trans e4
  cases b with
  | false =>
    simp only [Bool.not_false, cond_true]
    exact known6_ok hcv fun w6 e6 => ⟨kp_ext e6 (by (intro b hb; simp only [List.mem_cons, List.not_mem_nil, or_false] at hb; omega)), hk w6 (e4'.trans e6)⟩
  | true =>
  obtain ⟨hs80, _, ok⟩ := hb rfl
  simp only [Bool.not_true, cond_false]
  have kp : ∀ {wa wb}, w4.heap.size ≤ wa.heap.size → Ext wa wb → Keeps [b1] wa wb := fun hz e => kp_ext e (by (intro b hb; simp only [List.mem_cons, List.not_mem_nil, or_false] at hb; omega))
  refine GNew_ok hcv (h.ext e4') (fun _ p w8 F e8 hG _ => ⟨kp (Nat.le_refl _) e8, ?_⟩) (fun hno => absurd ok hno)
  have z8 := e8.size
  have e8' := e4'.trans e8
  obtain ⟨n, rfl⟩ := Int.eq_ofNat_of_zero_le ok.n0
  have hn1 := ok.n1
  have hklen := keptL_len arcs
  refine Join.cut (fun _ w' => Ext w8 w') (fun J hJ => ?_) ?_
  · refine LoopT.gh (γ := Nat) (fun i (st : Int × Unit) w' => st.1 = i ∧ i ≤ arcs.length ∧ Ext w8 w') (fun i => arcs.length - i) 0 ⟨rfl, Nat.zero_le _, .refl _⟩ ?_
    rintro i ⟨x, _⟩ w12 ⟨hx, hi, e12⟩ J1 hJ1
    simp only at hx; subst hx
    dsimp only
    have z12 := e12.size
    rw [Bool.cond_decide]
    by_cases hc : (i : Int) < (s.len : Int)
    · rw [if_pos hc]
      have hi' : i < arcs.length := by omega
      refine Arc_ok (hG.ext e12) (fun i' hii hil w17 e17 => ⟨kp (by omega) e17, ?_⟩) (fun hno => absurd ⟨by omega, by omega⟩ hno)
      obtain rfl : i = i' := by omega
      intro b18 w19 e19 g18 _ w20 o20
      have z17 := e17.size
      have e20 : Ext w8 w20 := ext_off ((e12.trans e17).trans e19) o20 (by omega)
      simp only [Bool.not_true, cond_false]
      refine do_idx (h.ext (e8'.trans e20)) hi' fun a a0 a1 a2 => ⟨_, a0, _, a1, _, a2, ?_⟩
      intro w26 e26
      rw [arcA_get hi']
      simp only [beq_self_eq_true, Bool.and_self, Bool.not_true, cond_false]
      exact hJ1 (i + 1) _ _ ⟨wsucc (m := 2 ^ 40) (by omega) (by omega), by omega, e20.trans e26⟩ (by omega)
    · rw [if_neg hc]; exact hJ _ _ e12
  rintro _ w28 e28
  have z28 := e28.size
  refine Arc_ok (hG.ext e28) (fun i hi _ => by omega) (fun _ w33 e33 => ⟨kp (by omega) e33, ?_⟩)
  intro b34 w35 e35 g34 g34' w36 o36
  have z33 := e33.size; have z35 := e35.size; have z36 := o36.size
  have e36 : Ext w8 w36 := ext_off ((e28.trans e33).trans e35) o36 (by omega)
  refine Arc_ok (hG.ext e36) (fun i hi hil => by omega) (fun _ w41 e41 => ⟨kp_ext e41 (by (intro b hb; simp only [List.mem_cons, List.not_mem_nil, or_false] at hb; omega)), ?_⟩)
  intro b42 w43 e43 g42 g42' w44 o44
  have z41 := e41.size; have z43 := e43.size; have z44 := o44.size
  have e44 : Ext w8 w44 := ext_off ((e36.trans e41).trans e43) o44 (by omega)
  have kp2 : ∀ {wa wb}, w44.heap.size ≤ wa.heap.size → Ext wa wb → Keeps [b42, b34, b1] wa wb := fun hz e => kp_ext e (by (intro b hb; simp only [List.mem_cons, List.not_mem_nil, or_false] at hb; omega))
  refine Kept_ok hcv (hG.ext e44) fun s45 w46 e46 hO45 _ => ⟨kp2 (Nat.le_refl _) e46, ?_⟩
  have z46 := e46.size
  have e46' := e44.trans e46
  have l45 := hO45.view.len
  rw [ints_len] at l45
  obtain ⟨pk1, _⟩ := pre_kept ok
  refine Join.cut (fun (x : Int × Unit) w' => x.1 = ((keptL arcs).length : Int) ∧ Ext w46 w') (fun J hJ => ?_) ?_
  · generalize hT : sortedL n (keptL arcs) (toA arcs) = T at pk1
    refine LoopT.gh (γ := Nat) (fun v (st : Int × Int × Unit) w' => st.1 = (pre T (frA arcs) v : Int) ∧ st.2.1 = v ∧ v ≤ n ∧ Ext w46 w') (fun v => n - v) 0 ⟨by simp [pre_zero], rfl, Nat.zero_le _, .refl _⟩ ?_
    rintro v ⟨m, x, _⟩ w50 ⟨hm, hx, hv, e50⟩ J1 hJ1
    simp only at hm hx
    subst hx hm
    dsimp only
    have z50 := e50.size
    rw [Bool.cond_decide]
    by_cases hvn : (v : Int) < (n : Int)
    · rw [if_pos hvn]
      have hvn' : v < n := by omega
      have c1 := outE_cnt (arcs := arcs) hvn'
      rw [hT] at c1
      have q1 := pre_mono T (frA arcs) (show v + 1 ≤ n by omega)
      have q3 := pre_succ T (frA arcs) v
      refine Out_ok (hG.ext (e46'.trans e50)) fun s51 w52 e52 hO51 _ => ⟨kp2 (by omega) e52, ?_⟩
      have l51 := hO51.view.len
      refine hJ1 (v + 1) _ _ ⟨?_, wsucc (m := 2 ^ 40) (by omega) (by omega), by omega, e50.trans e52⟩ (by omega)
      simp only
      rw [l51, c1, w64 (by omega) (by omega), q3]; omega
    · rw [if_neg hvn]
      have : v = n := by omega
      subst this
      exact hJ _ _ ⟨by simp only; rw [pk1], e50⟩
  rintro ⟨m, _⟩ w54 ⟨hm, e54⟩
  simp only at hm
  subst hm
  have z54 := e54.size
  refine Join.cut (fun _ w' => Ext w46 w') (fun J hJ => ?_) ?_
  · refine LoopT.gh (γ := Nat) (fun i (st : Int × Unit) w' => st.1 = i ∧ i ≤ (keptL arcs).length ∧ Ext w46 w') (fun i => (keptL arcs).length - i) 0 ⟨rfl, Nat.zero_le _, e54⟩ ?_
    rintro i ⟨x, _⟩ w58 ⟨hx, hi, e58⟩ J1 hJ1
    simp only at hx; subst hx
    dsimp only
    have z58 := e58.size
    rw [Bool.cond_decide]
    by_cases hc : (i : Int) < (s45.len : Int)
    · rw [if_pos hc]
      have hi' : i < (keptL arcs).length := by omega
      have hii : i < (ints (keptL arcs)).length := by rw [ints_len]; exact hi'
      refine Join.cut (fun _ w' => Ext w46 w') (fun J2 hJ2 => ?_) (fun _ w89 e89 => hJ1 (i + 1) _ _ ⟨wsucc (m := 2 ^ 40) (by omega) (by omega), by omega, e89⟩ (by omega))
      refine int_idx (hO45.ext e58).view hii fun a ha => ⟨_, ha, ?_⟩
      rw [ints_get hii]
      have hm := List.getElem_mem hi'
      generalize hkk : (keptL arcs)[i] = k at hm
      have hkl := kept_lt hm
      have hkK := (mem_keptL.1 hm).2
      refine Arc_ok (hG.ext (e46'.trans e58)) (fun k' hk' _ w66 e66 => ⟨kp2 (by omega) e66, ?_⟩) (fun hno => absurd ⟨by omega, by omega⟩ hno)
      obtain rfl : k = k' := by omega
      intro b67 w68 e68 g67 g67' w69 o69
      have z66 := e66.size; have z68 := e68.size; have z69 := o69.size
      have e69 : Ext w46 w69 := ext_off ((e58.trans e66).trans e68) o69 (by omega)
      obtain ⟨hf, _⟩ := ok.fr hkl
      obtain ⟨ht, _⟩ := ok.to hkl
      refine Best_ok hcv (hG.ext (e46'.trans e69)) (fun e he w74 e74 => ⟨kp_ext e74 (by (intro b hb; simp only [List.mem_cons, List.not_mem_nil, or_false] at hb; omega)), ?_⟩) (fun he => absurd (best_none ok he k hm hf.symm ht.symm) id)
      obtain ⟨k', hk'm, hk'f, hk't, rfl⟩ := best_some ok he
      have hs : Same arcs k' k := by unfold Same; omega
      obtain rfl : k' = k := Less.total (hkK.2 k' (kept_lt hk'm) hs) ((mem_keptL.1 hk'm).2.2 k hkl hs.symm)
      intro b75 w76 e76 g75 _ w77 o77
      have z74 := e74.size
      have e77 : Ext w46 w77 := ext_off ((e69.trans e74).trans e76) o77 (by omega)
      simp only [Bool.not_true, cond_false]
      refine int_idx (hO45.ext e77).view hii fun a ha => ⟨_, ha, ?_⟩
      rw [ints_get hii, hkk, bne_self_eq_false, cond_false, Bool.cond_decide]
      by_cases hi0 : (i : Int) > 0
      · rw [if_pos hi0]
        refine int_idx (hO45.ext e77).view hii fun a ha => ⟨_, ha, ?_⟩
        rw [show IntKind.i64.wrap ((i : Int) - 1) = ((i - 1 : Nat) : Int) by rw [w64 (by omega) (by omega)]; omega]
        refine int_idx (hO45.ext e77).view (i := i - 1) (by omega) fun a ha => ⟨_, ha, ?_⟩
        intro w86 e86
        have hlt := List.pairwise_iff_getElem.1 (keptL_sorted arcs) (i - 1) i (by omega) hi' (by omega)
        rw [ints_get, ints_get, Bool.cond_decide, if_neg (by omega)]
        exact hJ2 _ _ (e77.trans e86)
      · rw [if_neg hi0]
        intro w87 e87
        exact hJ2 _ _ (e77.trans e87)
    · rw [if_neg hc]; exact hJ _ _ e58
  rintro _ w91 e91
  have z91 := e91.size
  simp only [Bool.not_false, cond_true]
  rw [show (((keptL arcs).length : Int) == (s45.len : Int)) = true by rw [beq_iff_eq]; omega, cond_true]
  exact known6_ok hcv fun w93 e93 => ⟨kp2 (by omega) e93, hk w93 (((e8'.trans e46').trans e91).trans e93)⟩
end Go.Sh
