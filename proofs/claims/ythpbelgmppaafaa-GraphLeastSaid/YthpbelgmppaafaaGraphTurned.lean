/- GraphTurned. -/
import Derived.Test.YthpbelgmppaafaaGraphRef
set_option maxRecDepth 100000
namespace Go.Sh
open Go.RowKit

def turn (a : Arc) : Arc := (a.2.1, a.1, a.2.2)
theorem arcA_turn (arcs : List Arc) (k : Nat) : arcA (arcs.map turn) k = turn (arcA arcs k) := by
  unfold arcA
  rw [List.getD_eq_getElem?_getD, List.getD_eq_getElem?_getD, List.getElem?_map]
  cases arcs[k]? <;> rfl
theorem fr_turn (arcs : List Arc) : frA (arcs.map turn) = toA arcs := funext fun k => by unfold frA toA; rw [arcA_turn]; rfl
theorem to_turn (arcs : List Arc) : toA (arcs.map turn) = frA arcs := funext fun k => by unfold frA toA; rw [arcA_turn]; rfl
theorem wt_turn (arcs : List Arc) : wtA (arcs.map turn) = wtA arcs := funext fun k => by unfold wtA; rw [arcA_turn]; rfl
theorem keptL_turn (arcs : List Arc) : keptL (arcs.map turn) = keptL arcs := by
  unfold keptL
  rw [List.length_map]
  apply List.filter_congr
  intro k _
  rw [decide_eq_decide]
  unfold Kept Same Less
  rw [fr_turn, to_turn, wt_turn, List.length_map]
  constructor
  · rintro ⟨h1, h2⟩; exact ⟨Ne.symm h1, fun i hi hs => h2 i hi ⟨hs.2, hs.1⟩⟩
  · rintro ⟨h1, h2⟩; exact ⟨Ne.symm h1, fun i hi hs => h2 i hi ⟨hs.2, hs.1⟩⟩
theorem edgeL_turn (arcs : List Arc) (to : Nat → Nat) (S : List Nat) : edgeL (arcs.map turn) to S = edgeL arcs to S := by unfold edgeL; rw [wt_turn]
theorem inE_turn (N : Int) (arcs : List Arc) (v : Int) : inE N (arcs.map turn) v = outE N arcs v := by
  unfold inE outE; rw [fr_turn, to_turn, keptL_turn, edgeL_turn]
theorem outE_turn (N : Int) (arcs : List Arc) (v : Int) : outE N (arcs.map turn) v = inE N arcs v := by
  unfold inE outE; rw [fr_turn, to_turn, keptL_turn, edgeL_turn]
theorem ok_turn {N : Int} {arcs : List Arc} (h : OkMap N arcs) : OkMap N (arcs.map turn) :=
  ⟨h.n0, h.n1, by rw [List.length_map]; exact h.len, fun a ha => by
    obtain ⟨b, hb, rfl⟩ := List.mem_map.1 ha
    have := h.arc b hb
    unfold OkArc at *; unfold turn; simp only; omega⟩
theorem outE_len {N : Int} {arcs : List Arc} (ok : OkMap N arcs) (v : Int) : (outE N arcs v).length < 2 ^ 40 := by
  have hl := ok.len
  unfold outE
  split
  · rw [edgeL_len]
    have h1 := List.length_filter_le (frA arcs · == v.toNat) (sortedL N.toNat (keptL arcs) (toA arcs))
    have h2 := sortedL_len (n := N.toNat) (l := keptL arcs) (e := toA arcs) fun k hk => (ok.to (kept_lt hk)).2
    have h3 := keptL_len arcs
    unfold outK; omega
  · simp
theorem inE_len {N : Int} {arcs : List Arc} (ok : OkMap N arcs) (v : Int) : (inE N arcs v).length < 2 ^ 40 := by
  rw [← outE_turn]; exact outE_len (ok_turn ok) v
theorem kept_len40 {N : Int} {arcs : List Arc} (ok : OkMap N arcs) : (ints (keptL arcs)).length < 2 ^ 40 := by
  have := keptL_len arcs; have := ok.len; rw [ints_len]; omega

theorem GraphTurned_ok {CV : CVT} (hcv : GraphCV CV) {w : World} {n0 : Int} {s : SV} {as : List Arc} {K : Bool → World → Prop} (h : View RD w s as) (hk : ∀ w', Ext w w' → K true w') : sh_postroadlaw06_GraphTurned CV n0 s K w := by
  unfold sh_postroadlaw06_GraphTurned
  refine Of_ok h fun n s2 w3 arcs e3 hn1 hn2 ok hl hO fO => ?_
  intro b4 w5 e5 g4 g4' w6 o6 b7 w8 e8 g7 g7' w9 o9
  have z3 := e3.size; have z5 := e5.size; have z6 := o6.size; have z8 := e8.size; have z9 := o9.size
  have e9 : Ext w w9 := ext_off ((ext_off (e3.trans e5) o6 (by omega)).trans e8) o9 (by omega)
  have bs2 : ∀ k, s2.blk k → k < w3.heap.size := fun k hk => hO.lt hk
  have hO9 := ((((hO.ext e5).off o6 fun hk => by have := bs2 _ hk; omega).ext e8).off o9 fun hk => by have := bs2 _ hk; omega)
  have ls2 := hO.view.len
  refine Join.cut (fun (x : (Int × SV × Unit) × Unit) w' => Ext w w' ∧ w9.heap.size ≤ w'.heap.size ∧ x.1.1 = n ∧ Own RD w' s2 arcs ∧ Own RD w' x.1.2.1 (arcs.map turn)) (fun J hJ => ?_) ?_
  · refine LoopT.gh (γ := Nat) (fun i (st : Int × (Int × SV × Unit) × Unit) w' => st.1 = i ∧ i ≤ arcs.length ∧ Ext w w' ∧ w9.heap.size ≤ w'.heap.size ∧ st.2.1.1 = n ∧ Own RD w' s2 arcs ∧ Own RD w' st.2.1.2.1 ((arcs.take i).map turn) ∧ Fsh w9 st.2.1.2.1) (fun i => arcs.length - i) 0
      ⟨rfl, Nat.zero_le _, e9, Nat.le_refl _, rfl, hO9, Own.nil, fsh_nil⟩ ?_
    rintro i ⟨x, ⟨m, t, _⟩, _⟩ w13 ⟨hx, hi, e13, z13, hm, hO2, hT, fT⟩ J1 hJ1
    simp only at hx hm hT fT
    subst hx hm
    rw [Bool.cond_decide]
    by_cases hc : (i : Int) < (s2.len : Int)
    · rw [if_pos hc]
      have hi' : i < arcs.length := by omega
      refine do_idx hO2.view hi' fun a a0 a1 a2 => ⟨_, a0, _, a1, _, a2, ?_⟩
      intro b18 w19 e19 g18 g18' w20 o20 b21 w22 e22 g21 hB
      have z19 := e19.size; have z20 := o20.size; have z22 := e22.size
      have q2 : ∀ k, s2.blk k → k < w13.heap.size := fun k hk => hO2.lt hk
      have qt : ∀ k, t.blk k → k < w13.heap.size := fun k hk => hT.lt hk
      have hO22 := ((hO2.ext e19).off o20 fun hk => by have := q2 _ hk; omega).ext e22
      have hT22 := ((hT.ext e19).off o20 fun hk => by have := qt _ hk; omega).ext e22
      refine Own.app (R := RD) hT22 (View.one (R := RD) (x := turn arcs[i]) hB) (by simp only [List.length_cons, List.length_nil, List.length_map, List.length_take]; omega) (by simp only [List.length_cons, List.length_nil, List.length_map, List.length_take]; omega) fun s23 w24 c24 hs hT24 => ?_
      have z24 := c24.size
      refine ⟨kp_chg c24 fun c hc => ?_, ?_⟩
      · simp only [List.mem_cons, List.not_mem_nil, or_false] at hc
        exact ⟨by omega, fun hk => by have := fT c hk; have := qt c hk; omega⟩
      intro w25 o25
      have z25 := o25.size
      have fs : Fsh w9 s23 := fun k hk => by
        rcases hs k hk with h' | h'
        · exact fT k h'
        · omega
      refine hJ1 (i + 1) _ _ ⟨wsucc (m := 2 ^ 40) (by omega) (by omega), by omega, ext_off (ext_chg ((ext_off (e13.trans e19) o20 (by have := e13.size; omega)).trans e22) c24 (fT.ext e9)) o25 (by omega), by omega, rfl,
        (hO22.chg c24 fun k h2 ht => by have := fT k ht; have := bs2 k h2; omega).off o25 fun hk => by have := bs2 _ hk; omega, ?_, fs⟩ (by omega)
      rw [take_snoc hi', List.map_append]
      exact hT24.off o25 fun hk => by have := fs _ hk; omega
    · rw [if_neg hc]
      have : i = arcs.length := by omega
      subst this
      rw [List.take_length] at hT
      exact hJ _ _ ⟨e13, z13, rfl, hO2, hT⟩
  rintro ⟨⟨m, t, _⟩, _⟩ w27 ⟨e27, z27, hm, hO2, hT⟩
  simp only at hm hT
  subst hm
  have kp : ∀ {wa wb}, w27.heap.size ≤ wa.heap.size → Ext wa wb → Keeps [b7, b4] wa wb := fun hz e => kp_ext e (by (intro b hb; simp only [List.mem_cons, List.not_mem_nil, or_false] at hb; omega))
  refine GNew_ok hcv hO2.view (fun _ p28 w29 F1 e29 hG1 _ => ⟨kp (Nat.le_refl _) e29, ?_⟩) (fun hno => absurd ok hno)
  refine GNew_ok hcv (hT.ext e29).view (fun ok' p30 w31 F2 e31 hG2 _ => ⟨kp e29.size e31, ?_⟩) (fun hno => absurd (ok_turn ok) hno)
  have hG1 := hG1.ext e31
  have z31 : w27.heap.size ≤ w31.heap.size := (e29.trans e31).size
  have e031 := (e27.trans e29).trans e31
  refine Join.cut (fun _ w' => Ext w31 w') (fun J hJ => ?_) ?_
  · refine LoopT.gh (γ := Nat) (fun i (st : Int × Unit) w' => st.1 = i ∧ i ≤ 12 ∧ (i : Int) ≤ m ∧ Ext w31 w') (fun i => 12 - i) 0 ⟨rfl, Nat.zero_le _, by omega, .refl _⟩ ?_
    rintro i ⟨x, _⟩ w35 ⟨hx, hi, him, e35⟩ J1 hJ1
    simp only at hx; subst hx
    rw [Bool.cond_decide]
    by_cases hc : (i : Int) < m
    · rw [if_pos hc]
      have z35 := e35.size
      refine Out_ok (hG1.ext e35) fun s36 w37 e37 hO36 _ => ⟨kp (by omega) e37, ?_⟩
      have z37 := e37.size
      have e37' := e35.trans e37
      refine In_ok (hG2.ext e37') fun s38 w39 e39 hO38 _ => ⟨kp (by omega) e39, ?_⟩
      rw [inE_turn] at hO38
      have z39 := e39.size
      have e39' := e37'.trans e39
      refine sameE_ok (hO36.ext e39).view hO38.view (outE_len ok _) fun w41 e41 => ⟨kp (by omega) e41, ?_⟩
      simp only [Bool.not_true, cond_false]
      have z41 := e41.size
      have e41' := e39'.trans e41
      refine In_ok (hG1.ext e41') fun s42 w43 e43 hO42 _ => ⟨kp (by omega) e43, ?_⟩
      have z43 := e43.size
      have e43' := e41'.trans e43
      refine Out_ok (hG2.ext e43') fun s44 w45 e45 hO44 _ => ⟨kp (by omega) e45, ?_⟩
      rw [outE_turn] at hO44
      have z45 := e45.size
      have e45' := e43'.trans e45
      refine sameE_ok (hO42.ext e45).view hO44.view (inE_len ok _) fun w47 e47 => ⟨kp (by omega) e47, ?_⟩
      simp only [Bool.not_true, cond_false]
      exact hJ1 (i + 1) _ _ ⟨wsucc (m := 2 ^ 40) (by omega) (by omega), by omega, by omega, e45'.trans e47⟩ (by omega)
    · rw [if_neg hc]; exact hJ _ _ e35
  rintro _ w49 e49
  have z49 := e49.size
  refine N_quiet (hG1.ext e49) ?_
  rw [beq_self_eq_true, cond_true]
  intro w55 e55
  have z55 := e55.size
  have e55' := e49.trans e55
  refine Kept_ok hcv (hG1.ext e55') fun s54 w56 e56 hO54 _ => ⟨kp (by omega) e56, ?_⟩
  intro w58 e58
  have z56 := e56.size; have z58 := e58.size
  have e58' := (e55'.trans e56).trans e58
  refine Kept_ok hcv (hG2.ext e58') fun s57 w59 e59 hO57 _ => ⟨kp (by omega) e59, ?_⟩
  have z59 := e59.size
  rw [keptL_turn] at hO57
  refine sameI_quiet ((hO54.ext e58).ext e59).view hO57.view (kept_len40 ok) ?_
  rw [cond_true]
  intro w65 e65
  have z65 := e65.size
  refine known6_ok hcv fun w66 e66 => ⟨kp (by omega) e66, ?_⟩
  intro w67 e67
  exact hk w67 (((((e031.trans e58').trans e59).trans e65).trans e66).trans e67)
end Go.Sh
