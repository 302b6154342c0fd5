/- GraphLeast. -/
import Derived.Test.YthpbelgmppaafaaGraphLoops
set_option maxRecDepth 100000
namespace Go.Sh
open Go.RowKit

theorem kept_exists {arcs : List Arc} {i : Nat} (hi : i < arcs.length) (hne : frA arcs i ≠ toA arcs i) : ∃ k, k ∈ keptL arcs ∧ Same arcs k i := by
  have h : ∀ m, (∃ j, j < m ∧ Same arcs j i) → ∃ k, k < m ∧ Same arcs k i ∧ ∀ j, j < m → Same arcs j i → ¬ Less arcs j k := by
    intro m
    induction m with
    | zero => rintro ⟨j, hj, _⟩; omega
    | succ m ih =>
      rintro ⟨j, hj, hs⟩
      by_cases hex : ∃ j, j < m ∧ Same arcs j i
      · obtain ⟨k, hk, hks, hmin⟩ := ih hex
        by_cases hm : Same arcs m i ∧ Less arcs m k
        · refine ⟨m, by omega, hm.1, fun j' hj' hs' hl => ?_⟩
          by_cases e : j' = m
          · subst e; exact Less.irrefl _ hl
          · exact hmin j' (by omega) hs' (hl.trans hm.2)
        · refine ⟨k, by omega, hks, fun j' hj' hs' hl => ?_⟩
          by_cases e : j' = m
          · subst e; exact hm ⟨hs', hl⟩
          · exact hmin j' (by omega) hs' hl
      · have e : j = m := Nat.le_antisymm (by omega) (Nat.le_of_not_lt fun h => hex ⟨j, h, hs⟩)
        subst e
        refine ⟨j, by omega, hs, fun j' hj' hs' hl => ?_⟩
        by_cases e : j' = j
        · subst e; exact Less.irrefl _ hl
        · exact hex ⟨j', by omega, hs'⟩
  obtain ⟨k, hk, hks, hmin⟩ := h arcs.length ⟨i, hi, .refl _ _⟩
  refine ⟨k, mem_keptL.2 ⟨hk, ?_, fun j hj hs => hmin j hj (hs.trans hks)⟩, hks⟩
  unfold Same at hks; omega

/-- An edge out of a place. -/
theorem mem_outE {N : Int} {arcs : List Arc} (ok : OkMap N arcs) {v : Int} {e : Arc} : e ∈ outE N arcs v ↔ ∃ k, k ∈ keptL arcs ∧ (frA arcs k : Int) = v ∧ e = ((toA arcs k : Int), wtA arcs k, (k : Int)) := by
  unfold outE
  have hn := ok.n0
  split
  · rename_i hv
    unfold edgeL
    rw [List.mem_map]
    constructor
    · rintro ⟨k, hk, rfl⟩
      rw [mem_outK] at hk
      exact ⟨k, hk.1, by omega, rfl⟩
    · rintro ⟨k, hk, hf, rfl⟩
      exact ⟨k, mem_outK.2 ⟨hk, (ok.to (kept_lt hk)).2, by omega⟩, rfl⟩
  · rename_i hv
    constructor
    · intro h; simp at h
    · rintro ⟨k, hk, hf, _⟩
      have := (ok.fr (kept_lt hk)).2
      omega
theorem mem_inE {N : Int} {arcs : List Arc} (ok : OkMap N arcs) {v : Int} {e : Arc} : e ∈ inE N arcs v ↔ ∃ k, k ∈ keptL arcs ∧ (toA arcs k : Int) = v ∧ e = ((frA arcs k : Int), wtA arcs k, (k : Int)) := by
  rw [← outE_turn, mem_outE (ok_turn ok), keptL_turn, fr_turn, to_turn, wt_turn]

theorem best_some {N : Int} {arcs : List Arc} (ok : OkMap N arcs) {u v : Int} {e : Arc} (h : bestF N arcs u v = some e) : ∃ k, k ∈ keptL arcs ∧ (frA arcs k : Int) = u ∧ (toA arcs k : Int) = v ∧ e = (v, wtA arcs k, (k : Int)) := by
  unfold bestF at h
  have h1 := List.mem_of_find?_eq_some h
  have h2 := List.find?_some h
  obtain ⟨k, hk, hf, rfl⟩ := (mem_outE ok).1 h1
  simp only [beq_iff_eq] at h2
  exact ⟨k, hk, hf, h2, by rw [h2]⟩
theorem best_none {N : Int} {arcs : List Arc} (ok : OkMap N arcs) {u v : Int} (h : bestF N arcs u v = none) : ∀ k, k ∈ keptL arcs → (frA arcs k : Int) = u → (toA arcs k : Int) = v → False := by
  intro k hk hf ht
  unfold bestF at h
  rw [List.find?_eq_none] at h
  refine h _ ((mem_outE ok).2 ⟨k, hk, hf, rfl⟩) ?_
  simpa using ht

/-- One arc more, no less than one that is in. -/
theorem keptL_more {arcs : List Arc} {i : Nat} {x : Arc} (hi : i < arcs.length) (h1 : x.1 = (arcA arcs i).1) (h2 : x.2.1 = (arcA arcs i).2.1) (h3 : (arcA arcs i).2.2 ≤ x.2.2) : keptL (arcs ++ [x]) = keptL arcs := by
  have hlast : arcA (arcs ++ [x]) arcs.length = x := by
    unfold arcA; rw [List.getD_eq_getElem?_getD, List.getElem?_append_right (Nat.le_refl _)]; simp
  have sl : Same (arcs ++ [x]) arcs.length i := by
    unfold Same frA toA; rw [hlast, arcA_front hi, h1, h2]; exact ⟨rfl, rfl⟩
  have ll : ¬ wtA (arcs ++ [x]) arcs.length < wtA (arcs ++ [x]) i := by
    unfold wtA; rw [hlast, arcA_front hi]; omega
  unfold keptL
  rw [List.length_append, List.range_add, List.filter_append]
  have e2 : ((List.range [x].length).map (arcs.length + ·)).filter (fun k => decide (Kept (arcs ++ [x]) k)) = [] := by
    rw [List.filter_eq_nil_iff]
    intro k hk
    obtain ⟨j, hj, rfl⟩ := List.mem_map.1 hk
    have : j = 0 := by simpa using hj
    subst this
    simp only [decide_eq_true_eq, Nat.add_zero]
    refine fun hK => hK.2 i (by rw [List.length_append]; omega) sl.symm ?_
    unfold Less; omega
  rw [e2, List.append_nil]
  apply List.filter_congr
  intro k hk
  rw [List.mem_range] at hk
  rw [decide_eq_decide]
  have fk : frA (arcs ++ [x]) k = frA arcs k := by unfold frA; rw [arcA_front hk]
  have tk : toA (arcs ++ [x]) k = toA arcs k := by unfold toA; rw [arcA_front hk]
  have same : ∀ {a b}, a < arcs.length → b < arcs.length → (Same (arcs ++ [x]) a b ↔ Same arcs a b) := fun ha hb => by
    unfold Same frA toA; rw [arcA_front ha, arcA_front hb]
  have less : ∀ {a b}, a < arcs.length → b < arcs.length → (Less (arcs ++ [x]) a b ↔ Less arcs a b) := fun ha hb => by
    unfold Less wtA; rw [arcA_front ha, arcA_front hb]
  unfold Kept
  rw [fk, tk]
  constructor
  · rintro ⟨q1, q2⟩
    exact ⟨q1, fun j hj hs hl => q2 j (by rw [List.length_append]; omega) ((same hj hk).2 hs) ((less hj hk).2 hl)⟩
  · rintro ⟨q1, q2⟩
    refine ⟨q1, fun j hj hs hl => ?_⟩
    by_cases hj' : j < arcs.length
    · exact q2 j hj' ((same hj' hk).1 hs) ((less hj' hk).1 hl)
    · have : j = arcs.length := by rw [List.length_append] at hj; simp at hj; omega
      subst this
      have hs2 := (same hi hk).1 (sl.symm.trans hs)
      have := q2 i hi hs2
      rw [← less hi hk] at this
      unfold Less at this hl; omega

theorem GNew_any {CV : CVT} (hcv : GraphCV CV) {w : World} {N : Int} {s : SV} {arcs : List Arc} {K : Option Addr → World → Prop} (h : View RD w s arcs)
    (hk : ∀ p w', Ext w w' → (p = none ∨ ∃ F, GraphA w' p N arcs F) → K p w') : sh_graph_New CV N s K w :=
  GNew_ok hcv h (fun _ p w' F e hG _ => hk p w' e (.inr ⟨F, hG⟩)) (fun _ w' e => hk none w' e (.inl rfl))

theorem GraphLeast_ok {CV : CVT} (hcv : GraphCV CV) {w : World} {N at_ more : Int} {s : SV} {arcs : List Arc} {K : Bool → World → Prop} (h : View RD w s arcs) (ha : 0 ≤ at_ ∧ at_ < 256) (hm : 0 ≤ more ∧ more < 4294967296) (hk : ∀ w', Ext w w' → K true w') : sh_postroadlaw06_GraphLeast CV N s at_ more K w := by
  unfold sh_postroadlaw06_GraphLeast
  intro b1 w2 e2 g1 g1'
  have z2 := e2.size
  have hlen := h.len
  refine Small_ok fun b w4 e4 hb => ⟨kp_ext e4 (by (intro b hb; simp only [List.mem_cons, List.not_mem_nil, or_false] at hb; omega)), ?_⟩
  have z4 := e4.size
  have e4' := e2.trans e4
  cases b with
  | false =>
    simp only [Bool.not_false, cond_true]
    exact known6_ok hcv fun w6 e6 => ⟨kp_ext e6 (by (intro b hb; simp only [List.mem_cons, List.not_mem_nil, or_false] at hb; omega)), hk w6 (e4'.trans e6)⟩
  | true =>
  obtain ⟨hs80, _⟩ := hb rfl
  simp only [Bool.not_true, cond_false]
  by_cases hl0 : (s.len : Int) = 0
  · rw [show ((s.len : Int) == 0) = true by rw [beq_iff_eq]; exact hl0, cond_true]
    exact known6_ok hcv fun w6 e6 => ⟨kp_ext e6 (by (intro b hb; simp only [List.mem_cons, List.not_mem_nil, or_false] at hb; omega)), hk w6 (e4'.trans e6)⟩
  rw [show ((s.len : Int) == 0) = false by rw [beq_eq_false_iff_ne]; exact hl0, cond_false]
  have kp : ∀ {wa wb}, w4.heap.size ≤ wa.heap.size → Ext wa wb → Keeps [b1] wa wb := fun hz e => kp_ext e (by (intro b hb; simp only [List.mem_cons, List.not_mem_nil, or_false] at hb; omega))
  refine GNew_any hcv (h.ext e4') fun p9 w10 e10 hp => ⟨kp (Nat.le_refl _) e10, ?_⟩
  have z10 := e10.size
  have e10' := e4'.trans e10
  refine Join.cut (fun _ w' => Ext w10 w') (fun J hJ => ?_) ?_
  · refine LoopT.gh (γ := Nat) (fun i (st : Int × Unit) w' => st.1 = i ∧ i ≤ arcs.length ∧ Ext w10 w') (fun i => arcs.length - i) 0 ⟨rfl, Nat.zero_le _, .refl _⟩ ?_
    rintro i ⟨x, _⟩ w14 ⟨hx, hi, e14⟩ J1 hJ1
    simp only at hx; subst hx
    rw [Bool.cond_decide]
    by_cases hc : (i : Int) < (s.len : Int)
    · rw [if_pos hc]
      rcases hp with rfl | ⟨F, hG⟩
      · simp only [Option.isNone_none, Bool.not_true, cond_false]
        exact hJ _ _ e14
      rw [hG.some]
      simp only [Bool.not_false, cond_true]
      have ok := hG.ok
      have hi' : i < arcs.length := by omega
      have z14 := e14.size
      refine Join.cut (fun _ w' => Ext w10 w') (fun J2 hJ2 => ?_) (fun _ w32 e32 => hJ1 (i + 1) _ _ ⟨wsucc (m := 2 ^ 40) (by omega) (by omega), by omega, e32⟩ (by omega))
      refine do_idx (h.ext (e10'.trans e14)) hi' fun a a0 a1 a2 => ⟨_, a0, _, a1, _, a2, ?_⟩
      intro b20 w21 e21 g20 g20' w22 o22
      have z21 := e21.size; have z22 := o22.size
      have e22 : Ext w10 w22 := ext_off (e14.trans e21) o22 (by omega)
      rw [arcA_get hi']
      obtain ⟨hf, hfn⟩ := ok.fr hi'
      obtain ⟨ht, htn⟩ := ok.to hi'
      refine Best_ok hcv (hG.ext e22) (fun e he w27 e27 => ⟨kp_ext e27 (by (intro b hb; simp only [List.mem_cons, List.not_mem_nil, or_false] at hb; omega)), ?_⟩) (fun he w27 e27 => ⟨kp_ext e27 (by (intro b hb; simp only [List.mem_cons, List.not_mem_nil, or_false] at hb; omega)), ?_⟩)
      · obtain ⟨k, hkk, hkf, hkt, rfl⟩ := best_some ok he
        intro b28 w29 e29 g28 _ w30 o30
        have e30 : Ext w10 w30 := ext_off ((e22.trans e27).trans e29) o30 (by have := e22.size; have := e27.size; omega)
        have hK := (mem_keptL.1 hkk).2
        have hs : Same arcs i k := by unfold Same; omega
        have hne : (arcA arcs i).1 ≠ (arcA arcs i).2.1 := fun e => hK.1 (by unfold Same at hs; omega)
        have hnl := hK.2 i hi' hs
        have hw : (arcA arcs i).2.2 = wtA arcs i := rfl
        rw [show ((arcA arcs i).1 != (arcA arcs i).2.1) = true by simpa using hne]
        simp only [beq_self_eq_true, Bool.not_true, cond_false, cond_true]
        rw [hw, Bool.cond_decide, if_neg (by unfold Less at hnl; omega)]
        by_cases heq : wtA arcs k = wtA arcs i
        · rw [show (wtA arcs k == wtA arcs i) = true by simpa using heq, cond_true, Bool.cond_decide, if_neg (by unfold Less at hnl; omega)]
          exact hJ2 _ _ e30
        · rw [show (wtA arcs k == wtA arcs i) = false by simpa using heq, cond_false]
          exact hJ2 _ _ e30
      · intro b28 w29 e29 g28 _ w30 o30
        have e30 : Ext w10 w30 := ext_off ((e22.trans e27).trans e29) o30 (by have := e22.size; have := e27.size; omega)
        have heq : (arcA arcs i).1 = (arcA arcs i).2.1 := by
          refine Classical.byContradiction fun hne => ?_
          obtain ⟨k, hkk, hks⟩ := kept_exists hi' (fun e => hne (by omega))
          unfold Same at hks
          exact best_none ok he k hkk (by omega) (by omega)
        rw [show ((arcA arcs i).1 != (arcA arcs i).2.1) = false by simpa using heq]
        simp only [beq_self_eq_true, Bool.not_true, cond_false]
        exact hJ2 _ _ e30
    · rw [if_neg hc]; exact hJ _ _ e14
  rintro _ w34 e34
  rw [if_neg hl0]
  have z34 := e34.size
  have e34' := e10'.trans e34
  have hmod0 : 0 ≤ (IntKind.i64.wrap at_).tmod (s.len : Int) := by rw [w64 (by omega) (by omega)]; exact Int.tmod_nonneg _ ha.1
  have hmod1 : (IntKind.i64.wrap at_).tmod (s.len : Int) < (s.len : Int) := Int.tmod_lt_of_pos _ (by omega)
  generalize (IntKind.i64.wrap at_).tmod (s.len : Int) = ii at hmod0 hmod1 ⊢
  obtain ⟨i, rfl⟩ := Int.eq_ofNat_of_zero_le hmod0
  have hi' : i < arcs.length := by omega
  have hd0 : 0 ≤ (IntKind.i64.wrap more).tmod 1000 := by rw [w64 (by omega) (by omega)]; exact Int.tmod_nonneg _ hm.1
  have hd1 : (IntKind.i64.wrap more).tmod 1000 < 1000 := Int.tmod_lt_of_pos _ (by omega)
  generalize (IntKind.i64.wrap more).tmod 1000 = dd at hd0 hd1 ⊢
  refine do_idx (h.ext e34') hi' fun a a0 a1 a2 => ⟨_, a0, _, a1, _, a2, ?_⟩
  intro b39 w40 e40 g39 g39' w41 e41 w42 o42 w43 e43 w44 o44
  have z40 := e40.size; have z41 := e41.size; have z42 := o42.size; have z43 := e43.size; have z44 := o44.size
  have e44 : Ext w34 w44 := ext_off ((ext_off (e40.trans e41) o42 (by omega)).trans e43) o44 (by omega)
  have e44' := e34'.trans e44
  refine Own.app (R := RD) Own.nil (h.ext e44') (by simp only [List.length_nil]; omega) (by simp only [List.length_nil]; omega) fun s45 w46 c46 hs45 hO => ?_
  rw [List.nil_append] at hO
  have e46 : Ext w44 w46 := c46.ext fun k _ ⟨q, hq, _⟩ => by cases hq
  have z46 := e46.size
  have f45 : Fsh w44 s45 := fun k hk => by
    rcases hs45 k hk with ⟨q, hq, _⟩ | h'
    · cases hq
    · exact h'
  refine ⟨kp_ext e46 (by (intro b hb; simp only [List.mem_cons, List.not_mem_nil, or_false] at hb; omega)), ?_⟩
  intro b47 w48 e48 g47 hB
  have z48 := e48.size
  rw [arcA_get hi'] at hB
  refine Own.app (R := RD) (hO.ext e48) (View.one (R := RD) (x := ((arcA arcs i).1, (arcA arcs i).2.1, IntKind.i64.wrap ((arcA arcs i).2.2 + dd))) hB) (by simp only [List.length_cons, List.length_nil]; omega) (by simp only [List.length_cons, List.length_nil]; omega) fun s49 w50 c50 hs49 hO49 => ?_
  have z50 := c50.size
  refine ⟨kp_chg c50 fun c hc => by
    simp only [List.mem_cons, List.not_mem_nil, or_false] at hc
    exact ⟨by omega, fun hk => by have := f45 c hk; omega⟩, ?_⟩
  have e50 : Ext w34 w50 := ext_chg ((e44.trans e46).trans e48) c50 (f45.ext e44)
  have kp2 : ∀ {wa wb}, w50.heap.size ≤ wa.heap.size → Ext wa wb → Keeps [b39, b1] wa wb := fun hz e => kp_ext e (by (intro b hb; simp only [List.mem_cons, List.not_mem_nil, or_false] at hb; omega))
  have kn : ∀ w52, Ext w50 w52 → sh_postroadlaw06_known CV (fun t53 w54 => Keeps [b39, b1] w52 w54 ∧ K t53 w54) w52 := fun w52 e52 =>
    known6_ok hcv fun w54 e54 => ⟨kp2 e52.size e54, hk w54 (((e34'.trans e50).trans e52).trans e54)⟩
  refine GNew_ok hcv hO49.view (fun ok2 p51 w52 F2 e52 hG2 _ => ⟨kp2 (Nat.le_refl _) e52, ?_⟩) (fun _ w52 e52 => ⟨kp2 (Nat.le_refl _) e52, ?_⟩)
  · rcases hp with rfl | ⟨F, hG⟩
    · simp only [Option.isNone_none, cond_true]; exact kn w52 e52
    rw [hG.some, hG2.some]
    simp only [cond_false]
    have ok := hG.ok
    have z52 := e52.size
    have hx := ok.at hi'
    unfold OkArc at hx
    rw [w64 (by omega) (by omega)] at hG2
    have hkk := keptL_more (x := ((arcA arcs i).1, (arcA arcs i).2.1, (arcA arcs i).2.2 + dd)) hi' rfl rfl (by simp only; omega)
    refine Kept_ok hcv (((hG.ext e34).ext e50).ext e52) fun s57 w58 e58 hO57 _ => ⟨kp2 (by omega) e58, ?_⟩
    have z58 := e58.size
    refine Kept_ok hcv (hG2.ext e58) fun s59 w60 e60 hO59 _ => ⟨kp2 (by omega) e60, ?_⟩
    have z60 := e60.size
    rw [hkk] at hO59
    refine sameI_ok (hO57.ext e60).view hO59.view (kept_len40 ok) fun w62 e62 => ⟨kp2 (by omega) e62, ?_⟩
    have z62 := e62.size
    rw [cond_true]
    exact known6_ok hcv fun w64 e64 => ⟨kp2 (by omega) e64, hk w64 ((((((e34'.trans e50).trans e52).trans e58).trans e60).trans e62).trans e64)⟩
  · rcases hp with rfl | ⟨F, hG⟩
    · simp only [Option.isNone_none, cond_true]; exact kn w52 e52
    rw [hG.some]
    simp only [cond_false, Option.isNone_none, cond_true]
    exact kn w52 e52
end Go.Sh
