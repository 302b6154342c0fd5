/- GraphLoops. -/
import Derived.Test.YthpbelgmppaafaaGraphTurned
set_option maxRecDepth 100000
namespace Go.Sh
open Go.RowKit

def RU8 : Rc Int where
  sz := 1
  enc e := [.int .u8 e]
  len _ := rfl
  pos := by decide
  z := 0
  one := by intro x v hv; simp at hv; subst hv; rfl
theorem u8_idx {w : World} {s : SV} {xs : List Int} (h : View RU8 w s xs) {i : Nat} (hl : i < xs.length) {K : Addr → Prop}
    (hk : ∀ a, w.cell? a = some (.int .u8 xs[i]) → K a) : Idx s.a s.len (i : Int) 1 K := by
  refine View.idx (R := RU8) h (by omega) (by simpa using hl) fun a ha hc => ?_
  have := hc 0 _ rfl
  simp only [Int.toNat_natCast] at this
  obtain ⟨b, o, sp⟩ := a
  simp only at ha; subst ha
  rw [add0] at this
  exact hk _ this

/-- Loops put behind: they count for nothing. -/
def IsLoop (a : Arc) : Prop := a.1 = a.2.1
theorem arcA_front {as ls : List Arc} {k : Nat} (h : k < as.length) : arcA (as ++ ls) k = arcA as k := by
  unfold arcA; rw [List.getD_eq_getElem?_getD, List.getD_eq_getElem?_getD, List.getElem?_append_left h]
theorem arcA_back {as ls : List Arc} (hl : ∀ a ∈ ls, IsLoop a) {k : Nat} (h : ¬ k < as.length) : frA (as ++ ls) k = toA (as ++ ls) k := by
  unfold frA toA arcA
  rw [List.getD_eq_getElem?_getD, List.getElem?_append_right (by omega)]
  cases hk : ls[k - as.length]? with
  | none => rfl
  | some a => have := hl a (List.mem_of_getElem? hk); unfold IsLoop at this; simp [this]
theorem keptL_loops {as ls : List Arc} (hl : ∀ a ∈ ls, IsLoop a) : keptL (as ++ ls) = keptL as := by
  unfold keptL
  rw [List.length_append, List.range_add, List.filter_append]
  have h2 : ((List.range ls.length).map (as.length + ·)).filter (fun k => decide (Kept (as ++ ls) k)) = [] := by
    rw [List.filter_eq_nil_iff]
    intro k hk
    obtain ⟨j, _, rfl⟩ := List.mem_map.1 hk
    simp only [decide_eq_true_eq]
    exact fun hK => hK.1 (arcA_back hl (by omega))
  rw [h2, List.append_nil]
  apply List.filter_congr
  intro k hk
  rw [List.mem_range] at hk
  rw [decide_eq_decide]
  have fk : frA (as ++ ls) k = frA as k := by unfold frA; rw [arcA_front hk]
  have tk : toA (as ++ ls) k = toA as k := by unfold toA; rw [arcA_front hk]
  have wk : wtA (as ++ ls) k = wtA as k := by unfold wtA; rw [arcA_front hk]
  unfold Kept Same Less
  constructor
  · rintro ⟨h1, h2⟩
    refine ⟨by rw [fk, tk] at h1; exact h1, fun i hi hs => ?_⟩
    have := h2 i (by rw [List.length_append]; omega)
    rw [fk, tk, wk] at this
    unfold frA toA wtA at *
    rw [arcA_front hi] at this
    exact this hs
  · rintro ⟨h1, h2⟩
    refine ⟨by rw [fk, tk]; exact h1, fun i hi hs => ?_⟩
    by_cases hi' : i < as.length
    · have := h2 i hi'
      rw [fk, tk] at hs
      rw [wk]
      unfold frA toA wtA at *
      rw [arcA_front hi'] at hs ⊢
      exact this hs
    · exfalso
      have := arcA_back hl hi'
      rw [hs.1, hs.2, fk, tk] at this
      exact h1 this
theorem outK_congr {n : Nat} {l : List Nat} {fr to fr' to' : Nat → Nat} (h : ∀ k ∈ l, fr k = fr' k ∧ to k = to' k) (v : Nat) : outK n l fr to v = outK n l fr' to' v := by
  have h1 : sortedL n l to = sortedL n l to' := by
    unfold sortedL
    exact congrArg (fun f => (List.range n).flatMap f) (funext fun u => List.filter_congr fun k hk => by rw [(h k hk).2])
  unfold outK
  rw [h1]
  exact List.filter_congr fun k hk => by rw [(h k (mem_sortedL.1 hk).1).1]
theorem outE_loops {N : Int} {as ls : List Arc} (hl : ∀ a ∈ ls, IsLoop a) (v : Int) : outE N (as ++ ls) v = outE N as v := by
  unfold outE
  rw [keptL_loops hl]
  have fk : ∀ k ∈ keptL as, frA (as ++ ls) k = frA as k ∧ toA (as ++ ls) k = toA as k := fun k hk => ⟨by unfold frA; rw [arcA_front (kept_lt hk)], by unfold toA; rw [arcA_front (kept_lt hk)]⟩
  rw [outK_congr fk]
  split
  · unfold edgeL
    refine List.map_congr_left fun k hk => ?_
    have hk' := (mem_outK.1 hk).1
    rw [(fk k hk').2]
    unfold wtA; rw [arcA_front (kept_lt hk')]
  · rfl
theorem keptL_nil : keptL [] = [] := rfl
theorem outE_nil (N v : Int) : outE N [] v = [] := by
  unfold outE
  split
  · have : outK N.toNat (keptL []) (frA []) (toA []) v.toNat = [] := List.eq_nil_iff_forall_not_mem.2 fun k hk => by
      have := (mem_outK.1 hk).1; rw [keptL_nil] at this; simp at this
    rw [this]; rfl
  · rfl
theorem inE_nil (N v : Int) : inE N [] v = [] := by
  have := outE_turn N [] v
  rw [List.map_nil, outE_nil] at this; exact this.symm

theorem GraphLoops_ok {CV : CVT} (hcv : GraphCV CV) {w : World} {n0 : Int} {s sl : SV} {as : List Arc} {us : List Int} {K : Bool → World → Prop} (h : View RD w s as) (hu : View RU8 w sl us) (hu8 : ∀ u ∈ us, 0 ≤ u ∧ u < 256) (hk : ∀ w', Ext w w' → K true w') : sh_postroadlaw06_GraphLoops CV n0 s sl K w := by
  unfold sh_postroadlaw06_GraphLoops
  refine Of_ok h fun n s2 w3 arcs e3 hn1 hn2 ok hl hO fO => ?_
  intro b4 w5 e5 g4 g4' w6 o6
  have z3 := e3.size; have z5 := e5.size; have z6 := o6.size
  have e6 : Ext w w6 := ext_off (e3.trans e5) o6 (by omega)
  have lus := hu.len
  rw [Bool.cond_decide]
  by_cases h30 : (sl.len : Int) > 30
  · rw [if_pos h30]
    exact known6_ok hcv fun w8 e8 => ⟨kp_ext e8 (by (intro b hb; simp only [List.mem_cons, List.not_mem_nil, or_false] at hb; omega)), hk w8 (e6.trans e8)⟩
  rw [if_neg h30]
  intro b9 w10 e10 g9 g9' w11 o11
  have z10 := e10.size; have z11 := o11.size
  have e11 : Ext w w11 := ext_off (e6.trans e10) o11 (by omega)
  have bs2 : ∀ k, s2.blk k → k < w3.heap.size := fun k hk => hO.lt hk
  have hO11 := ((((hO.ext e5).off o6 fun hk => by have := bs2 _ hk; omega).ext e10).off o11 fun hk => by have := bs2 _ hk; omega)
  refine Own.app (R := RD) Own.nil hO11.view (by simp only [List.length_nil]; omega) (by simp only [List.length_nil]; omega) fun s12 w13 c13 hs12 hT => ?_
  rw [List.nil_append] at hT
  have e13 : Ext w11 w13 := c13.ext fun k _ ⟨q, hq, _⟩ => by cases hq
  have z13 := e13.size
  have f12 : Fsh w11 s12 := fun k hk => by
    rcases hs12 k hk with ⟨q, hq, _⟩ | h'
    · cases hq
    · exact h'
  refine ⟨kp_ext e13 (by (intro b hb; simp only [List.mem_cons, List.not_mem_nil, or_false] at hb; omega)), ?_⟩
  intro w14 o14
  have z14 := o14.size
  have e14 : Ext w w14 := ext_off (e11.trans e13) o14 (by omega)
  have hO14 := (hO11.ext e13).off o14 fun hk => by have := bs2 _ hk; omega
  have hT14 := hT.off o14 fun hk => by have := f12 _ hk; omega
  refine Join.cut (fun (x : (Int × SV × Unit) × Unit) w' => Ext w w' ∧ w11.heap.size ≤ w'.heap.size ∧ x.1.1 = n ∧ Own RD w' s2 arcs ∧ ∃ ls, Own RD w' x.1.2.1 (arcs ++ ls) ∧ OkMap n (arcs ++ ls) ∧ (∀ a ∈ ls, IsLoop a)) (fun J hJ => ?_) ?_
  · refine LoopT.gh (γ := Nat × List Arc) (fun gh (st : Int × (Int × SV × Unit) × Unit) w' => st.1 = gh.1 ∧ gh.1 ≤ us.length ∧ gh.2.length = gh.1 ∧ Ext w w' ∧ w11.heap.size ≤ w'.heap.size ∧ st.2.1.1 = n ∧ Own RD w' s2 arcs ∧ Own RD w' st.2.1.2.1 (arcs ++ gh.2) ∧ Fsh w11 st.2.1.2.1 ∧ OkMap n (arcs ++ gh.2) ∧ (∀ a ∈ gh.2, IsLoop a)) (fun gh => us.length - gh.1) (0, [])
      ⟨rfl, Nat.zero_le _, rfl, e14, by omega, rfl, hO14, by rw [List.append_nil]; exact hT14, f12, by rw [List.append_nil]; exact ok, fun a ha => by simp at ha⟩ ?_
    rintro ⟨i, ls⟩ ⟨x, ⟨m, t, _⟩, _⟩ w18 ⟨hx, hi, hli, e18, z18, hm, hO2, hT, fT, okl, hlo⟩ J1 hJ1
    simp only at hx hi hli hm hT fT okl hlo
    subst hx hm
    rw [Bool.cond_decide]
    by_cases hc : (i : Int) < (sl.len : Int)
    · rw [if_pos hc]
      have hi' : i < us.length := by omega
      refine u8_idx (hu.ext e18) hi' fun a a0 => ⟨_, a0, ?_⟩
      rw [if_neg (by omega)]
      intro w21 e21 b22 w23 e23 g22 hB
      have z21 := e21.size; have z23 := e23.size
      have q2 : ∀ k, s2.blk k → k < w18.heap.size := fun k hk => hO2.lt hk
      have qt : ∀ k, t.blk k → k < w18.heap.size := fun k hk => hT.lt hk
      have hO23 := (hO2.ext e21).ext e23
      have hT23 := (hT.ext e21).ext e23
      have hu' := hu8 _ (List.getElem_mem hi')
      have hv0 : 0 ≤ (IntKind.i64.wrap us[i]).tmod m := by
        rw [w64 (by omega) (by omega)]; exact Int.tmod_nonneg _ hu'.1
      have hv1 : (IntKind.i64.wrap us[i]).tmod m < m := Int.tmod_lt_of_pos _ (by omega)
      generalize (IntKind.i64.wrap us[i]).tmod m = v at hv0 hv1 hB ⊢
      refine Own.app (R := RD) hT23 (View.one (R := RD) (x := (v, v, 0)) hB) (by simp only [List.length_cons, List.length_nil, List.length_append]; omega) (by simp only [List.length_cons, List.length_nil, List.length_append]; omega) fun s24 w25 c25 hs hT25 => ?_
      have z25 := c25.size
      refine ⟨kp_chg c25 fun c hc => ?_, ?_⟩
      · simp only [List.mem_cons, List.not_mem_nil, or_false] at hc
        exact ⟨by omega, fun hk => by have := fT c hk; omega⟩
      intro w26 o26
      have z26 := o26.size
      have fs : Fsh w11 s24 := fun k hk => by
        rcases hs k hk with h' | h'
        · exact fT k h'
        · omega
      rw [List.append_assoc] at hT25
      refine hJ1 (i + 1, ls ++ [(v, v, 0)]) _ _ ⟨wsucc (m := 2 ^ 40) (by omega) (by omega), by simp only; omega, by simp; omega, ext_off (ext_chg ((e18.trans e21).trans e23) c25 (fT.ext e11)) o26 (by omega), by omega, rfl,
        (hO23.chg c25 fun k h2 ht => by have := fT k ht; have := bs2 k h2; omega).off o26 fun hk => by have := bs2 _ hk; omega, hT25.off o26 fun hk => by have := fs _ hk; omega, fs, ?_, ?_⟩ (by simp only; omega)
      · refine ⟨ok.n0, ok.n1, by simp; omega, fun a ha => ?_⟩
        rw [← List.append_assoc] at ha
        rcases List.mem_append.1 ha with ha | ha
        · exact okl.arc a ha
        · simp at ha; subst ha
          unfold OkArc; simp only; omega
      · intro a ha
        rcases List.mem_append.1 ha with ha | ha
        · exact hlo a ha
        · simp at ha; subst ha; rfl
    · rw [if_neg hc]
      exact hJ _ _ ⟨e18, z18, rfl, hO2, ls, hT, okl, hlo⟩
  rintro ⟨⟨m, t, _⟩, _⟩ w28 ⟨e28, z28, hm, hO2, ls, hT, okl, hlo⟩
  simp only at hm hT
  subst hm
  have kp : ∀ {wa wb}, w28.heap.size ≤ wa.heap.size → Ext wa wb → Keeps [b9, b4] wa wb := fun hz e => kp_ext e (by (intro b hb; simp only [List.mem_cons, List.not_mem_nil, or_false] at hb; omega))
  refine GNew_ok hcv hO2.view (fun _ p29 w30 F1 e30 hG1 _ => ⟨kp (Nat.le_refl _) e30, ?_⟩) (fun hno => absurd ok hno)
  have z30 := e30.size
  refine GNew_ok hcv (hT.ext e30).view (fun _ p31 w32 F2 e32 hG2 _ => ⟨kp (by omega) e32, ?_⟩) (fun hno => absurd okl hno)
  have z32 := e32.size
  have okn : OkMap m [] := ⟨ok.n0, ok.n1, by simp, fun a ha => by simp at ha⟩
  refine GNew_ok hcv (Own.nil (R := RD)).view (fun _ p33 w34 F3 e34 hG3 _ => ⟨kp (by omega) e34, ?_⟩) (fun hno => absurd okn hno)
  have hG1 := (hG1.ext e32).ext e34
  have hG2 := hG2.ext e34
  have z34 := e34.size
  have e034 := ((e28.trans e30).trans e32).trans e34
  refine Join.cut (fun _ w' => Ext w34 w') (fun J hJ => ?_) ?_
  · refine LoopT.gh (γ := Nat) (fun i (st : Int × Unit) w' => st.1 = i ∧ i ≤ 12 ∧ (i : Int) ≤ m ∧ Ext w34 w') (fun i => 12 - i) 0 ⟨rfl, Nat.zero_le _, by omega, .refl _⟩ ?_
    rintro i ⟨x, _⟩ w38 ⟨hx, hi, him, e38⟩ J1 hJ1
    simp only at hx; subst hx
    rw [Bool.cond_decide]
    by_cases hc : (i : Int) < m
    · rw [if_pos hc]
      have z38 := e38.size
      refine Out_ok (hG1.ext e38) fun s39 w40 e40 hO39 _ => ⟨kp (by omega) e40, ?_⟩
      have z40 := e40.size
      have e40' := e38.trans e40
      refine Out_ok (hG2.ext e40') fun s41 w42 e42 hO41 _ => ⟨kp (by omega) e42, ?_⟩
      rw [outE_loops hlo] at hO41
      have z42 := e42.size
      have e42' := e40'.trans e42
      refine sameE_ok (hO39.ext e42).view hO41.view (outE_len ok _) fun w44 e44 => ⟨kp (by omega) e44, ?_⟩
      simp only [Bool.not_true, cond_false]
      have z44 := e44.size
      have e44' := e42'.trans e44
      refine Out_ok (hG3.ext e44') fun s45 w46 e46 hO45 _ => ⟨kp (by omega) e46, ?_⟩
      have z46 := e46.size
      have e46' := e44'.trans e46
      refine In_ok (hG3.ext e46') fun s47 w48 e48 hO47 _ => ⟨kp (by omega) e48, ?_⟩
      rw [outE_nil] at hO45; rw [inE_nil] at hO47
      rw [hO45.view.len, hO47.view.len]
      simp only [List.length_nil]
      rw [show (IntKind.i64.wrap (((0 : Nat) : Int) + ((0 : Nat) : Int)) != 0) = false from rfl, cond_false]
      exact hJ1 (i + 1) _ _ ⟨wsucc (m := 2 ^ 40) (by omega) (by omega), by omega, by omega, e46'.trans e48⟩ (by omega)
    · rw [if_neg hc]; exact hJ _ _ e38
  rintro _ w50 e50
  have z50 := e50.size
  refine N_quiet (hG3.ext e50) ?_
  rw [beq_self_eq_true, cond_true]
  intro w56 e56
  have z56 := e56.size
  have e56' := e50.trans e56
  refine Kept_ok hcv (hG3.ext e56') fun s55 w57 e57 hO55 _ => ⟨kp (by omega) e57, ?_⟩
  rw [keptL_nil] at hO55
  rw [hO55.view.len]
  simp only [ints, List.map_nil, List.length_nil]
  rw [show (((0 : Nat) : Int) == 0) = true from rfl, cond_true]
  intro w59 e59
  have z57 := e57.size; have z59 := e59.size
  have e59' := (e56'.trans e57).trans e59
  refine Kept_ok hcv (hG1.ext e59') fun s58 w60 e60 hO58 _ => ⟨kp (by omega) e60, ?_⟩
  intro w62 e62
  have z60 := e60.size; have z62 := e62.size
  have e62' := (e59'.trans e60).trans e62
  refine Kept_ok hcv (hG2.ext e62') fun s61 w63 e63 hO61 _ => ⟨kp (by omega) e63, ?_⟩
  have z63 := e63.size
  rw [keptL_loops hlo] at hO61
  refine sameI_quiet ((hO58.ext e62).ext e63).view hO61.view (kept_len40 ok) ?_
  rw [cond_true]
  intro w69 e69
  have z69 := e69.size
  refine known6_ok hcv fun w70 e70 => ⟨kp (by omega) e70, ?_⟩
  intro w71 e71
  exact hk w71 (((((e034.trans e62').trans e63).trans e69).trans e70).trans e71)
end Go.Sh
