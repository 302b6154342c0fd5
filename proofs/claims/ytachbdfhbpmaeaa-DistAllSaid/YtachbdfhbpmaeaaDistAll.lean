/- DistAll, DistWalks. -/
import Derived.Test.YtachbdfhbpmaeaaDistKnown
set_option maxRecDepth 100000
namespace Go.Sh
open Go.RowKit

section
variable {CV : CVT} {w : World} {N : Int} {s : SV} {arcs : List Arc}

theorem nearL_lt {row : List Int} {most : Int} (h : row.length < 2 ^ 40) : (nearL row most row.length).length < 2 ^ 40 := by
  have := nearL_len row most row.length; omega

theorem DistAll_ok (hcv : DistCV CV) {u v most : Int} {K : Bool → World → Prop} (h : View RD w s arcs) (hk : ∀ w', Ext w w' → K true w') : sh_postroadlaw07_DistAll CV N s u v most K w := by
  unfold sh_postroadlaw07_DistAll
  intro b1 w2 e2 g1 g1'
  have z2 := e2.size
  have kn : ∀ {wa}, w2.heap.size ≤ wa.heap.size → Ext w wa → sh_postroadlaw07_known CV (fun t w8 => Keeps [b1] wa w8 ∧ K t w8) wa := fun {wa} hz ea =>
    known7_ok hcv fun w6 e6 => ⟨kp1 e6 (by omega), hk w6 (ea.trans e6)⟩
  refine Small2_ok fun w4 e4 => ⟨kp1 e4 (by omega), ?_⟩
  have z4 := e4.size
  have e04 := e2.trans e4
  by_cases hs : ¬ ((s.len : Int) ≤ 80 ∧ (N ≤ 30 ∨ N > 16777216))
  · rw [decide_eq_false hs]
    simp only [Bool.not_false, cond_true]
    exact kn (by omega) e04
  rw [Classical.not_not] at hs
  rw [decide_eq_true hs]
  simp only [Bool.not_true, cond_false]
  have right : ∀ {p : Option Addr} {w8 : World}, Ext w w8 → w2.heap.size ≤ w8.heap.size → ∀ (K' : Bool → World → Prop), (∀ b w10, Ext w8 w10 → (b = true ↔ OkMap N arcs) → Keeps [b1] w8 w10 ∧ K' b w10) → sh_postroadref07_Right N s 30 80 (fun t9 w10 => Keeps [b1] w8 w10 ∧ K' t9 w10) w8 := fun {p w8} e8 z8 K' hK' =>
    Right7_ok (h.ext e8) fun b w10 e10 hb => hK' b w10 e10 (hb.trans ⟨fun q => q.2, fun q => ⟨hs, q⟩⟩)
  refine GNew_ok hcv.g (h.ext e04) (fun ok p w8 F e8 hG _ => ⟨kp1 e8 (by omega), ?_⟩) (fun no w8 e8 => ⟨kp1 e8 (by omega), ?_⟩)
  · have z8 := e8.size
    have e08 := e04.trans e8
    refine right (p := p) e08 (by omega) _ fun b w10 e10 hb => ⟨kp1 e10 (by omega), ?_⟩
    have z10 := e10.size
    have e010 := e08.trans e10
    rw [hb.2 ok]
    simp only [Bool.not_true, cond_false]
    obtain ⟨n, rfl⟩ := Int.eq_ofNat_of_zero_le ok.n0
    have hn : n ≤ 4096 := by have := ok.n1; omega
    have l1 : ∀ a : Int, (distL (n : Int) arcs a).length < 2 ^ 40 := fun a => by
      by_cases hs : 0 ≤ a ∧ a < (n : Int)
      · rw [distL_len hs]; omega
      · rw [distL_no hs]; simp
    have l2 : ∀ a : Int, (toL (n : Int) arcs a).length < 2 ^ 40 := fun a => by
      unfold toL; split
      · rw [fi_len]; omega
      · simp
    refine rAll_ok ok hn (h.ext e010) fun t svs w20 e20 hT _ _ => ⟨kp1 e20 (by omega), ?_⟩
    have z20 := e20.size
    intro w22 e22
    have z22 := e22.size
    have hG22 := ((hG.ext e10).ext e20).ext e22
    refine From_ok hcv hG22 fun s21 w23 e23 hO21 _ => ⟨kp1 e23 (by omega), ?_⟩
    have z23 := e23.size
    intro w25 e25
    have z25 := e25.size
    have hT25 := ((hT.ext e22).ext e23).ext e25
    refine rFrom_ok hT25 fun s24 hO24 _ => ⟨kp0_1 _ _, ?_⟩
    refine sameI_quiet (hO21.ext e25).view hO24.view (l1 u) ?_
    rw [cond_true]
    intro w32 e32
    have z32 := e32.size
    have hG32 := ((hG22.ext e23).ext e25).ext e32
    refine To_ok hcv hG32 fun s31 w33 e33 hO31 _ => ⟨kp1 e33 (by omega), ?_⟩
    have z33 := e33.size
    intro w35 e35
    have z35 := e35.size
    have hT35 := ((hT25.ext e32).ext e33).ext e35
    refine rTo_ok hn hT35 fun s34 w36 e36 hO34 => ⟨kp1 e36 (by omega), ?_⟩
    have z36 := e36.size
    refine sameI_quiet ((hO31.ext e35).ext e36).view hO34.view (l2 v) ?_
    rw [cond_true]
    intro w42 e42
    have z42 := e42.size
    have hG42 := (((hG32.ext e33).ext e35).ext e36).ext e42
    refine Between_ok hcv hG42 fun w43 e43 => ⟨kp1 e43 (by omega), ?_⟩
    have z43 := e43.size
    have hT43 := ((hT35.ext e36).ext e42).ext e43
    refine rBetween_quiet hT43 ?_
    rw [beq_self_eq_true, cond_true]
    intro w49 e49
    have z49 := e49.size
    refine Around_ok hcv ((hG42.ext e43).ext e49) fun s48 w50 e50 hO48 _ => ⟨kp1 e50 (by omega), ?_⟩
    have z50 := e50.size
    intro w52 e52
    have z52 := e52.size
    refine rAround_ok ok hn (((hT43.ext e49).ext e50).ext e52) fun s51 w53 e53 hO51 => ⟨kp1 e53 (by omega), ?_⟩
    have z53 := e53.size
    refine sameI_quiet ((hO48.ext e52).ext e53).view hO51.view (nearL_lt (l1 u)) ?_
    rw [cond_true]
    intro w59 e59
    have z59 := e59.size
    have e059 : Ext w w59 := (((((((((((e010.trans e20).trans e22).trans e23).trans e25).trans e32).trans e33).trans e35).trans e36).trans e42).trans e43).trans e49).trans (((e50.trans e52).trans e53).trans e59)
    refine Total_ok hcv (h.ext e059) fun w60 e60 => ⟨kp1 e60 (by omega), ?_⟩
    have z60 := e60.size
    refine rTotal_quiet (h.ext (e059.trans e60)) ?_
    rw [beq_self_eq_true, cond_true]
    intro w66 e66
    have z66 := e66.size
    exact known7_ok hcv fun w67 e67 => ⟨kp1 e67 (by omega), fun w68 e68 => hk w68 ((((e059.trans e60).trans e66).trans e67).trans e68)⟩
  · have z8 := e8.size
    have e08 := e04.trans e8
    refine right (p := none) e08 (by omega) _ fun b w10 e10 hb => ⟨kp1 e10 (by omega), ?_⟩
    have z10 := e10.size
    have e010 := e08.trans e10
    cases b with
    | true => exact absurd (hb.1 rfl) no
    | false =>
    simp only [Bool.not_false, cond_true, Option.isNone_none]
    refine Between_nil ⟨kp0_1 _ _, ?_⟩
    simp only [beq_self_eq_true, cond_true]
    refine From_nil ⟨kp0_1 _ _, ?_⟩
    simp only [Int.natCast_zero, beq_self_eq_true, cond_true]
    refine Total_ok hcv (h.ext e010) fun w16 e16 => ⟨kp1 e16 (by omega), ?_⟩
    have z16 := e16.size
    rw [show totF N arcs = -1 by unfold totF; rw [if_neg no]]
    simp only [beq_self_eq_true, cond_true]
    exact kn (by omega) (e010.trans e16)

theorem DistWalks_ok (hcv : DistCV CV) {u : Int} {t : SV} {l : List Int} {K : Bool → World → Prop} (h : View RD w s arcs) (ht : View RI w t l) (hk : ∀ w', Ext w w' → K true w') : sh_postroadlaw07_DistWalks CV N s u t K w := by
  unfold sh_postroadlaw07_DistWalks
  intro b1 w2 e2 g1 g1'
  have z2 := e2.size
  have hlt := ht.len
  have kn : ∀ {wa}, w2.heap.size ≤ wa.heap.size → Ext w wa → sh_postroadlaw07_known CV (fun t w8 => Keeps [b1] wa w8 ∧ K t w8) wa := fun {wa} hz ea =>
    known7_ok hcv fun w6 e6 => ⟨kp1 e6 (by omega), hk w6 (ea.trans e6)⟩
  refine Small2_ok fun w4 e4 => ⟨kp1 e4 (by omega), ?_⟩
  have z4 := e4.size
  have e04 := e2.trans e4
  by_cases hs : ¬ ((s.len : Int) ≤ 80 ∧ (N ≤ 30 ∨ N > 16777216))
  · rw [decide_eq_false hs]
    simp only [Bool.not_false, cond_true]
    exact kn (by omega) e04
  rw [Classical.not_not] at hs
  rw [decide_eq_true hs]
  simp only [Bool.not_true, cond_false]
  rw [Bool.cond_decide]
  split
  · exact kn (by omega) e04
  rename_i h100
  -- both walks tell the same
  have both : ∀ (x y : Int) (b : Bool) (w12 w16 : World), Ext w4 w12 → Ext w12 w16 → (b = true → ∃ v d, walkR N arcs u l = some (v, d) ∧ x = v ∧ y = d) →
      Keeps [b1] w12 w16 ∧ (cond (x != x) (K false w16) (cond (y != y) (K false w16) (cond (!(b == b)) (K false w16) (cond (!b) (sh_postroadlaw07_known CV (fun t17 w18 => (Keeps [b1] w16 w18 ∧ (K t17 w18))) w16) (sh_graph_New CV N s (fun p19 w20 =>
      (Keeps [b1] w16 w20 ∧
      (sh_dist_Between CV p19 u x (fun x21 w22 =>
      (Keeps [b1] w20 w22 ∧
      (cond (decide (x21 ≥ (0 : Int))) (cond (decide (x21 ≤ y)) (sh_postroadlaw07_known CV (fun t23 w24 =>
      (Keeps [b1] w22 w24 ∧
      (K t23 w24))) w22) (K false w22)) (K false w22)))) w20))) w16))))) := by
    intro x y b w12 w16 e12 e16 hb
    have z12 := e12.size; have z16 := e16.size
    have e016 := (e04.trans e12).trans e16
    refine ⟨kp1 e16 (by omega), ?_⟩
    simp only [bne_self_eq_false, cond_false, beq_self_eq_true, Bool.not_true]
    cases b with
    | false =>
      simp only [Bool.not_false, cond_true]
      exact kn (by omega) e016
    | true =>
      simp only [Bool.not_true, cond_false]
      obtain ⟨v, d, hw, rfl, rfl⟩ := hb rfl
      have hok : OkMap N arcs ∧ 0 ≤ u ∧ u < N := by
        unfold walkR at hw
        split at hw
        · assumption
        · cases hw
      obtain ⟨ok, u0, u1⟩ := hok
      have hw' : walkF arcs u 0 l = some (x, y) := by unfold walkR at hw; rw [if_pos ⟨ok, u0, u1⟩] at hw; exact hw
      obtain ⟨q1, q2, q3, q4, q5⟩ := walkF_wk ok l u 0 x y u0 u1 hw'
      refine GNew_ok hcv.g (h.ext e016) (fun _ p w20 F e20 hG _ => ⟨kp1 e20 (by omega), ?_⟩) (fun no => absurd ok no)
      have z20 := e20.size
      refine Between_ok hcv hG fun w22 e22 => ⟨kp1 e22 (by omega), ?_⟩
      have z22 := e22.size
      have hb : betF N arcs u x = dst arcs u.toNat x.toNat := by unfold betF; rw [if_pos ⟨u0, u1, q1, q2⟩]
      obtain ⟨m1, m2⟩ := (dst_is ok u.toNat x.toNat).min q5
      rw [hb, decide_eq_true m1, decide_eq_true (by omega), cond_true, cond_true]
      exact kn (by omega) ((e016.trans e20).trans e22)
  refine Walk_ok hcv (h.ext e04) (ht.ext e04) (by omega) (fun v d hw w12 e12 => ⟨kp1 e12 (by omega), ?_⟩) (fun hw w12 e12 => ⟨kp1 e12 (by omega), ?_⟩)
  · refine rWalk_ok (h.ext (e04.trans e12)) (ht.ext (e04.trans e12)) (by omega) (fun v' d' hw' w16 e16 => ?_) (fun hw' => by rw [hw] at hw'; cases hw')
    rw [hw] at hw'
    injection hw' with hw'
    injection hw' with r1 r2
    subst r1 r2
    exact both v d true w12 w16 e12 e16 fun _ => ⟨v, d, hw, rfl, rfl⟩
  · refine rWalk_ok (h.ext (e04.trans e12)) (ht.ext (e04.trans e12)) (by omega) (fun v' d' hw' => by rw [hw] at hw'; cases hw') (fun _ w16 e16 => ?_)
    exact both 0 0 false w12 w16 e12 e16 fun h => by cases h
end
end Go.Sh
