/- DistJoins. -/
import Derived.Test.YtachbdfhbpmaeaaDistKnown
set_option maxRecDepth 100000
namespace Go.Sh
open Go.RowKit

theorem walkF_shift (arcs : List Arc) : ∀ (l : List Int) (s d : Int), walkF arcs s d l = (walkF arcs s 0 l).map fun p => (p.1, d + p.2)
  | [], s, d => by simp [walkF]
  | k :: l, s, d => by
    simp only [walkF]
    split
    · rw [walkF_shift arcs l _ (d + _), walkF_shift arcs l _ (0 + _), Option.map_map]
      congr 1
      funext p
      simp only [Function.comp, Prod.mk.injEq, true_and]; omega
    · rfl

/-- Those that are near, of those that are nearly near. -/
theorem near_filter (row : List Int) (most : Int) (n : Nat) : nearL row most n = (nearL row (most + 1) n).filter fun v => decide (row.getD v.toNat (-1) ≤ most) := by
  induction n with
  | zero => rfl
  | succ n ih =>
    rw [nearL_snoc, nearL_snoc]
    by_cases h1 : 0 ≤ row.getD n (-1) ∧ row.getD n (-1) ≤ most + 1
    · rw [if_pos h1, List.filter_append, ← ih]
      by_cases h2 : row.getD n (-1) ≤ most
      · rw [if_pos ⟨h1.1, h2⟩, List.filter_cons_of_pos (by rw [Int.toNat_natCast]; exact decide_eq_true h2)]; rfl
      · rw [if_neg (fun h => h2 h.2), List.filter_cons_of_neg (by rw [Int.toNat_natCast]; simpa using h2)]; simp
    · rw [if_neg h1, if_neg (by omega)]; exact ih

section
variable {CV : CVT} {w : World} {N : Int} {s : SV} {arcs : List Arc}

theorem DistJoins_ok (hcv : DistCV CV) {u most : Int} {sa sb : SV} {la lb : List Int} {K : Bool → World → Prop} (h : View RD w s arcs) (ha : View RI w sa la) (hla : la.length < 2 ^ 47) (hb : View RI w sb lb) (hlb : lb.length < 2 ^ 47) (hm : 0 ≤ most ∧ most < 65536) (hk : ∀ w', Ext w w' → K true w') : sh_postroadlaw07_DistJoins CV N s u sa sb most K w := by
  unfold sh_postroadlaw07_DistJoins
  intro b1 w2 e2 g1 g1'
  have z2 := e2.size
  have hal := ha.len; have hbl := hb.len
  have kn : ∀ {wa}, w2.heap.size ≤ wa.heap.size → Ext w wa → sh_postroadlaw07_known CV (fun t w8 => Keeps [b1] wa w8 ∧ K t w8) wa := fun {wa} hz ea =>
    known7_ok hcv fun w6 e6 => ⟨kp1 e6 (by omega), hk w6 (ea.trans e6)⟩
  refine Right7_ok (h.ext e2) fun b w4 e4 hbb => ⟨kp1 e4 (by omega), ?_⟩
  have z4 := e4.size
  have e04 := e2.trans e4
  cases b with
  | false => simp only [Bool.not_false, cond_true]; exact kn (by omega) e04
  | true =>
  obtain ⟨hs, ok⟩ := hbb.1 rfl
  simp only [Bool.not_true, cond_false]
  rw [w64 (by omega) (by omega), Bool.cond_decide]
  split
  · exact kn (by omega) e04
  rename_i h100
  obtain ⟨n, rfl⟩ := Int.eq_ofNat_of_zero_le ok.n0
  have hn : n ≤ 4096 := by have := ok.n1; omega
  -- the end
  have fin : ∀ w27, Ext w w27 → w2.heap.size ≤ w27.heap.size → sh_graph_New CV (n : Int) s (fun p28 w29 =>
      (Keeps [b1] w27 w29 ∧
      (sh_dist_Around CV p28 u (IntKind.i64.wrap (most)) (fun s30 w31 =>
      (Keeps [b1] w29 w31 ∧
      (sh_dist_Around CV p28 u (IntKind.i64.wrap ((IntKind.i64.wrap (most)) + (1 : Int))) (fun s32 w33 =>
      (Keeps [b1] w31 w33 ∧
      (Join (Int × Unit) (fun J34 =>
      (LoopT (Int × Int × Unit) (fun t36 again35 w37 =>
      (cond (decide (t36.2.1 < (s32.len : Int))) (Join (Int × Unit) (fun J38 =>
      (cond (decide (t36.1 < (s30.len : Int))) (Idx s30.a s30.len t36.1 1 (fun a39 =>
      (∃ x40 : Int, w37.cell? a39 = some (.int .i64 x40) ∧
      (Idx s32.a s32.len t36.2.1 1 (fun a41 =>
      (∃ x42 : Int, w37.cell? a41 = some (.int .i64 x42) ∧
      (∀ w43, Ext w37 w43 →
      (cond (x40 == x42) (J38 ((IntKind.i64.wrap (t36.1 + (1 : Int))), ()) w43) (J38 (t36.1, ()) w43))))))))) (∀ w44, Ext w37 w44 →
      (J38 (t36.1, ()) w44))))
      (fun t45 w46 =>
      (again35 (t45.1, (IntKind.i64.wrap (t36.2.1 + (1 : Int))), ()) w46))) (J34 (t36.1, ()) w37))) ((0 : Int), (0 : Int), ()) w33))
      (fun t47 w48 =>
      (cond (t47.1 == (s30.len : Int)) (sh_postroadlaw07_known CV (fun t49 w50 =>
      (Keeps [b1] w48 w50 ∧
      (K t49 w50))) w48) (K false w48)))))) w31))) w29))) w27 := by
    intro w27 e27 z27
    refine GNew_ok hcv.g (h.ext e27) (fun _ p w29 F e29 hG _ => ⟨kp1 e29 (by omega), ?_⟩) (fun no => absurd ok no)
    have z29 := e29.size
    rw [w64 (n := most) (by omega) (by omega), w64 (by omega) (by omega)]
    refine Around_ok hcv hG fun s30 w31 e31 hO30 _ => ⟨kp1 e31 (by omega), ?_⟩
    have z31 := e31.size
    refine Around_ok hcv (hG.ext e31) fun s32 w33 e33 hO32 _ => ⟨kp1 e33 (by omega), ?_⟩
    have z33 := e33.size
    have h30 := (hO30.ext e33).view
    have h32 := hO32.view
    have hlen : (distL (n : Int) arcs u).length ≤ 4096 := by
      by_cases hs : 0 ≤ u ∧ u < (n : Int)
      · rw [distL_len hs]; omega
      · rw [distL_no hs]; simp
    generalize distL (n : Int) arcs u = row at *
    have hf := near_filter row most row.length
    have hl1 := nearL_len row most row.length
    have hl2 := nearL_len row (most + 1) row.length
    generalize nearL row most row.length = l at *
    generalize nearL row (most + 1) row.length = k at *
    generalize (fun v : Int => decide (row.getD v.toNat (-1) ≤ most)) = P at hf
    have l30 := h30.len; have l32 := h32.len
    have e033 := ((e27.trans e29).trans e31).trans e33
    have hpre : ∀ i, ((k.take i).filter P).length ≤ l.length := fun i => by
      rw [hf]; exact ((List.take_sublist i k).filter P).length_le
    refine Join.cut (fun (x : Int × Unit) w' => x.1 = (l.length : Int) ∧ Ext w33 w') (fun J hJ => ?_) (fun x w48 ⟨hx, e48⟩ => ?_)
    · refine LoopT.gh (γ := Nat) (fun i (st : Int × Int × Unit) w' => st.1 = (((k.take i).filter P).length : Int) ∧ st.2.1 = i ∧ i ≤ k.length ∧ Ext w33 w') (fun i => k.length - i) 0 ⟨rfl, rfl, Nat.zero_le _, .refl _⟩ ?_
      rintro i ⟨j, x, _⟩ w37 ⟨hj, hx, hi, e37⟩ J1 hJ1
      simp only at hj hx; subst hx hj
      dsimp only
      rw [Bool.cond_decide]
      by_cases hc : (i : Int) < (s32.len : Int)
      · rw [if_pos hc]
        have hi' : i < k.length := by omega
        have hst : (k.take (i + 1)).filter P = (k.take i).filter P ++ (if P k[i] then [k[i]] else []) := by
          rw [take_snoc' hi', List.filter_append, List.filter_cons, List.filter_nil]
        have hsplit : l = (k.take i).filter P ++ (if P k[i] then [k[i]] else []) ++ (k.drop (i + 1)).filter P := by
          rw [← hst, ← List.filter_append, List.take_append_drop]; exact hf
        have hp := hpre (i + 1)
        refine Join.cut (fun (x : Int × Unit) w' => x.1 = (((k.take (i + 1)).filter P).length : Int) ∧ Ext w33 w') (fun J2 hJ2 => ?_) (fun x w' ⟨q1, q2⟩ => hJ1 (i + 1) _ _ ⟨q1, wsucc (m := 2 ^ 40) (by omega) (by omega), by omega, q2⟩ (by omega))
        generalize hF : (k.take i).filter P = F at *
        rw [Bool.cond_decide]
        by_cases hjl : (F.length : Int) < (s30.len : Int)
        · rw [if_pos hjl]
          have hjl' : F.length < l.length := by omega
          refine int_idx (h30.ext e37) hjl' fun _ q => ⟨_, q, ?_⟩
          refine int_idx (h32.ext e37) hi' fun _ q => ⟨_, q, ?_⟩
          intro w43 e43
          by_cases hP : P k[i] = true
          · have : l[F.length] = k[i] := by
              have h2 : l[F.length]? = some k[i] := by rw [hsplit, if_pos hP, List.append_assoc, List.getElem?_append_right (Nat.le_refl _)]; simp
              rw [List.getElem?_eq_getElem hjl'] at h2
              injection h2
            rw [this, beq_self_eq_true, cond_true]
            refine hJ2 _ _ ⟨?_, e37.trans e43⟩
            simp only
            rw [hst, if_pos hP, wsucc (m := 2 ^ 40) (by omega) (by omega)]; simp
          · have hq : P l[F.length] = true := by
              have h3 : l[F.length] ∈ k.filter P := by rw [← hf]; exact List.getElem_mem _
              exact (List.mem_filter.1 h3).2
            have : l[F.length] ≠ k[i] := fun e => hP (by rw [← e]; exact hq)
            rw [show (l[F.length] == k[i]) = false by simpa using this, cond_false]
            refine hJ2 _ _ ⟨?_, e37.trans e43⟩
            simp only
            rw [hst, if_neg hP]; simp
        · rw [if_neg hjl]
          intro w44 e44
          refine hJ2 _ _ ⟨?_, e37.trans e44⟩
          simp only
          have h4 := hpre i
          rw [hF] at h4
          rw [hst] at hp ⊢
          rw [List.length_append] at hp ⊢
          omega
      · rw [if_neg hc]
        have : i = k.length := by omega
        subst this
        rw [List.take_length, ← hf]
        exact hJ _ _ ⟨rfl, e37⟩
    · obtain ⟨x, _⟩ := x
      simp only at hx; subst hx
      dsimp only
      rw [l30, beq_self_eq_true, cond_true]
      exact kn (by have := e48.size; omega) (e033.trans e48)
  -- the walks
  have third : ∀ (x9 x10 : Int) (t11 : Bool) (x13 x14 : Int) (t15 : Bool) (w12 w16 : World), Ext w4 w12 → Ext w12 w16 →
      (∀ x21 x22 t23, (∀ v d, walkR (n : Int) arcs u (la ++ lb) = some (v, d) → x21 = v ∧ x22 = d ∧ t23 = true) → (walkR (n : Int) arcs u (la ++ lb) = none → t23 = false) → (t11 = true → t23 = t15 ∧ (t15 = true → x21 = x13 ∧ x22 = IntKind.i64.wrap (x10 + x14))) ∧ (t11 = false → t23 = false)) → (w4.heap.size ≤ w16.heap.size) → 
      ∀ (Kg : Int → Int → Bool → World → Prop), (∀ x21 x22 t23 w24, Ext w16 w24 → ((t11 = true → t23 = t15 ∧ (t15 = true → x21 = x13 ∧ x22 = IntKind.i64.wrap (x10 + x14))) ∧ (t11 = false → t23 = false)) → Kg x21 x22 t23 w24) → 
      App 8 [(.int .i64 (0 : Int))] ⟨none, 0, 0⟩ sa w16 (fun s17 w18 => (Keeps [b1] w16 w18 ∧ (App 8 [(.int .i64 (0 : Int))] s17 sb w18 (fun s19 w20 => (Keeps [b1] w18 w20 ∧ (sh_dist_Walk CV (n : Int) s u s19 (fun x21 x22 t23 w24 => (Keeps [b1] w20 w24 ∧ Kg x21 x22 t23 w24)) w20)))))) := by
    intro x9 x10 t11 x13 x14 t15 w12 w16 e12 e16 hx z16' Kg hKg
    have e016 := (e04.trans e12).trans e16
    refine copy_ok (R := RI) (ha.ext e016) (by omega) (by omega) fun s17 w18 e18 hO17 f17 => ⟨kp1 e18 (by omega), ?_⟩
    have z18 := e18.size
    refine Own.app (R := RI) hO17 (hb.ext (e016.trans e18)) (by omega) (by omega) fun s19 w20 c20 hs20 hO20 => ?_
    have z20 := c20.size
    have e1620 : Ext w16 w20 := ext_chg e18 c20 fun k hk => f17 k hk
    refine ⟨kc1 c20 (by omega) fun hk => by have := f17 _ hk; omega, ?_⟩
    refine Walk_ok hcv (h.ext (e016.trans e1620)) hO20.view (by rw [List.length_append]; omega) (fun v d hw w24 e24 => ⟨kp1 e24 (by omega), ?_⟩) (fun hw w24 e24 => ⟨kp1 e24 (by omega), ?_⟩)
    · exact hKg _ _ _ _ (e1620.trans e24) (hx v d true (fun v' d' hw' => by rw [hw] at hw'; injection hw' with hw'; injection hw' with q1 q2; exact ⟨q1, q2, rfl⟩) fun hw' => by rw [hw] at hw'; cases hw')
    · exact hKg _ _ _ _ (e1620.trans e24) (hx 0 0 false (fun v' d' hw' => by rw [hw] at hw'; cases hw') fun _ => rfl)
  -- what is told of them
  have tail : ∀ (x9 x10 : Int) (t11 : Bool) (x13 x14 : Int) (t15 : Bool) (w12 w16 : World), Ext w4 w12 → Ext w12 w16 → w4.heap.size ≤ w16.heap.size → ∀ x21 x22 t23 w24, Ext w16 w24 → ((t11 = true → t23 = t15 ∧ (t15 = true → x21 = x13 ∧ x22 = IntKind.i64.wrap (x10 + x14))) ∧ (t11 = false → t23 = false)) →
      ∀ J25 : Unit → World → Prop, J25 () w24 → (cond t11 (cond (!(t23 == t15)) (K false w24) (cond t11 (cond t15 (cond (x21 != x13) (K false w24) (cond (x22 != (IntKind.i64.wrap (x10 + x14))) (K false w24) (cond (!t11) (cond t23 (K false w24) (J25 () w24)) (J25 () w24)))) (cond (!t11) (cond t23 (K false w24) (J25 () w24)) (J25 () w24))) (cond (!t11) (cond t23 (K false w24) (J25 () w24)) (J25 () w24)))) (cond t11 (cond t15 (cond (x21 != x13) (K false w24) (cond (x22 != (IntKind.i64.wrap (x10 + x14))) (K false w24) (cond (!t11) (cond t23 (K false w24) (J25 () w24)) (J25 () w24)))) (cond (!t11) (cond t23 (K false w24) (J25 () w24)) (J25 () w24))) (cond (!t11) (cond t23 (K false w24) (J25 () w24)) (J25 () w24)))) := by
    intro x9 x10 t11 x13 x14 t15 w12 w16 _ _ _ x21 x22 t23 w24 e24 hh J25 hJ
    cases t11 with
    | false =>
      rw [hh.2 rfl]
      exact hJ
    | true =>
      obtain ⟨h1, h2⟩ := hh.1 rfl
      subst h1
      cases t23 with
      | false => exact hJ
      | true =>
        obtain ⟨rfl, rfl⟩ := h2 rfl
        simp only [cond_true, beq_self_eq_true, Bool.not_true, cond_false, bne_self_eq_false]
        exact hJ
  have wab : ∀ hu : 0 ≤ u ∧ u < (n : Int), walkR (n : Int) arcs u (la ++ lb) = match walkF arcs u 0 la with | some (v, d) => walkF arcs v d lb | none => none := fun hu => by
    unfold walkR; rw [if_pos ⟨ok, hu.1, hu.2⟩]; exact walkF_app arcs la lb u 0
  have e0 : ∀ l : List Int, (¬ (0 ≤ u ∧ u < (n : Int))) → walkR (n : Int) arcs u l = none := fun l hu => by unfold walkR; rw [if_neg (fun h => hu h.2)]
  have inR : ∀ l p, walkR (n : Int) arcs u l = some p → 0 ≤ u ∧ u < (n : Int) := fun l p hp => Classical.byContradiction fun hu => by rw [e0 l hu] at hp; cases hp
  have wl : ∀ {v : Int} (l : List Int), 0 ≤ v → v < (n : Int) → walkR (n : Int) arcs v l = walkF arcs v 0 l := fun l h0 h1 => by unfold walkR; rw [if_pos ⟨ok, h0, h1⟩]
  refine Walk_ok hcv (h.ext e04) (ha.ext e04) (by omega) (fun v d hw w12 e12 => ⟨kp1 e12 (by omega), ?_⟩) (fun hw w12 e12 => ⟨kp1 e12 (by omega), ?_⟩)
  · have z12 := e12.size
    obtain ⟨u0, u1⟩ := inR _ _ hw
    have hwF := hw
    rw [wl la u0 u1] at hwF
    obtain ⟨v0, v1, d0, d1, _⟩ := walkF_wk ok la u 0 v d u0 u1 hwF
    have hab := wab ⟨u0, u1⟩
    rw [hwF] at hab
    simp only at hab
    rw [walkF_shift] at hab
    refine Walk_ok hcv (h.ext (e04.trans e12)) (hb.ext (e04.trans e12)) (by omega) (fun v' d' hw' w16 e16 => ⟨kp1 e16 (by omega), ?_⟩) (fun hw' w16 e16 => ⟨kp1 e16 (by omega), ?_⟩)
    · have z16 := e16.size
      rw [wl lb v0 v1] at hw'
      obtain ⟨_, _, d0', d1', _⟩ := walkF_wk ok lb v 0 v' d' v0 v1 hw'
      rw [hw'] at hab
      simp only [Option.map_some] at hab
      refine third v d true v' d' true w12 w16 e12 e16 (fun x21 x22 t23 hs hn => ⟨fun _ => ?_, fun h => (by cases h)⟩) (by omega) _ fun x21 x22 t23 w24 e24 hh => ?_
      · obtain ⟨q1, q2, q3⟩ := hs _ _ hab
        exact ⟨q3, fun _ => ⟨q1, by rw [q2, w64 (by omega) (by omega)]⟩⟩
      · refine Join.cut (fun _ w' => w' = w24) (fun J hJ => tail v d true v' d' true w12 w16 e12 e16 (by omega) x21 x22 t23 w24 e24 hh J (hJ _ _ rfl)) ?_
        rintro _ w27 rfl
        exact fin _ (((e04.trans e12).trans e16).trans e24) (by have := e24.size; omega)
    · have z16 := e16.size
      rw [wl lb v0 v1] at hw'
      rw [hw'] at hab
      simp only [Option.map_none] at hab
      refine third v d true 0 0 false w12 w16 e12 e16 (fun x21 x22 t23 hs hn => ⟨fun _ => ⟨hn hab, fun h => (by cases h)⟩, fun h => (by cases h)⟩) (by omega) _ fun x21 x22 t23 w24 e24 hh => ?_
      refine Join.cut (fun _ w' => w' = w24) (fun J hJ => tail v d true 0 0 false w12 w16 e12 e16 (by omega) x21 x22 t23 w24 e24 hh J (hJ _ _ rfl)) ?_
      rintro _ w27 rfl
      exact fin _ (((e04.trans e12).trans e16).trans e24) (by have := e24.size; omega)
  · have z12 := e12.size
    have hab : walkR (n : Int) arcs u (la ++ lb) = none := by
      by_cases hu : 0 ≤ u ∧ u < (n : Int)
      · rw [wab hu]
        rw [wl la hu.1 hu.2] at hw
        rw [hw]
      · exact e0 _ hu
    have rest : ∀ (x13 x14 : Int) (t15 : Bool) (w16 : World), Ext w12 w16 → w4.heap.size ≤ w16.heap.size → _ := fun x13 x14 t15 w16 e16 z16 => third 0 0 false x13 x14 t15 w12 w16 e12 e16 (fun x21 x22 t23 hs hn => ⟨fun h => (by cases h), fun _ => hn hab⟩) z16
    refine Walk_ok hcv (h.ext (e04.trans e12)) (hb.ext (e04.trans e12)) (by omega) (fun v' d' hw' w16 e16 => ⟨kp1 e16 (by omega), ?_⟩) (fun hw' w16 e16 => ⟨kp1 e16 (by omega), ?_⟩)
    · have z16 := e16.size
      refine rest v' d' true w16 e16 (by omega) _ fun x21 x22 t23 w24 e24 hh => ?_
      refine Join.cut (fun _ w' => w' = w24) (fun J hJ => tail 0 0 false v' d' true w12 w16 e12 e16 (by omega) x21 x22 t23 w24 e24 hh J (hJ _ _ rfl)) ?_
      rintro _ w27 rfl
      exact fin _ (((e04.trans e12).trans e16).trans e24) (by have := e24.size; omega)
    · have z16 := e16.size
      refine rest 0 0 false w16 e16 (by omega) _ fun x21 x22 t23 w24 e24 hh => ?_
      refine Join.cut (fun _ w' => w' = w24) (fun J hJ => tail 0 0 false 0 0 false w12 w16 e12 e16 (by omega) x21 x22 t23 w24 e24 hh J (hJ _ _ rfl)) ?_
      rintro _ w27 rfl
      exact fin _ (((e04.trans e12).trans e16).trans e24) (by have := e24.size; omega)
end
end Go.Sh
