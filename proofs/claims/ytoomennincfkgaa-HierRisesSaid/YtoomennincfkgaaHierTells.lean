/- HierTells. -/
import Derived.Test.YtoomennincfkgaaHierTwo
set_option maxRecDepth 100000
namespace Go.Sh
open Go.RowKit

/-- The reference's halves. -/
theorem rHalves_ok {w : World} {sr sy : SV} {ways : List Wy} {k : Int} {K : Int → Int → Bool → World → Prop} (hy : View RW w sy ways) (hn : ways.length < 2 ^ 40)
    (h1 : ∀ i : Nat, k = (i : Int) → ∀ hi : i < ways.length, yM ways[i] ≠ -1 → ∀ w', Ext w w' → K (ofN (findW ways (yF ways[i]) (yM ways[i]))) (ofN (findW ways (yM ways[i]) (yT ways[i]))) true w')
    (h2 : (∀ i : Nat, k = (i : Int) → ∀ hi : i < ways.length, yM ways[i] = -1) → ∀ w', Ext w w' → K 0 0 false w') : sh_postroadref10_Halves sr sy k K w := by
  unfold sh_postroadref10_Halves
  intro b1 w2 e2 g1 g1'
  have hl := hy.len
  rw [Bool.cond_decide]
  split
  · exact h2 (fun i hk hi => by omega) _ e2
  rw [Bool.cond_decide]
  split
  · exact h2 (fun i hk hi => by omega) _ e2
  obtain ⟨i, rfl⟩ := Int.eq_ofNat_of_zero_le (show 0 ≤ k by omega)
  have hi : i < ways.length := by omega
  have hy2 := hy.ext e2
  refine way_idx hy2 hi fun q hq _ _ _ q3 _ => ⟨yM ways[i], ?_, ?_⟩
  · rw [add_add _ hq] at q3 ⊢; rw [addm]; exact q3
  by_cases hm : yM ways[i] = -1
  · rw [show (yM ways[i] == -1) = true by simpa using hm, cond_true]
    exact h2 (fun j hk hj => by have : j = i := by omega
                                subst this; exact hm) _ e2
  rw [show (yM ways[i] == -1) = false by simpa using hm, cond_false]
  refine way_idx hy2 hi fun _ _ a0 a1 a2 a3 a4 => ⟨_, a0, _, a1, _, a2, _, a3, _, a4, ?_⟩
  intro b11 w12 e12 g11 _ w13 o13
  have z2 := e2.size
  have e13 : Ext w w13 := ext_off (e2.trans e12) o13 (by omega)
  refine rFind_quiet (hy.ext e13) hn ?_
  refine rFind_quiet (hy.ext e13) hn ?_
  intro w22 e22
  exact h1 i rfl hi hm w22 (e13.trans e22)

theorem okH_halves {rank : List Int} {ways : List Wy} (ok : OkH rank ways) {i : Nat} (hi : i < ways.length) (hm : yM ways[i] ≠ -1) : ∃ a b : Nat, findW ways (yF ways[i]) (yM ways[i]) = some a ∧ findW ways (yM ways[i]) (yT ways[i]) = some b ∧ wW ways a + wW ways b = yW ways[i] := by
  have := ok.w _ (List.getElem_mem hi)
  unfold OkW at this
  rw [if_neg hm] at this
  obtain ⟨_, _, _, _, _, a, b, h1, h2, h3⟩ := this
  exact ⟨a, b, h1, h2, h3⟩

theorem way5_eq {a b c d e : Int} : (!((a == a) && ((b == b) && (((c == c) && ((d == d) && ((e == e) && true))) && true)))) = false := by simp

theorem HierTells_ok {w : World} {sr sy : SV} {rank : List Int} {ways : List Wy} {u v k : Int} {K : Bool → World → Prop} (hr : View RI w sr rank) (hy : View RW w sy ways) (hk : ∀ w', Ext w w' → K true w') : sh_postroadlaw10_HierTells sr sy u v k K w := by
  unfold sh_postroadlaw10_HierTells
  intro b1 w2 e2 g1 g1'
  have z2 := e2.size
  have lr := hr.len; have ly := hy.len
  refine long_ok fun b w4 e4 hb => ⟨kp1 e4 (by omega), ?_⟩
  have z4 := e4.size
  have e04 := e2.trans e4
  have kn : ∀ {wa}, w2.heap.size ≤ wa.heap.size → Ext w wa → sh_postroadlaw10_known (fun t w8 => Keeps [b1] wa w8 ∧ K t w8) wa := fun {wa} hz ea =>
    known10_ok fun w6 e6 => ⟨kp1 e6 (by omega), hk w6 (ea.trans e6)⟩
  cases b with
  | true => rw [cond_true]; exact kn (by omega) e04
  | false =>
  obtain ⟨l1, l2⟩ := hb rfl
  rw [cond_false]
  refine rCheck_ok (hr.ext e04) (hy.ext e04) fun w8 e8 => ⟨kp1 e8 (by omega), ?_⟩
  have z8 := e8.size
  have e08 := e04.trans e8
  refine HNew_any (hr.ext e08) (hy.ext e08) (by omega) (by omega) fun p w10 e10 hp => ⟨kp1 e10 (by omega), ?_⟩
  have z10 := e10.size
  have e010 := e08.trans e10
  refine HCheck_ok (hr.ext e010) (hy.ext e010) fun w12 e12 => ⟨kp1 e12 (by omega), ?_⟩
  have z12 := e12.size
  have e012 := e010.trans e12
  rw [bne_self_eq_false, cond_false]
  rcases hp with ⟨rfl, no⟩ | ⟨F, hH, _⟩
  · have q := (chkF_no no).1
    rw [show (chkF rank ways == 0) = false by simpa using q, show (chkF rank ways != 0) = true by simpa using q]
    simp only [Option.isNone_none, Bool.not_true, beq_self_eq_true, cond_false, cond_true]
    refine Rank_nil ⟨kp0_1 w12 b1, ?_⟩
    simp only [beq_self_eq_true, cond_true]
    refine HFind_nil ⟨kp0_1 w12 b1, ?_⟩
    simp only [beq_self_eq_true, cond_true]
    refine Up_nil ⟨kp0_1 w12 b1, ?_⟩
    exact kn (by omega) e012
  have ok := hH.ok
  have hH12 := hH.ext e12
  rw [chkF_ok ok, hH.some]
  simp only [Bool.not_false, beq_self_eq_true, Bool.not_true, cond_false, bne_self_eq_false]
  refine Join.cut (fun (x : Int × Unit) w' => w' = w12 ∧ x.1 = rankF rank v) (fun J hJ => ?_) ?_
  · rw [Bool.cond_decide]
    by_cases h0 : v ≥ 0
    · rw [if_pos h0, Bool.cond_decide]
      by_cases h1 : v < (sr.len : Int)
      · rw [if_pos h1]
        obtain ⟨n, rfl⟩ := Int.eq_ofNat_of_zero_le h0
        refine int_idx (hr.ext e012) (by omega) fun _ q => ⟨_, q, hJ _ _ ⟨rfl, ?_⟩⟩
        simp only
        unfold rankF; rw [if_pos (by omega), rk_get]
      · rw [if_neg h1]
        exact hJ _ _ ⟨rfl, by simp only; unfold rankF; rw [if_neg (by omega)]⟩
    · rw [if_neg h0]
      exact hJ _ _ ⟨rfl, by simp only; unfold rankF; rw [if_neg (by omega)]⟩
  rintro ⟨r, _⟩ w25 ⟨rfl, hr0⟩
  simp only at hr0; subst hr0
  dsimp only
  -- the end of it all
  have fin : ∀ (b33 : Nat) (w50 : World), b33 < w50.heap.size → w25.heap.size ≤ w50.heap.size → Ext w25 w50 →
      sh_hier_Hier_Halves p k (fun x51 x52 t53 w54 => (Keeps [b33, b1] w50 w54 ∧ (sh_postroadref10_Halves sr sy k (fun x55 x56 t57 w58 => (Keeps [b33, b1] w54 w58 ∧
        (cond (x51 != x55) (K false w58) (cond (x52 != x56) (K false w58) (cond (!(t53 == t57)) (K false w58)
          (Quiet (Int) (fun r60 => (.int .i64 r60)) (fun K61 w62' => sh_hier_Hier_N p (fun x59 w62 => K61 x59 w62) w62') w58 (fun r60 =>
          (cond (r60 == (sr.len : Int)) (Quiet (Int) (fun r64 => (.int .i64 r64)) (fun K65 w66' => sh_hier_Hier_Rank p v (fun x63 w66 => K65 x63 w66) w66') w58 (fun r64 =>
          (cond (r64 == rankF rank v) (Quiet (Int) (fun r68 => (.int .i64 r68)) (fun K69 w70' => sh_hier_Hier_At p k (fun x67 w70 => K69 x67 w70) w70') w58 (fun r68 =>
          (Quiet (Int) (fun r72 => (.int .i64 r72)) (fun K73 w74' => sh_postroadref10_At sr sy k (fun x71 w74 => K73 x71 w74) w74') w58 (fun r72 =>
          (cond (r68 == r72) (Quiet (Int) (fun r76 => (.int .i64 r76)) (fun K77 w78' => sh_hier_Hier_Find p u v (fun x75 w78 => K77 x75 w78) w78') w58 (fun r76 =>
          (Quiet (Int) (fun r80 => (.int .i64 r80)) (fun K81 w82' => sh_postroadref10_Find sr sy u v (fun x79 w82 => K81 x79 w82) w82') w58 (fun r80 =>
          (cond (r76 == r80) (∀ w84, Ext w58 w84 → (sh_postroadlaw10_known (fun t83 w85 => (Keeps [b33, b1] w84 w85 ∧ (∀ w86, Ext w85 w86 → (K t83 w86)))) w84))
            (∀ w87, Ext w58 w87 → (K false w87))))))) (∀ w88, Ext w58 w88 → (K false w88))))))) (∀ w89, Ext w58 w89 → (K false w89))))) (∀ w90, Ext w58 w90 → (K false w90)))))))))) w54))) w50 := by
    intro b33 w50 hb33 hz e50
    have z50 := e50.size
    have fin2 : ∀ (w54 w58 : World), Ext w50 w54 → Ext w54 w58 → ∀ (x51 x52 : Int) (t53 : Bool), Keeps [b33, b1] w54 w58 ∧
        (cond (x51 != x51) (K false w58) (cond (x52 != x52) (K false w58) (cond (!(t53 == t53)) (K false w58)
          (Quiet (Int) (fun r60 => (.int .i64 r60)) (fun K61 w62' => sh_hier_Hier_N p (fun x59 w62 => K61 x59 w62) w62') w58 (fun r60 =>
          (cond (r60 == (sr.len : Int)) (Quiet (Int) (fun r64 => (.int .i64 r64)) (fun K65 w66' => sh_hier_Hier_Rank p v (fun x63 w66 => K65 x63 w66) w66') w58 (fun r64 =>
          (cond (r64 == rankF rank v) (Quiet (Int) (fun r68 => (.int .i64 r68)) (fun K69 w70' => sh_hier_Hier_At p k (fun x67 w70 => K69 x67 w70) w70') w58 (fun r68 =>
          (Quiet (Int) (fun r72 => (.int .i64 r72)) (fun K73 w74' => sh_postroadref10_At sr sy k (fun x71 w74 => K73 x71 w74) w74') w58 (fun r72 =>
          (cond (r68 == r72) (Quiet (Int) (fun r76 => (.int .i64 r76)) (fun K77 w78' => sh_hier_Hier_Find p u v (fun x75 w78 => K77 x75 w78) w78') w58 (fun r76 =>
          (Quiet (Int) (fun r80 => (.int .i64 r80)) (fun K81 w82' => sh_postroadref10_Find sr sy u v (fun x79 w82 => K81 x79 w82) w82') w58 (fun r80 =>
          (cond (r76 == r80) (∀ w84, Ext w58 w84 → (sh_postroadlaw10_known (fun t83 w85 => (Keeps [b33, b1] w84 w85 ∧ (∀ w86, Ext w85 w86 → (K t83 w86)))) w84))
            (∀ w87, Ext w58 w87 → (K false w87))))))) (∀ w88, Ext w58 w88 → (K false w88))))))) (∀ w89, Ext w58 w89 → (K false w89))))) (∀ w90, Ext w58 w90 → (K false w90)))))))) := by
      intro w54 w58 e54 e58 x51 x52 t53
      have z54 := e54.size; have z58 := e58.size
      refine ⟨kp2 e58 (by omega) (by omega), ?_⟩
      have e2558 := (e50.trans e54).trans e58
      have hH58 := hH12.ext e2558
      have e058 := e012.trans e2558
      simp only [bne_self_eq_false, cond_false, beq_self_eq_true, Bool.not_true]
      refine HN_quiet hH58 ?_
      rw [lr, beq_self_eq_true, cond_true]
      refine Rank_quiet hH58 ?_
      rw [beq_self_eq_true, cond_true]
      obtain ⟨x, hx⟩ := isAt_ex k rank
      refine HAt_quiet hH58 hx ?_
      refine rAt_quiet (hr.ext e058) ok hx ?_
      rw [beq_self_eq_true, cond_true]
      refine HFind_quiet hH58 ?_
      refine rFind_quiet (hy.ext e058) (by omega) ?_
      rw [beq_self_eq_true, cond_true]
      intro w84 e84
      have z84 := e84.size
      exact known10_ok fun w85 e85 => ⟨kp2 e85 (by omega) (by omega), fun w86 e86 => hk w86 ((e058.trans e84).trans (e85.trans e86))⟩
    refine HHalves_ok (hH12.ext e50) (fun i hki hi hm w54 e54 => ⟨kp2 e54 (by omega) (by omega), ?_⟩) (fun hno w54 e54 => ⟨kp2 e54 (by omega) (by omega), ?_⟩)
    · refine rHalves_ok (hy.ext ((e012.trans e50).trans e54)) (by omega) (fun j hkj hj hm' w58 e58 => ?_) (fun hno => absurd (hno i hki hi) hm)
      have : j = i := by omega
      subst this
      obtain ⟨a, b, h1, h2, _⟩ := okH_halves ok hi hm
      rw [h1, h2]
      exact fin2 w54 w58 e54 e58 _ _ _
    · refine rHalves_ok (hy.ext ((e012.trans e50).trans e54)) (by omega) (fun j hkj hj hm' w58 e58 => absurd (hno j hkj hj) hm') (fun _ w58 e58 => ?_)
      exact fin2 w54 w58 e54 e58 _ _ _
  refine HWay_ok hH12 (fun i hki hi w32 e32 => ⟨kp1 e32 (by omega), ?_⟩) (fun hno w32 e32 => ⟨kp1 e32 (by omega), ?_⟩)
  · have z32 := e32.size
    intro b33 w34 e34 g33 g33' w35 o35
    have z34 := e34.size
    have e35 : Ext w25 w35 := ext_off (e32.trans e34) o35 (by omega)
    have z35 := e35.size
    have s35 := o35.size
    rw [decide_eq_true (show k ≥ 0 by omega), cond_true, show decide (k < (sy.len : Int)) = true from decide_eq_true (by omega)]
    refine Join.cut (fun _ w' => Ext w35 w') (fun J hJ => ?_) (fun _ w50 e50 => fin b33 w50 (by have := e50.size; omega) (by have := e50.size; omega) (e35.trans e50))
    simp only [beq_self_eq_true, Bool.not_true, cond_false, cond_true]
    rw [hki]
    refine way_idx (hy.ext (e012.trans e35)) hi fun _ _ a0 a1 a2 a3 a4 => ⟨_, a0, _, a1, _, a2, _, a3, _, a4, ?_⟩
    simp only [beq_self_eq_true, Bool.and_self, Bool.not_true, cond_false]
    intro w46 e46
    exact hJ _ _ e46
  · have z32 := e32.size
    intro b33 w34 e34 g33 g33' w35 o35
    have z34 := e34.size
    have e35 : Ext w25 w35 := ext_off (e32.trans e34) o35 (by omega)
    have z35 := e35.size
    have s35 := o35.size
    by_cases h0 : k ≥ 0
    · rw [decide_eq_true h0, cond_true, show decide (k < (sy.len : Int)) = false from decide_eq_false (by omega)]
      refine Join.cut (fun _ w' => Ext w35 w') (fun J hJ => ?_) (fun _ w50 e50 => fin b33 w50 (by have := e50.size; omega) (by have := e50.size; omega) (e35.trans e50))
      simp only [beq_self_eq_true, Bool.not_true, cond_false, cond_true, Bool.not_false, Bool.and_self]
      intro w47 e47
      exact hJ _ _ e47
    · rw [decide_eq_false h0, cond_false]
      refine Join.cut (fun _ w' => Ext w35 w') (fun J hJ => ?_) (fun _ w50 e50 => fin b33 w50 (by have := e50.size; omega) (by have := e50.size; omega) (e35.trans e50))
      simp only [beq_self_eq_true, Bool.not_true, cond_false, cond_true, Bool.not_false, Bool.and_self]
      intro w47 e47
      exact hJ _ _ e47
end Go.Sh
