/- HierFinds. -/
import Derived.Test.YtoomennincfkgaaHierTwo
set_option maxRecDepth 100000
namespace Go.Sh
open Go.RowKit

theorem HierFinds_ok {w : World} {sr sy : SV} {rank : List Int} {ways : List Wy} {u v : Int} {K : Bool → World → Prop} (hr : View RI w sr rank) (hy : View RW w sy ways) (hk : ∀ w', Ext w w' → K true w') : sh_postroadlaw10_HierFinds sr sy u v K w := by
  unfold sh_postroadlaw10_HierFinds
  intro b1 w2 e2 g1 g1'
  have z2 := e2.size
  have lr := hr.len; have ly := hy.len
  refine long_ok fun b w4 e4 hb => ⟨kp1 e4 (by omega), ?_⟩
  have z4 := e4.size
  have e04 := e2.trans e4
  have kn : ∀ {wa}, w2.heap.size ≤ wa.heap.size → Ext w wa → sh_postroadlaw10_known (fun t w8 => Keeps [b1] wa w8 ∧ K t w8) wa := fun {wa} hz ea =>
    known10_ok fun w6 e6 => ⟨kp1 e6 (by omega), hk w6 (ea.trans e6)⟩
  cases b with
  | true => rw [cond_true]; exact kn (by omega) e04
  | false =>
  obtain ⟨l1, l2⟩ := hb rfl
  rw [cond_false]
  refine HCheck_ok (hr.ext e04) (hy.ext e04) fun w8 e8 => ⟨kp1 e8 (by omega), ?_⟩
  have z8 := e8.size
  have e08 := e04.trans e8
  by_cases ok : ¬ OkH rank ways
  · rw [show (chkF rank ways != 0) = true by simpa using (chkF_no ok).1, cond_true]
    exact kn (by omega) e08
  rw [Classical.not_not] at ok
  rw [chkF_ok ok, bne_self_eq_false, cond_false]
  refine HNew_ok (hr.ext e08) (hy.ext e08) (by omega) (by omega) (fun _ p w12 F e12 hH hF => ⟨kp1 e12 (by omega), ?_⟩) (fun hno => absurd ok hno)
  have z12 := e12.size
  have e012 := e08.trans e12
  refine Join.cut (fun (x : Int × Unit) w34 => Ext w12 w34 ∧ x.1 = ofN (findW ways u v)) (fun J hJ => ?_) ?_
  · refine LoopT.gh (γ := Nat) (fun i (st : Int × Int × Unit) w' => st.1 = ofN (findW (ways.take i) u v) ∧ st.2.1 = i ∧ i ≤ ways.length ∧ Ext w12 w') (fun i => ways.length - i) 0 ⟨rfl, rfl, Nat.zero_le _, .refl _⟩ ?_
    rintro i ⟨x, y, _⟩ w16 ⟨hx, hy', hi, e16⟩ J1 hJ1
    simp only at hx hy'; subst hx hy'
    dsimp only
    rw [Bool.cond_decide]
    by_cases hc : (i : Int) < (sy.len : Int)
    · rw [if_pos hc]
      have hi' : i < ways.length := by omega
      have hst := findW_snoc (ways.take i) ways[i] u v
      rw [← take_snoc' hi'] at hst
      have hpre : findW (ways.take i) (yF ways[i]) (yT ways[i]) = none := (ok.f i hi').1
      refine Join.cut (fun (x : Int × Unit) w32 => Ext w12 w32 ∧ x.1 = ofN (findW (ways.take (i + 1)) u v)) (fun J2 hJ2 => ?_) (fun x w32 ⟨e32, hx⟩ => hJ1 (i + 1) _ _ ⟨hx, wsucc (m := 2 ^ 40) (by omega) (by omega), by omega, e32⟩ (by omega))
      have hy16 := hy.ext (e012.trans e16)
      refine way_idx hy16 hi' fun _ _ a0 _ _ _ _ => ⟨_, a0, ?_⟩
      refine way_idx hy16 hi' fun _ _ _ a1 _ _ _ => ⟨_, a1, ?_⟩
      refine HFind_quiet (hH.ext e16) ?_
      intro w26 e26
      rw [ok.f.find hi', show (ofN (some i) != (i : Int)) = false by simp [ofN], cond_false]
      have hy26 := hy16.ext e26
      refine way_idx hy26 hi' fun _ _ a0 _ _ _ _ => ⟨_, a0, ?_⟩
      by_cases h1 : yF ways[i] = u
      · rw [show (yF ways[i] == u) = true by simpa using h1, cond_true]
        refine way_idx hy26 hi' fun _ _ _ a1 _ _ _ => ⟨_, a1, ?_⟩
        by_cases h2 : yT ways[i] = v
        · rw [show (yT ways[i] == v) = true by simpa using h2, cond_true]
          rw [h1, h2] at hpre
          rw [hpre, if_pos ⟨h1, h2⟩, List.length_take, Nat.min_eq_left hi] at hst
          exact hJ2 _ _ ⟨e16.trans e26, by rw [hst]; rfl⟩
        · rw [show (yT ways[i] == v) = false by simpa using h2, cond_false]
          rw [if_neg (fun h => h2 h.2)] at hst
          exact hJ2 _ _ ⟨e16.trans e26, by rw [hst]; cases findW (ways.take i) u v <;> rfl⟩
      · rw [show (yF ways[i] == u) = false by simpa using h1, cond_false]
        rw [if_neg (fun h => h1 h.1)] at hst
        exact hJ2 _ _ ⟨e16.trans e26, by rw [hst]; cases findW (ways.take i) u v <;> rfl⟩
    · rw [if_neg hc]
      have : i = ways.length := by omega
      subst this
      exact hJ _ _ ⟨e16, by rw [List.take_length]⟩
  rintro ⟨x, _⟩ w34 ⟨e34, hx⟩
  simp only at hx; subst hx
  dsimp only
  refine Join.cut (fun _ w54 => Ext w12 w54) (fun J hJ => ?_) ?_
  · refine LoopT.gh (γ := Nat) (fun i (st : Int × Unit) w' => st.1 = i ∧ i ≤ rank.length ∧ Ext w12 w') (fun i => rank.length - i) 0 ⟨rfl, Nat.zero_le _, e34⟩ ?_
    rintro i ⟨x, _⟩ w38 ⟨hx, hi, e38⟩ J1 hJ1
    simp only at hx; subst hx
    dsimp only
    rw [Bool.cond_decide]
    by_cases hc : (i : Int) < (sr.len : Int)
    · rw [if_pos hc]
      have hi' : i < rank.length := by omega
      have hr38 := hr.ext (e012.trans e38)
      refine Rank_quiet (hH.ext e38) ?_
      refine int_idx hr38 hi' fun _ q => ⟨_, q, ?_⟩
      rw [show rankF rank (i : Int) = rank[i] by unfold rankF; rw [if_pos (by omega), rk_get hi'], bne_self_eq_false, cond_false]
      refine int_idx hr38 hi' fun _ q => ⟨_, q, ?_⟩
      refine HAt_quiet (x := (i : Int)) (hH.ext e38) (.inl ⟨i, hi', rfl, rfl⟩) ?_
      intro w52 e52
      rw [bne_self_eq_false, cond_false]
      exact hJ1 (i + 1) _ _ ⟨wsucc (m := 2 ^ 40) (by omega) (by omega), by omega, e38.trans e52⟩ (by omega)
    · rw [if_neg hc]; exact hJ _ _ e38
  rintro _ w54 e54
  have z54 := e54.size
  refine HFind_quiet (hH.ext e54) ?_
  rw [beq_self_eq_true, cond_true]
  refine HN_quiet (hH.ext e54) ?_
  rw [lr, beq_self_eq_true, cond_true]
  intro w64 e64
  have z64 := e64.size
  exact known10_ok fun w65 e65 => ⟨kp1 e65 (by omega), fun w66 e66 => hk w66 (((e012.trans e54).trans e64).trans (e65.trans e66))⟩
end Go.Sh
