/- HierSides. -/
import Derived.Test.YtoomennincfkgaaHierRef2
set_option maxRecDepth 100000
namespace Go.Sh
open Go.RowKit

theorem upF_len {rank : List Int} {ways : List Wy} (ok : OkH rank ways) (v : Int) : (upF rank ways v).length < 2 ^ 40 := by
  have hk := ok.k
  unfold upF; split
  · have := upP_len rank ways v ways.length; omega
  · simp
theorem dnF_len {rank : List Int} {ways : List Wy} (ok : OkH rank ways) (v : Int) : (dnF rank ways v).length < 2 ^ 40 := by
  have hk := ok.k
  unfold dnF; split
  · have := dnP_len rank ways v ways.length; omega
  · simp

theorem HierSides_ok {w : World} {sr sy : SV} {rank : List Int} {ways : List Wy} {K : Bool → World → Prop} (hr : View RI w sr rank) (hy : View RW w sy ways) (hk : ∀ w', Ext w w' → K true w') : sh_postroadlaw10_HierSides sr sy K w := by
  unfold sh_postroadlaw10_HierSides
  intro b1 w2 e2 g1 g1'
  have z2 := e2.size
  have lr := hr.len; have ly := hy.len
  refine long_ok fun b w4 e4 hb => ⟨kp_ext e4 (by (intro b hb; simp only [List.mem_cons, List.not_mem_nil, or_false] at hb; omega)), ?_⟩
  have z4 := e4.size
  have e4' := e2.trans e4
  cases b with
  | true =>
    rw [cond_true]
    exact known10_ok fun w6 e6 => ⟨kp_ext e6 (by (intro b hb; simp only [List.mem_cons, List.not_mem_nil, or_false] at hb; omega)), hk w6 (e4'.trans e6)⟩
  | false =>
  obtain ⟨l1, l2⟩ := hb rfl
  rw [cond_false]
  refine rCheck_ok (hr.ext e4') (hy.ext e4') fun w8 e8 => ⟨kp_ext e8 (by (intro b hb; simp only [List.mem_cons, List.not_mem_nil, or_false] at hb; omega)), ?_⟩
  have z8 := e8.size
  have e8' := e4'.trans e8
  by_cases ok : ¬ OkH rank ways
  · rw [show (chkF rank ways != 0) = true by simpa using (chkF_no ok).1, cond_true]
    exact known10_ok fun w6 e6 => ⟨kp_ext e6 (by (intro b hb; simp only [List.mem_cons, List.not_mem_nil, or_false] at hb; omega)), hk w6 (e8'.trans e6)⟩
  rw [Classical.not_not] at ok
  rw [chkF_ok ok, bne_self_eq_false, cond_false]
  have kp : ∀ {wa wb}, w8.heap.size ≤ wa.heap.size → Ext wa wb → Keeps [b1] wa wb := fun hz e => kp_ext e (by (intro b hb; simp only [List.mem_cons, List.not_mem_nil, or_false] at hb; omega))
  refine HNew_ok (hr.ext e8') (hy.ext e8') (by omega) (by omega) (fun _ p w12 F e12 hH _ => ⟨kp (Nat.le_refl _) e12, ?_⟩) (fun hno => absurd ok hno)
  have z12 := e12.size
  have e12' := e8'.trans e12
  refine Join.cut (fun _ w' => Ext w12 w') (fun J hJ => ?_) ?_
  · refine LoopT.gh (γ := Nat) (fun v (st : Int × Unit) w' => st.1 = v ∧ v ≤ rank.length ∧ Ext w12 w') (fun v => rank.length - v) 0 ⟨rfl, Nat.zero_le _, .refl _⟩ ?_
    rintro v ⟨x, _⟩ w16 ⟨hx, hv, e16⟩ J1 hJ1
    simp only at hx; subst hx
    dsimp only
    have z16 := e16.size
    rw [Bool.cond_decide]
    by_cases hc : (v : Int) < (sr.len : Int)
    · rw [if_pos hc]
      have hv' : v < rank.length := by omega
      intro w18 e18
      have z18 := e18.size
      have e18' := e16.trans e18
      refine Up_ok (hH.ext e18') fun s17 w19 e19 hO17 _ => ⟨kp (by omega) e19, ?_⟩
      have z19 := e19.size
      intro w21 e21
      have z21 := e21.size
      have e21' := (e18'.trans e19).trans e21
      refine rUp_ok ok (hr.ext (e12'.trans e21')) (hy.ext (e12'.trans e21')) hv' fun s20 w22 e22 hO20 _ => ⟨kp (by omega) e22, ?_⟩
      have z22 := e22.size
      have e22' := e21'.trans e22
      refine sameH_quiet ((hO17.ext e21).ext e22).view hO20.view (upF_len ok _) ?_
      simp only [Bool.not_true, cond_false]
      intro w29 e29
      have z29 := e29.size
      have e29' := e22'.trans e29
      refine Down_ok (hH.ext e29') fun s28 w30 e30 hO28 _ => ⟨kp (by omega) e30, ?_⟩
      have z30 := e30.size
      intro w32 e32
      have z32 := e32.size
      have e32' := (e29'.trans e30).trans e32
      refine rDown_ok ok (hr.ext (e12'.trans e32')) (hy.ext (e12'.trans e32')) hv' fun s31 w33 e33 hO31 _ => ⟨kp (by omega) e33, ?_⟩
      have e33' := e32'.trans e33
      refine sameH_quiet ((hO28.ext e32).ext e33).view hO31.view (dnF_len ok _) ?_
      intro w38 e38
      simp only [Bool.not_true, cond_false]
      exact hJ1 (v + 1) _ _ ⟨wsucc (m := 2 ^ 40) (by omega) (by omega), by omega, e33'.trans e38⟩ (by omega)
    · rw [if_neg hc]; exact hJ _ _ e16
  rintro _ w40 e40
  have z40 := e40.size
  refine Up_ok (hH.ext e40) fun s41 w42 e42 hO41 _ => ⟨kp (by omega) e42, ?_⟩
  have z42 := e42.size
  rw [show upF rank ways (-1) = [] by unfold upF; rw [if_neg (by omega)]] at hO41
  rw [hO41.view.len, List.length_nil, show (((0 : Nat) : Int) == 0) = true from rfl, cond_true]
  have e42' := e40.trans e42
  refine Down_ok (hH.ext e42') fun s43 w44 e44 hO43 _ => ⟨kp (by omega) e44, ?_⟩
  have z44 := e44.size
  rw [show dnF rank ways (sr.len : Int) = [] by unfold dnF; rw [if_neg (by omega)]] at hO43
  rw [hO43.view.len, List.length_nil, show (((0 : Nat) : Int) == 0) = true from rfl, cond_true]
  exact known10_ok fun w46 e46 => ⟨kp (by omega) e46, hk w46 (((e12'.trans e42').trans e44).trans e46)⟩
end Go.Sh
