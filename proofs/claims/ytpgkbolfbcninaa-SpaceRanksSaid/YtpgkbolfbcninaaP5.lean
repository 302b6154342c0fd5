/- SpKnown: merged into one text. -/
import Derived.Test.YtpgkbolfbcninaaP4
/- What is known of one hierarchy; SpaceClimbs, SpaceRanks. -/
set_option maxRecDepth 100000
namespace Go.Sh
open Go.RowKit

/-- Distances, shown by hand. -/
theorem isD_by {E : Nat → Nat → Int → Prop} {s : Nat} {f : Nat → Int} (hs : f s = 0) (hw : ∀ v, 0 ≤ f v → Wk E s v (f v)) (hf : ∀ v, f v = -1 ∨ 0 ≤ f v) (hr : ∀ u v x, E u v x → 0 ≤ f u → 0 ≤ f v ∧ f v ≤ f u + x) (v : Nat) : IsD E s v (f v) := by
  have key : ∀ v d, Wk E s v d → 0 ≤ f v ∧ f v ≤ d := by
    intro v d hw
    induction hw with
    | nil => rw [hs]; omega
    | snoc _ e ih =>
      have := hr _ _ _ e ih.1
      exact ⟨this.1, by omega⟩
  rcases hf v with h | h
  · exact .inl ⟨h, fun d hd => by have := (key v d hd).1; omega⟩
  · exact .inr ⟨h, hw v h, fun d hd => (key v d hd).2⟩

theorem findR_mem {l : List (Int × Int)} (hp : l.Pairwise fun a b => a.1 < b.1) {e : Int × Int} (he : e ∈ l) : findR l e.1 = e.2 := by
  obtain ⟨j, hj, rfl⟩ := List.getElem_of_mem he
  refine findR_take hj (fun i hi hij h => ?_) rfl
  have := List.pairwise_iff_getElem.1 hp i j hi hj hij
  omega
theorem findR_not {l : List (Int × Int)} {v : Int} (h : ∀ e ∈ l, e.1 ≠ v) : findR l v = -1 := findR_none fun j hj => h _ (List.getElem_mem hj)
theorem findR_rows {n : Nat} {f : Nat → Int} {q : Nat → Bool} {v : Nat} (hv : v < n) (h0 : 0 ≤ f v) (hq : q v = true) : findR (rowsL n f q) (v : Int) = f v :=
  findR_mem (e := ((v : Int), f v)) (rowsL_pw n f q) (rowsL_mem.2 ⟨v, hv, h0, hq, rfl⟩)

def lineR : List Int := [0, 1, 2]
def lineW : List Wy := [(0, 1, 2, -1, 0), (1, 2, 3, -1, 1)]
theorem line_ok : OkH lineR lineW := by
  refine ⟨by decide, by decide, ⟨by decide, by decide⟩, fun i hi => ?_, fun y hy => ?_⟩
  · have : i = 0 ∨ i = 1 := by simp [lineW] at hi; omega
    rcases this with rfl | rfl
    · show OkF 3 [] (0, 1, 2, -1, 0)
      unfold OkF; decide
    · show OkF 3 [(0, 1, 2, -1, 0)] (1, 2, 3, -1, 1)
      unfold OkF; decide
  · simp [lineW] at hy
    rcases hy with rfl | rfl <;> unfold OkW <;> rw [if_pos (by decide)] <;> decide
theorem line_fit : FitH lineR lineW := ⟨line_ok, by decide, fun y hy => by
  simp [lineW] at hy
  rcases hy with rfl | rfl <;> decide⟩
theorem line_e {top : Int} {u v : Nat} {x : Int} (h : ES lineR lineW top false u v x) : (u = 0 ∧ v = 1 ∧ x = 2 ∧ 0 < top) ∨ (u = 1 ∧ v = 2 ∧ x = 3 ∧ 1 < top) := by
  obtain ⟨k, hk, k1, k2, k3, k4, _⟩ := ES_way line_ok h
  have : k = 0 ∨ k = 1 := by simp [lineW] at hk; omega
  rcases this with rfl | rfl
  · left
    have k1 : (0 : Int) = (u : Int) := k1
    have k2 : (1 : Int) = (v : Int) := k2
    have k3 : (2 : Int) = x := k3
    have : u = 0 := by omega
    subst this
    have k4 : (0 : Int) < top := k4
    exact ⟨rfl, by omega, k3.symm, k4⟩
  · right
    have k1 : (1 : Int) = (u : Int) := k1
    have k2 : (2 : Int) = (v : Int) := k2
    have k3 : (3 : Int) = x := k3
    have : u = 1 := by omega
    subst this
    have k4 : (1 : Int) < top := k4
    exact ⟨rfl, by omega, k3.symm, k4⟩
theorem line_01 {top : Int} (h : 0 < top) : ES lineR lineW top false 0 1 2 := ES_of line_ok (k := 0) (by decide) (u := 0) (v := 1) rfl rfl h (by decide)
theorem line_12 {top : Int} (h : 1 < top) : ES lineR lineW top false 1 2 3 := ES_of line_ok (k := 1) (by decide) (u := 1) (v := 2) rfl rfl h (by decide)
def lin3 (v : Nat) : Int := if v = 0 then 0 else if v = 1 then 2 else if v = 2 then 5 else -1
def lin1 (v : Nat) : Int := if v = 0 then 0 else if v = 1 then 2 else -1
theorem cl_lin3 (v : Nat) : clF lineR lineW 3 false 0 v = lin3 v := by
  refine (clF_is line_fit (s := 0) (by decide) v).uniq (isD_by (f := lin3) rfl (fun v h => ?_) (fun v => ?_) (fun u v x e h => ?_) v)
  · unfold lin3 at h ⊢
    split at h
    · subst_vars; exact .nil
    · split at h
      · subst_vars; exact .edge (line_01 (by decide))
      · split at h
        · subst_vars; exact ((Wk.edge (line_01 (by decide))).snoc (line_12 (by decide)))
        · omega
  · unfold lin3
    split
    · exact .inr (by decide)
    · split
      · exact .inr (by decide)
      · split
        · exact .inr (by decide)
        · exact .inl rfl
  · rcases line_e e with ⟨rfl, rfl, rfl, _⟩ | ⟨rfl, rfl, rfl, _⟩ <;> exact ⟨by decide, by decide⟩
theorem cl_lin1 (v : Nat) : clF lineR lineW 1 false 0 v = lin1 v := by
  refine (clF_is line_fit (s := 0) (by decide) v).uniq (isD_by (f := lin1) rfl (fun v h => ?_) (fun v => ?_) (fun u v x e h => ?_) v)
  · unfold lin1 at h ⊢
    split at h
    · subst_vars; exact .nil
    · split at h
      · subst_vars; exact .edge (line_01 (by decide))
      · omega
  · unfold lin1
    split
    · exact .inr (by decide)
    · split
      · exact .inr (by decide)
      · exact .inl rfl
  · rcases line_e e with ⟨rfl, rfl, rfl, _⟩ | ⟨rfl, rfl, rfl, h⟩
    · exact ⟨by decide, by decide⟩
    · omega
theorem rowsL_f {n : Nat} {f g : Nat → Int} {q : Nat → Bool} (h : ∀ v, f v = g v) : rowsL n f q = rowsL n g q := by rw [funext h]

section
variable {CV : CVT} {w : World}
theorem known11_ok (hcv : SpaceCV CV) {K : Bool → World → Prop} (hk : ∀ w', Ext w w' → K true w') : sh_postroadlaw11_known CV K w := by
  unfold sh_postroadlaw11_known sh_postroadlaw11_line
  intro b1 w2 e2 g1 g1' b3 w4 e4 g3 hB3 b5 w6 e6 g5 hB5 w7 o7
  have z2 := e2.size; have z4 := e4.size
  have n3 : b3 ≠ b1 := by omega
  have l5 := blk_lt hB5
  have n5 : b5 ≠ b1 := by omega
  have hr : View RI w7 ⟨some ⟨b3, 0, none⟩, 3, 3⟩ lineR := View.all (R := RI) (xs := lineR) ((e6.blkE hB3).off o7 n3)
  have hy : View RW w7 ⟨some ⟨b5, 0, none⟩, 2, 2⟩ lineW := View.all (R := RW) (xs := lineW) (hB5.off o7 n5)
  have e7 : Ext w w7 := ext_off ((e2.trans e4).trans e6) o7 g1
  refine HNew_ok hr hy (by decide) (by decide) (fun _ p w5 F e5 hH _ => ?_) (fun hno => absurd line_ok hno)
  refine Within_ok hcv (s := 0) hH line_fit fun s6 s7 w8 e8 h6 h7 f6 f7 _ => ?_
  refine Forward_ok hcv (s := 0) (hH.ext e8) line_fit fun s9 w10 e10 h9 f9 => ?_
  have e10' := (e7.trans e5).trans (e8.trans e10)
  rw [rowsL_f cl_lin1, show rowsL lineR.length lin1 (fun u => decide (rkA lineR (u : Int) < 1)) = [(0, 0)] by decide] at h6
  rw [rowsL_f cl_lin1, show rowsL lineR.length lin1 (fun u => decide (rkA lineR (u : Int) ≥ 1)) = [(1, 2)] by decide] at h7
  rw [show ((lineR.length : Nat) : Int) = 3 from rfl, rowsL_f cl_lin3, show rowsL lineR.length lin3 (fun _ => true) = [(0, 0), (1, 2), (2, 5)] by decide] at h9
  intro b11 w12 e12 g11 hB11
  refine rSame_ok (h9.ext e12).view (View.all (R := RE) (xs := [(0, 0), (1, 2), (2, 5)]) hB11) (by decide) fun w14 e14 => ?_
  rw [cond_true]
  intro b15 w16 e16 g15 hB15
  refine rSame_ok (h6.ext ((e10.trans e12).trans (e14.trans e16))).view (View.all (R := RE) (xs := [(0, 0)]) hB15) (by decide) fun w18 e18 => ?_
  rw [cond_true]
  intro b19 w20 e20 g19 hB19
  refine rSame_ok (h7.ext (((e10.trans e12).trans (e14.trans e16)).trans (e18.trans e20))).view (View.all (R := RE) (xs := [(1, 2)]) hB19) (by decide) fun w22 e22 => ?_
  exact hk w22 (((e10'.trans e12).trans (e14.trans e16)).trans ((e18.trans e20).trans e22))

theorem SpaceClimbs_ok (hcv : SpaceCV CV) {sr sy : SV} {rank : List Int} {ways : List Wy} {top : Int} {back : Bool} {K : Bool → World → Prop} (hr : View RI w sr rank) (hy : View RW w sy ways) (hk : ∀ w', Ext w w' → K true w') : sh_postroadlaw11_SpaceClimbs CV sr sy top back K w := by
  unfold sh_postroadlaw11_SpaceClimbs
  intro b1 w2 e2 g1 g1'
  have z2 := e2.size
  have lr := hr.len; have ly := hy.len
  have kn : ∀ {wa}, w2.heap.size ≤ wa.heap.size → Ext w wa → sh_postroadlaw11_known CV (fun t w8 => Keeps [b1] wa w8 ∧ K t w8) wa := fun {wa} hz ea =>
    known11_ok hcv fun w6 e6 => ⟨kp1 e6 (by omega), hk w6 (ea.trans e6)⟩
  refine Fit_ok (hr.ext e2) (hy.ext e2) fun b w4 e4 hb => ⟨kp1 e4 (by omega), ?_⟩
  have z4 := e4.size
  have e04 := e2.trans e4
  cases b with
  | false => rw [Bool.not_false, cond_true]; exact kn (by omega) e04
  | true =>
  rw [Bool.not_true, cond_false]
  obtain ⟨fit, hn, hm⟩ := hb rfl
  refine HNew_ok (hr.ext e04) (hy.ext e04) (by omega) (by omega) (fun _ p w8 F e8 hH _ => ⟨kp1 e8 (by omega), ?_⟩) fun hno => absurd fit.ok hno
  have z8 := e8.size
  have e08 := e04.trans e8
  refine Join.cut (fun _ w' => Ext w w' ∧ w2.heap.size ≤ w'.heap.size) (fun J hJ => ?_) fun _ w49 ⟨e49, z49⟩ => kn z49 e49
  refine LoopT.gh (γ := Nat) (fun i (st : Int × Unit) w' => st.1 = (i : Int) - 1 ∧ i ≤ rank.length + 2 ∧ Ext w8 w') (fun i => rank.length + 2 - i) 0 ⟨rfl, Nat.zero_le _, .refl _⟩ ?_
  rintro i ⟨x, _⟩ w12 ⟨hx, hi, e12⟩ J1 hJ1
  simp only at hx; subst hx
  dsimp only
  rw [Bool.cond_decide]
  by_cases hc : (i : Int) - 1 ≤ (sr.len : Int)
  · rw [if_pos hc]
    generalize hs : (i : Int) - 1 = s
    have z12 := e12.size
    have hbig : ∀ {f q}, (rowsL rank.length f q).length < 2 ^ 40 := fun {f q} => by have := rowsL_len rank.length f q; omega
    refine Within_ok hcv (hH.ext e12) fit fun s13 s14 w15 e15 h13 h14 _ _ _ => ⟨kp1 e15 (by omega), ?_⟩
    have z15 := e15.size
    have e15' := e12.trans e15
    refine rClimb_ok (hr.ext (e08.trans e15')) (hy.ext (e08.trans e15')) fit fun s16 w17 e17 h16 f16 => ⟨kp1 e17 (by omega), fun w19 e19 => ?_⟩
    have z17 := e17.size; have z19 := e19.size
    have e19' := (e15'.trans e17).trans e19
    refine Forward_ok hcv (hH.ext e19') fit fun s18 w20 e20 h18 _ => ⟨kp1 e20 (by omega), fun w22 e22 => ?_⟩
    have z20 := e20.size; have z22 := e22.size
    have e22' := (e19'.trans e20).trans e22
    refine rAbove_ok (hr.ext (e08.trans e22')) (hy.ext (e08.trans e22')) fit fun s21 w23 e23 h21 _ => ⟨kp1 e23 (by omega), ?_⟩
    have z23 := e23.size
    refine rSame_quiet (h18.ext (e22.trans e23)).view h21.view hbig ?_
    rw [Bool.not_true, cond_false]
    intro w30 e30
    have z30 := e30.size
    have e30' := (e22'.trans e23).trans e30
    refine Back_ok hcv (hH.ext e30') fit fun s29 w31 e31 h29 _ => ⟨kp1 e31 (by omega), fun w33 e33 => ?_⟩
    have z31 := e31.size; have z33 := e33.size
    have e33' := (e30'.trans e31).trans e33
    refine rAbove_ok (hr.ext (e08.trans e33')) (hy.ext (e08.trans e33')) fit fun s32 w34 e34 h32 _ => ⟨kp1 e34 (by omega), ?_⟩
    have z34 := e34.size
    refine rSame_quiet (h29.ext (e33.trans e34)).view h32.view hbig ?_
    intro w39 e39
    have z39 := e39.size
    rw [Bool.not_true, cond_false]
    have e39' := (e33'.trans e34).trans e39
    have e1739 := (((e19.trans e20).trans e22).trans ((e23.trans e30).trans (e31.trans e33))).trans (e34.trans e39)
    refine rRows_ok (hr.ext (e08.trans e39')) (h16.ext e1739).view (by omega) fun s40 w41 e41 h40 _ => ⟨kp1 e41 (by omega), ?_⟩
    have z41 := e41.size
    rw [rowsL_congr (q' := fun u => decide (rkA rank (u : Int) < top)) fun v hv => by
      have := okR_rk fit.ok hv
      rw [decide_eq_decide]; split <;> omega] at h40
    refine rSame_ok (h13.ext ((e17.trans e1739).trans e41)).view h40.view hbig fun w43 e43 => ⟨kp1 e43 (by omega), ?_⟩
    have z43 := e43.size
    rw [Bool.not_true, cond_false]
    have e43' := (e41.trans e43)
    refine rRows_ok (hr.ext ((e08.trans e39').trans e43')) (h16.ext (e1739.trans e43')).view (by omega) fun s44 w45 e45 h44 _ => ⟨kp1 e45 (by omega), ?_⟩
    have z45 := e45.size
    rw [rowsL_congr (q' := fun u => decide (rkA rank (u : Int) ≥ top)) fun v hv => by
      have := okR_rk fit.ok hv
      rw [decide_eq_decide]; split <;> omega] at h44
    refine rSame_ok (h14.ext ((e17.trans e1739).trans (e43'.trans e45))).view h44.view hbig fun w47 e47 => ⟨kp1 e47 (by omega), ?_⟩
    rw [Bool.not_true, cond_false]
    refine hJ1 (i + 1) _ _ ⟨by rw [← hs, w64 (by omega) (by omega)]; omega, by omega, (e39'.trans e43').trans (e45.trans e47)⟩ (by omega)
  · rw [if_neg hc]
    exact hJ _ _ ⟨e08.trans e12, by have := e12.size; omega⟩

theorem ES_mono {rank : List Int} {ways : List Wy} (ok : OkH rank ways) {top top' : Int} {back : Bool} (h : top ≤ top') {u v : Nat} {x : Int} (he : ES rank ways top back u v x) : ES rank ways top' back u v x := by
  obtain ⟨k, hk, k1, k2, k3, k4, k5⟩ := ES_way ok he
  rw [← k3]
  exact ES_of ok hk k1 k2 (by omega) k5

theorem SpaceRanks_ok (hcv : SpaceCV CV) {sr sy : SV} {rank : List Int} {ways : List Wy} {v0 top0 : Int} {back : Bool} {K : Bool → World → Prop} (hr : View RI w sr rank) (hy : View RW w sy ways) (ht : 0 ≤ top0 ∧ top0 < 256) (hk : ∀ w', Ext w w' → K true w') : sh_postroadlaw11_SpaceRanks CV sr sy v0 top0 back K w := by
  unfold sh_postroadlaw11_SpaceRanks
  intro b1 w2 e2 g1 g1'
  have z2 := e2.size
  have lr := hr.len; have ly := hy.len
  have kn : ∀ {wa}, w2.heap.size ≤ wa.heap.size → Ext w wa → sh_postroadlaw11_known CV (fun t w8 => Keeps [b1] wa w8 ∧ K t w8) wa := fun {wa} hz ea =>
    known11_ok hcv fun w6 e6 => ⟨kp1 e6 (by omega), hk w6 (ea.trans e6)⟩
  have htm : 0 ≤ (IntKind.i64.wrap top0).tmod 16 ∧ (IntKind.i64.wrap top0).tmod 16 < 16 := by
    rw [w64 (by omega) (by omega), Int.tmod_eq_emod_of_nonneg ht.1]; omega
  generalize (IntKind.i64.wrap top0).tmod 16 = t at htm ⊢
  rw [show IntKind.i64.wrap (t + 1) = t + 1 from w64 (by omega) (by omega)]
  refine Fit_ok (hr.ext e2) (hy.ext e2) fun b w4 e4 hb => ⟨kp1 e4 (by omega), ?_⟩
  have z4 := e4.size
  have e04 := e2.trans e4
  cases b with
  | false => rw [Bool.not_false, cond_true]; exact kn (by omega) e04
  | true =>
  rw [Bool.not_true, cond_false]
  obtain ⟨fit, hn, hm⟩ := hb rfl
  refine HNew_ok (hr.ext e04) (hy.ext e04) (by omega) (by omega) (fun _ p w8 F e8 hH _ => ⟨kp1 e8 (by omega), ?_⟩) fun hno => absurd fit.ok hno
  have z8 := e8.size
  have e08 := e04.trans e8
  have hbig : ∀ {f q}, (rowsL rank.length f q).length < 2 ^ 40 := fun {f q} => by have := rowsL_len rank.length f q; omega
  refine Within_ok hcv hH fit fun s9 s10 w11 e11 h9 h10 _ _ _ => ⟨kp1 e11 (by omega), ?_⟩
  have z11 := e11.size
  refine Within_ok hcv (hH.ext e11) fit fun s12 s13 w14 e14 h12 _ _ _ _ => ⟨kp1 e14 (by omega), ?_⟩
  have z14 := e14.size
  have e014 := (e08.trans e11).trans e14
  have v9 := (h9.ext e14).view
  have v12 := h12.view
  have l9 := v9.len
  have fx : ∀ v : Nat, v < rank.length → 0 ≤ clF rank ways t back v0 v → rkA rank (v : Int) < t → 0 ≤ findR (rowsL rank.length (clF rank ways (t + 1) back v0) fun u => decide (rkA rank (u : Int) < t + 1)) (v : Int) ∧
      findR (rowsL rank.length (clF rank ways (t + 1) back v0) fun u => decide (rkA rank (u : Int) < t + 1)) (v : Int) ≤ clF rank ways t back v0 v := fun v hv h0 hlt => by
    have hp : 0 ≤ v0 ∧ v0 < rank.length := by
      by_cases q : 0 ≤ v0 ∧ v0 < rank.length
      · exact q
      · rw [clF_no q] at h0; omega
    obtain ⟨s, rfl⟩ := Int.eq_ofNat_of_zero_le hp.1
    have w1 := (clF_is (top := t) (back := back) fit (show s < rank.length by omega) v).wk h0
    have w2 := (clF_is (top := t + 1) (back := back) fit (show s < rank.length by omega) v).min (w1.mono fun _ _ _ e => ES_mono fit.ok (by omega) e)
    rw [findR_rows hv w2.1 (decide_eq_true (by omega))]
    exact w2
  refine Join.cut (fun _ w' => Ext w14 w') (fun J hJ => ?_) ?_
  · refine LoopT.gh (γ := Nat) (fun i (st : Int × Unit) w' => st.1 = i ∧ i ≤ (rowsL rank.length (clF rank ways t back v0) fun u => decide (rkA rank (u : Int) < t)).length ∧ Ext w14 w') (fun i => (rowsL rank.length (clF rank ways t back v0) fun u => decide (rkA rank (u : Int) < t)).length - i) 0 ⟨rfl, Nat.zero_le _, .refl _⟩ ?_
    rintro i ⟨x, _⟩ w18 ⟨hx, hi, e18⟩ J1 hJ1
    simp only at hx; subst hx
    dsimp only
    have z18 := e18.size
    have hbg := @hbig (clF rank ways t back v0) (fun u => decide (rkA rank (u : Int) < t))
    rw [Bool.cond_decide]
    by_cases hc : (i : Int) < (s9.len : Int)
    · rw [if_pos hc]
      have hi' : i < (rowsL rank.length (clF rank ways t back v0) fun u => decide (rkA rank (u : Int) < t)).length := by omega
      obtain ⟨v, hv, hv0, hvq, hve⟩ := rowsL_mem.1 (List.getElem_mem hi')
      obtain ⟨q1, q2⟩ := fx v hv hv0 (of_decide_eq_true hvq)
      refine re_idx (v9.ext e18) hi' fun _ a0 _ => ⟨_, a0, ?_⟩
      rw [hve]
      refine Find_ok (v12.ext e18) hbig fun w22 e22 => ⟨kp1 e22 (by omega), ?_⟩
      rw [Bool.cond_decide, if_neg (by dsimp only; omega)]
      refine re_idx (v9.ext (e18.trans e22)) hi' fun _ _ a1 => ⟨_, a1, ?_⟩
      rw [hve, Bool.cond_decide, if_neg (by dsimp only; omega)]
      exact hJ1 (i + 1) _ _ ⟨wsucc (m := 2 ^ 40) (by omega) (by omega), by omega, e18.trans e22⟩ (by omega)
    · rw [if_neg hc]; exact hJ _ _ e18
  · rintro _ w26 e26
    have z26 := e26.size
    refine Rank_ok (hH.ext ((e11.trans e14).trans e26)) ⟨kp1 (.refl _) (by omega), ?_⟩
    rw [Bool.cond_decide]
    by_cases hge : rankF rank v0 ≥ t
    · rw [if_pos hge]
      have hp : 0 ≤ v0 ∧ v0 < rank.length := by
        have := rankF_neg fit.ok (v := v0)
        omega
      obtain ⟨s, rfl⟩ := Int.eq_ofNat_of_zero_le hp.1
      have hs : s < rank.length := by omega
      have hrk : rankF rank (s : Int) = rkA rank (s : Int) := by unfold rankF; rw [if_pos hp]
      rw [hrk] at hge
      have hcl : ∀ v, clF rank ways t back s v = if v = s then 0 else -1 := fun v => by
        refine (clF_is fit hs v).uniq (isD_by (f := fun v => if v = s then 0 else -1) (by simp) (fun v h => ?_) (fun v => ?_) (fun u v x e h => ?_) v)
        · by_cases q : v = s
          · subst q; simp only [if_pos]; exact .nil
          · simp only [if_neg q] at h; omega
        · by_cases q : v = s
          · exact .inr (by rw [if_pos q]; decide)
          · exact .inl (if_neg q)
        · obtain ⟨k, hk, k1, k2, k3, k4, k5⟩ := ES_way fit.ok e
          by_cases q : u = s
          · subst q; omega
          · simp only [if_neg q] at h; omega
      have h9nil : (rowsL rank.length (clF rank ways t back s) fun u => decide (rkA rank (u : Int) < t)) = [] := by
        rw [List.eq_nil_iff_forall_not_mem]
        intro e he
        obtain ⟨v, hv, hv0, hvq, _⟩ := rowsL_mem.1 he
        rw [hcl] at hv0
        by_cases q : v = s
        · subst q; have := of_decide_eq_true hvq; omega
        · rw [if_neg q] at hv0; omega
      have hL10 : (rowsL rank.length (clF rank ways t back s) fun u => decide (rkA rank (u : Int) ≥ t)) = [((s : Int), 0)] := by
        have hpw := rowsL_pw rank.length (clF rank ways t back s) fun u => decide (rkA rank (u : Int) ≥ t)
        have hmem : ∀ e, e ∈ (rowsL rank.length (clF rank ways t back s) fun u => decide (rkA rank (u : Int) ≥ t)) ↔ e = ((s : Int), 0) := fun e => by
          rw [rowsL_mem]
          constructor
          · rintro ⟨v, hv, hv0, hvq, rfl⟩
            rw [hcl] at hv0 ⊢
            by_cases q : v = s
            · subst q; rw [if_pos rfl]
            · rw [if_neg q] at hv0; omega
          · rintro rfl
            have h0 : clF rank ways t back (s : Int) s = 0 := by rw [hcl s]; simp
            exact ⟨s, hs, by omega, decide_eq_true hge, by rw [h0]⟩
        cases hl : (rowsL rank.length (clF rank ways t back s) fun u => decide (rkA rank (u : Int) ≥ t)) with
        | nil => rw [hl] at hmem; have := (hmem ((s : Int), 0)).2 rfl; simp at this
        | cons a l =>
          rw [hl] at hmem hpw
          have ha := (hmem a).1 List.mem_cons_self
          subst ha
          cases l with
          | nil => rfl
          | cons b l =>
            have hb := (hmem b).1 (by simp)
            have := (List.pairwise_cons.1 hpw).1 b List.mem_cons_self
            rw [hb] at this; simp only at this; omega
      rw [h9nil] at l9
      rw [l9, show (((([] : List (Int × Int)).length : Nat) : Int) == 0) = true from rfl, cond_true]
      intro b29 w30 e30 g29 hB29
      have z30 := e30.size
      have hO10 := h10
      rw [hL10] at hO10
      refine rSame_ok (hO10.ext ((e14.trans e26).trans e30)).view (View.all (R := RE) (xs := [((s : Int), 0)]) hB29) (by simp) fun w32 e32 => ⟨kp1 e32 (by omega), ?_⟩
      have z32 := e32.size
      rw [cond_true]
      exact kn (by omega) (((e014.trans e26).trans e30).trans e32)
    · rw [if_neg hge]; exact kn (by omega) (e014.trans e26)
end
end Go.Sh
