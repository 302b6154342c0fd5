/- The reference's edges; what is known. -/
import Derived.Test.YtoomennincfkgaaHierRef
set_option maxRecDepth 100000
namespace Go.Sh
open Go.RowKit

/-- s[:hi] of an owned slice. -/
theorem Own.head {α : Type} {R : Rc α} {w : World} {s : SV} {xs : List α} (h : Own R w s xs) {hi : Nat} (h2 : hi ≤ xs.length) {K : SV → Prop}
    (hk : ∀ t : SV, View R w t (xs.take hi) → (∀ k, t.blk k → s.blk k) → K t) : semSlice R.sz s.a s.len s.cap none (some (hi : Int)) K := by
  have := h.slice (lo := 0) (hi := hi) (Nat.zero_le _) h2 (K := K) fun t ht hb => hk t (by simpa using ht) hb
  unfold semSlice at this ⊢
  simpa using this

theorem rkA_inj {rank : List Int} (hr : OkR rank) {u v : Nat} (hu : u < rank.length) (hv : v < rank.length) (h : rkA rank (u : Int) = rkA rank (v : Int)) : u = v := by
  rw [← rk_get hu, ← rk_get hv] at h
  exact (List.getElem_inj (h₀ := hu) (h₁ := hv) hr.2).1 h

section
variable {w : World} {sr sy : SV} {rank : List Int} {ways : List Wy}

theorem rput_ok {l0 : SV} {xs : List Edg} {V W A : Int} {K : SV → World → Prop} (h : Own RD w l0 xs) (hn : xs.length < 2 ^ 40)
    (hk : ∀ s w', Ext w w' → Own RD w' s (insE (V, W, A) xs) → Fsh w s → K s w') : sh_postroadref10_put l0 V W A K w := by
  unfold sh_postroadref10_put
  intro b1 w2 e2 g1 g1'
  have z2 := e2.size
  have hl := h.view.len
  refine Join.cut (fun (x : Int × Unit) w' => Ext w2 w' ∧ ∃ k : Nat, x.1 = (k : Int) ∧ k ≤ xs.length ∧ insE (V, W, A) xs = xs.take k ++ (V, W, A) :: xs.drop k) (fun J hJ => ?_) ?_
  · refine LoopT.gh (γ := Nat) (fun k (st : Int × Unit) w' => st.1 = k ∧ k ≤ xs.length ∧ Ext w2 w' ∧ ∀ j (hj : j < xs.length), j < k → xs[j].1 < V) (fun k => xs.length - k) 0 ⟨rfl, Nat.zero_le _, .refl _, fun j _ hj => by omega⟩ ?_
    rintro k ⟨x, _⟩ w6 ⟨hx, hk', e6, hlt⟩ J1 hJ1
    simp only at hx; subst hx
    dsimp only
    rw [Bool.cond_decide]
    by_cases hc : (k : Int) < (l0.len : Int)
    · rw [if_pos hc]
      have hi : k < xs.length := by omega
      refine do_idx ((h.ext e2).ext e6).view hi fun _ a0 _ _ => ⟨_, a0, ?_⟩
      intro w9 e9
      rw [Bool.cond_decide]
      by_cases hv : xs[k].1 < V
      · rw [if_pos hv]
        refine hJ1 (k + 1) _ _ ⟨wsucc (m := 2 ^ 40) (by omega) (by omega), by omega, e6.trans e9, fun j hj hjk => ?_⟩ (by omega)
        by_cases e : j = k
        · subst e; exact hv
        · exact hlt j hj (by omega)
      · rw [if_neg hv]
        exact hJ _ _ ⟨e6.trans e9, k, rfl, hk', insE_at hk' (fun j hj hjk => hlt j hj hjk) fun _ => hv⟩
    · rw [if_neg hc]
      intro w10 e10
      exact hJ _ _ ⟨e6.trans e10, k, rfl, hk', insE_at hk' (fun j hj hjk => hlt j hj hjk) fun h => by omega⟩
  · rintro ⟨_, _⟩ w12 ⟨e12, k, rfl, hk', hins⟩
    have z12 := e12.size
    have h12 := (h.ext e2).ext e12
    refine h12.head hk' fun s13 v13 _ => ?_
    have l13 : (xs.take k).length ≤ xs.length := by rw [List.length_take]; omega
    refine Own.app (R := RD) Own.nil v13 (by simp only [List.length_nil]; omega) (by simp only [List.length_nil]; omega) fun s14 w15 c15 hs14 hO => ?_
    rw [List.nil_append] at hO
    have e15 : Ext w12 w15 := c15.ext fun k _ ⟨q, hq, _⟩ => by cases hq
    have f14 : Fsh w12 s14 := fun k hk => by
      rcases hs14 k hk with ⟨q, hq, _⟩ | h'
      · cases hq
      · exact h'
    have z15 := e15.size
    refine ⟨kp_ext e15 (by (intro b hb; simp only [List.mem_cons, List.not_mem_nil, or_false] at hb; omega)), ?_⟩
    intro b16 w17 e17 g16 hB
    have z17 := e17.size
    refine Own.app (R := RD) (hO.ext e17) (View.one (R := RD) (x := (V, W, A)) hB) (by simp only [List.length_cons, List.length_nil]; omega) (by simp only [List.length_cons, List.length_nil]; omega) fun s18 w19 c19 hs18 hO18 => ?_
    have z19 := c19.size
    have f18 : Fsh w12 s18 := fun k hk => by
      rcases hs18 k hk with h' | h'
      · exact f14 k h'
      · omega
    refine ⟨kp_chg c19 fun c hc => by simp only [List.mem_cons, List.not_mem_nil, or_false] at hc; subst hc; exact ⟨by omega, fun hk => by have := f14 _ hk; omega⟩, ?_⟩
    have b12 : ∀ k, l0.blk k → k < w12.heap.size := fun k hk => h12.lt hk
    have h19 : Own RD w19 l0 xs := ((h12.ext e15).ext e17).chg c19 fun k h1 h2 => by have := f14 k h2; have := b12 k h1; omega
    refine h19.tail hk' fun s20 v20 _ => ?_
    have l20 : (xs.drop k).length ≤ xs.length := by rw [List.length_drop]; omega
    refine Own.app (R := RD) hO18 v20 (by simp only [List.length_append, List.length_cons, List.length_nil]; omega) (by simp only [List.length_append, List.length_cons, List.length_nil]; omega) fun s21 w22 c22 hs21 hO21 => ?_
    have z22 := c22.size
    refine ⟨kp_chg c22 fun c hc => by simp only [List.mem_cons, List.not_mem_nil, or_false] at hc; subst hc; exact ⟨by omega, fun hk => by have := f18 _ hk; omega⟩, ?_⟩
    have e012 := e2.trans e12
    refine hk s21 w22 (ext_chg (ext_chg ((e012.trans e15).trans e17) c19 (f14.ext e012)) c22 (f18.ext e012)) ?_ fun k hk => ?_
    · rw [hins]; rw [List.append_assoc] at hO21; exact hO21
    · rcases hs21 k hk with h' | h'
      · have := f18 k h'; omega
      · omega

theorem rUp_ok {v : Nat} {K : SV → World → Prop} (ok : OkH rank ways) (hr : View RI w sr rank) (hy : View RW w sy ways) (hv : v < rank.length)
    (hk : ∀ s w', Ext w w' → Own RD w' s (upF rank ways (v : Int)) → Fsh w s → K s w') : sh_postroadref10_Up sr sy (v : Int) K w := by
  unfold sh_postroadref10_Up
  intro b1 w2 e2 g1 g1'
  have z2 := e2.size
  have ly := hy.len; have hkk := ok.k
  refine LoopT.gh (γ := Nat) (fun i (st : SV × Int × Unit) w' => st.2.1 = i ∧ i ≤ ways.length ∧ Ext w2 w' ∧ Own RD w' st.1 (upP rank ways (v : Int) i) ∧ Fsh w2 st.1) (fun i => ways.length - i) 0 ⟨rfl, Nat.zero_le _, .refl _, Own.nil, fsh_nil⟩ ?_
  rintro i ⟨t, x, _⟩ w5 ⟨hx, hi, e5, hO, hF⟩ J1 hJ1
  simp only at hx hO hF; subst hx
  dsimp only
  have z5 := e5.size
  rw [Bool.cond_decide]
  by_cases hc : (i : Int) < (sy.len : Int)
  · rw [if_pos hc]
    have hi' : i < ways.length := by omega
    refine Join.cut (fun (x : SV × Unit) w' => Ext w2 w' ∧ Own RD w' x.1 (upP rank ways (v : Int) (i + 1)) ∧ Fsh w2 x.1) (fun J hJ => ?_) (fun x w25 ⟨e25, hO25, hF25⟩ => hJ1 (i + 1) _ _ ⟨wsucc (m := 2 ^ 40) (by omega) (by omega), by omega, e25, hO25, hF25⟩ (by omega))
    refine way_idx (hy.ext (e2.trans e5)) hi' fun a _ a0 a1 a2 a3 a4 => ⟨_, a0, _, a1, _, a2, _, a3, _, a4, ?_⟩
    have oky := ok.f i hi'
    rw [wyA_get hi'] at oky ⊢
    simp only [upP] at hJ
    generalize wyA ways i = y at oky hJ ⊢
    obtain ⟨_, hne, f0, t0, f1, t1, _, _⟩ := oky
    intro b13 w14 e14 g13 g13' w15 o15
    have z14 := e14.size; have z15 := o15.size
    have e15 : Ext w2 w15 := ext_off (e5.trans e14) o15 (by omega)
    have hO15 := (hO.ext e14).off o15 fun hk => by have := hO.lt hk; omega
    by_cases hF1 : yF y = (v : Int)
    · rw [show (yF y == (v : Int)) = true by simpa using hF1, cond_true]
      obtain ⟨tt, htt⟩ := Int.eq_ofNat_of_zero_le t0
      have hr15 := hr.ext (e2.trans e15)
      rw [htt]
      refine int_idx hr15 (by omega) fun _ q => ⟨_, q, ?_⟩
      refine int_idx hr15 hv fun _ q => ⟨_, q, ?_⟩
      rw [rk_get (show tt < rank.length by omega), rk_get hv, ← htt]
      intro w20 e20
      have z20 := e20.size
      rw [Bool.cond_decide]
      by_cases hgt : rkA rank (yT y) > rkA rank (v : Int)
      · rw [if_pos hgt]
        rw [if_pos ⟨hF1, by unfold IsUp; rw [hF1]; exact hgt⟩] at hJ
        have hlen := upP_len rank ways (v : Int) i
        refine rput_ok (hO15.ext e20) (by omega) fun s21 w22 e22 hO22 f22 => ⟨kp_ext e22 (by (intro b hb; simp only [List.mem_cons, List.not_mem_nil, or_false] at hb; omega)), ?_⟩
        exact hJ _ _ ⟨(e15.trans e20).trans e22, hO22, f22.ext (e15.trans e20)⟩
      · rw [if_neg hgt]
        rw [if_neg (fun h => hgt (by have := h.2; unfold IsUp at this; rw [hF1] at this; exact this))] at hJ
        exact hJ _ _ ⟨e15.trans e20, hO15.ext e20, hF⟩
    · rw [show (yF y == (v : Int)) = false by simpa using hF1, cond_false]
      rw [if_neg (fun h => hF1 h.1)] at hJ
      intro w23 e23
      exact hJ _ _ ⟨e15.trans e23, hO15.ext e23, hF⟩
  · rw [if_neg hc]
    have : i = ways.length := by omega
    subst this
    refine hk t w5 (e2.trans e5) ?_ (hF.ext e2)
    unfold upF; rw [if_pos (by omega)]; exact hO

theorem rDown_ok {v : Nat} {K : SV → World → Prop} (ok : OkH rank ways) (hr : View RI w sr rank) (hy : View RW w sy ways) (hv : v < rank.length)
    (hk : ∀ s w', Ext w w' → Own RD w' s (dnF rank ways (v : Int)) → Fsh w s → K s w') : sh_postroadref10_Down sr sy (v : Int) K w := by
  unfold sh_postroadref10_Down
  intro b1 w2 e2 g1 g1'
  have z2 := e2.size
  have ly := hy.len; have hkk := ok.k
  refine LoopT.gh (γ := Nat) (fun i (st : SV × Int × Unit) w' => st.2.1 = i ∧ i ≤ ways.length ∧ Ext w2 w' ∧ Own RD w' st.1 (dnP rank ways (v : Int) i) ∧ Fsh w2 st.1) (fun i => ways.length - i) 0 ⟨rfl, Nat.zero_le _, .refl _, Own.nil, fsh_nil⟩ ?_
  rintro i ⟨t, x, _⟩ w5 ⟨hx, hi, e5, hO, hF⟩ J1 hJ1
  simp only at hx hO hF; subst hx
  dsimp only
  have z5 := e5.size
  rw [Bool.cond_decide]
  by_cases hc : (i : Int) < (sy.len : Int)
  · rw [if_pos hc]
    have hi' : i < ways.length := by omega
    refine Join.cut (fun (x : SV × Unit) w' => Ext w2 w' ∧ Own RD w' x.1 (dnP rank ways (v : Int) (i + 1)) ∧ Fsh w2 x.1) (fun J hJ => ?_) (fun x w25 ⟨e25, hO25, hF25⟩ => hJ1 (i + 1) _ _ ⟨wsucc (m := 2 ^ 40) (by omega) (by omega), by omega, e25, hO25, hF25⟩ (by omega))
    refine way_idx (hy.ext (e2.trans e5)) hi' fun a _ a0 a1 a2 a3 a4 => ⟨_, a0, _, a1, _, a2, _, a3, _, a4, ?_⟩
    have oky := ok.f i hi'
    rw [wyA_get hi'] at oky ⊢
    simp only [dnP] at hJ
    generalize wyA ways i = y at oky hJ ⊢
    obtain ⟨_, hne, f0, t0, f1, t1, _, _⟩ := oky
    intro b13 w14 e14 g13 g13' w15 o15
    have z14 := e14.size; have z15 := o15.size
    have e15 : Ext w2 w15 := ext_off (e5.trans e14) o15 (by omega)
    have hO15 := (hO.ext e14).off o15 fun hk => by have := hO.lt hk; omega
    by_cases hF1 : yT y = (v : Int)
    · rw [show (yT y == (v : Int)) = true by simpa using hF1, cond_true]
      obtain ⟨tt, htt⟩ := Int.eq_ofNat_of_zero_le f0
      have hr15 := hr.ext (e2.trans e15)
      rw [htt]
      refine int_idx hr15 (by omega) fun _ q => ⟨_, q, ?_⟩
      refine int_idx hr15 hv fun _ q => ⟨_, q, ?_⟩
      have hinj : rkA rank (tt : Int) ≠ rkA rank (v : Int) := fun e => by
        have := rkA_inj ok.r (show tt < rank.length by omega) hv e
        omega
      rw [rk_get (show tt < rank.length by omega), rk_get hv, ← htt]
      rw [← htt] at hinj
      intro w20 e20
      have z20 := e20.size
      rw [Bool.cond_decide]
      by_cases hgt : rkA rank (yF y) > rkA rank (v : Int)
      · rw [if_pos hgt]
        rw [if_pos ⟨hF1, by unfold IsUp; rw [hF1]; omega⟩] at hJ
        have hlen := dnP_len rank ways (v : Int) i
        refine rput_ok (hO15.ext e20) (by omega) fun s21 w22 e22 hO22 f22 => ⟨kp_ext e22 (by (intro b hb; simp only [List.mem_cons, List.not_mem_nil, or_false] at hb; omega)), ?_⟩
        exact hJ _ _ ⟨(e15.trans e20).trans e22, hO22, f22.ext (e15.trans e20)⟩
      · rw [if_neg hgt]
        rw [if_neg (fun h => h.2 (by unfold IsUp; rw [hF1]; omega))] at hJ
        exact hJ _ _ ⟨e15.trans e20, hO15.ext e20, hF⟩
    · rw [show (yT y == (v : Int)) = false by simpa using hF1, cond_false]
      rw [if_neg (fun h => hF1 h.1)] at hJ
      intro w23 e23
      exact hJ _ _ ⟨e15.trans e23, hO15.ext e23, hF⟩
  · rw [if_neg hc]
    have : i = ways.length := by omega
    subst this
    refine hk t w5 (e2.trans e5) ?_ (hF.ext e2)
    unfold dnF; rw [if_pos (by omega)]; exact hO

theorem sameH_ok {a b : SV} {xs : List Edg} {K : Bool → World → Prop} (ha : View RD w a xs) (hb : View RD w b xs) (hn : xs.length < 2 ^ 40) (hk : ∀ w', Ext w w' → K true w') : sh_postroadref06_SameEdges a b K w := by
  unfold sh_postroadref06_SameEdges
  have la := ha.len; have lb := hb.len
  rw [show ((a.len : Int) != (b.len : Int)) = false by rw [bne_eq_false_iff_eq]; omega, cond_false]
  refine LoopT.gh (γ := Nat) (fun i (st : Int × Unit) w' => st.1 = i ∧ i ≤ xs.length ∧ Ext w w') (fun i => xs.length - i) 0 ⟨rfl, Nat.zero_le _, .refl _⟩ ?_
  rintro i ⟨x, _⟩ w3 ⟨hx, hi, e3⟩ J1 hJ1
  simp only at hx; subst hx
  rw [Bool.cond_decide]
  by_cases hc : (i : Int) < (a.len : Int)
  · rw [if_pos hc]
    have hi' : i < xs.length := by omega
    refine do_idx (ha.ext e3) hi' fun _ a0 a1 a2 => ⟨_, a0, _, a1, _, a2, ?_⟩
    refine do_idx (hb.ext e3) hi' fun _ a0 a1 a2 => ⟨_, a0, _, a1, _, a2, ?_⟩
    intro w12 e12
    simp only [beq_self_eq_true, Bool.and_self, Bool.not_true, cond_false]
    exact hJ1 (i + 1) _ _ ⟨wsucc (m := 2 ^ 40) (by omega) (by omega), by omega, e3.trans e12⟩ (by omega)
  · rw [if_neg hc]; exact hk w3 e3
theorem sameH_quiet {a b : SV} {xs : List Edg} {K : Bool → Prop} (ha : View RD w a xs) (hb : View RD w b xs) (hn : xs.length < 2 ^ 40) (hk : K true) :
    Quiet Bool (fun r => .bool r) (fun K25 w26' => sh_postroadref06_SameEdges a b (fun t23 w26 => K25 t23 w26) w26') w K :=
  Quiet.mk true (fun _ e _ hK' => sameH_ok (ha.ext e) (hb.ext e) hn hK') hk

theorem long_ok {K : Bool → World → Prop} (hk : ∀ b w', Ext w w' → (b = false → (sr.len : Int) ≤ 40 ∧ (sy.len : Int) ≤ 150) → K b w') : sh_postroadlaw10_long sr sy K w := by
  unfold sh_postroadlaw10_long
  intro b1 w2 e2 _ _
  rw [Bool.cond_decide]
  split
  · exact hk _ _ e2 fun h => by cases h
  · rename_i h1
    refine hk _ _ e2 fun h => ⟨by omega, ?_⟩
    simpa using h

theorem HNew_any {K : Option Addr → World → Prop} (hr : View RI w sr rank) (hy : View RW w sy ways) (hn : rank.length < 2 ^ 40) (hm : ways.length < 2 ^ 40)
    (hk : ∀ p w', Ext w w' → (p = none ∧ ¬ OkH rank ways ∨ ∃ F, HierA w' p rank ways F ∧ (∀ k, F k → w.heap.size ≤ k)) → K p w') : sh_hier_New sr sy K w :=
  HNew_ok hr hy hn hm (fun _ p w' F e h f => hk p w' e (.inr ⟨F, h, f⟩)) (fun hno w' e => hk none w' e (.inl ⟨rfl, hno⟩))

theorem known10_ok {K : Bool → World → Prop} (hk : ∀ w', Ext w w' → K true w') : sh_postroadlaw10_known K w := by
  unfold sh_postroadlaw10_known
  intro b1 w2 e2 g1 hB1 b3 w4 e4 g3 hB3
  have hr : View RI w4 ⟨some ⟨b1, 0, none⟩, 2, 2⟩ [1, 0] := View.all (R := RI) (xs := [1, 0]) (e4.blkE hB1)
  have hy : View RW w4 ⟨some ⟨b3, 0, none⟩, 1, 1⟩ [(0, 1, 5, -1, 0)] := View.all (R := RW) (xs := [(0, 1, 5, -1, 0)]) hB3
  have ok : OkH [1, 0] [(0, 1, 5, -1, 0)] := by
    refine ⟨by decide, by decide, ⟨by decide, by decide⟩, fun i hi => ?_, fun y hy => ?_⟩
    · have : i = 0 := by simp at hi; omega
      subst this
      show OkF 2 [] (0, 1, 5, -1, 0)
      unfold OkF; decide
    · simp at hy; subst hy; unfold OkW; rw [if_pos (by decide)]; decide
  refine HNew_ok hr hy (by decide) (by decide) (fun _ p w6 F e6 hH _ => ?_) (fun hno => absurd ok hno)
  refine Down_ok hH fun s7 w8 e8 hO7 _ => ?_
  rw [show dnF [1, 0] [(0, 1, 5, -1, 0)] 1 = [(0, 5, 0)] by decide] at hO7
  intro b9 w10 e10 g9 hB9
  refine sameH_ok (hO7.ext e10).view (View.all (R := RD) (xs := [(0, 5, 0)]) hB9) (by decide) fun w12 e12 => ?_
  rw [cond_true]
  refine Up_ok (((hH.ext e8).ext e10).ext e12) fun s13 w14 e14 hO13 _ => ?_
  rw [show upF [1, 0] [(0, 1, 5, -1, 0)] 0 = [] by decide] at hO13
  rw [hO13.view.len]
  simp only [List.length_nil]
  rw [show (((0 : Nat) : Int) == 0) = true from rfl, cond_true]
  refine HN_nil ?_
  rw [show ((0 : Int) == 0) = true from rfl, cond_true]
  refine Rank_nil ?_
  exact hk w14 ((((((e2.trans e4).trans e6).trans e8).trans e10).trans e12).trans e14)
end
end Go.Sh
