/- HierRises. -/
import Derived.Test.YtoomennincfkgaaHierTells
set_option maxRecDepth 100000
namespace Go.Sh
open Go.RowKit

/-- A way's low end. -/
def lowE (rank : List Int) (y : Wy) : Int := if IsUp rank y then yF y else yT y
/-- Which ways were seen: those whose low end is below v, and those of A. -/
def seenF (rank : List Int) (ways : List Wy) (v : Int) (A : List Int) : Nat → Int := fun k => if lowE rank (wyA ways k) < v ∨ (k : Int) ∈ A then 1 else 0
def arcsE (l : List Edg) : List Int := l.map fun e => e.2.2

theorem upF_rise {rank : List Int} {ways : List Wy} (ok : OkH rank ways) (v : Int) : Rise (upF rank ways v) := by
  unfold upF; split
  · exact upP_rise ok.f v (Nat.le_refl _)
  · exact List.Pairwise.nil
theorem dnF_rise {rank : List Int} {ways : List Wy} (ok : OkH rank ways) (v : Int) : Rise (dnF rank ways v) := by
  unfold dnF; split
  · exact dnP_rise ok.f v (Nat.le_refl _)
  · exact List.Pairwise.nil
theorem rise_lt {l : List Edg} (h : Rise l) {i j : Nat} (hij : i < j) (hj : j < l.length) : (l[i]'(by omega)).1 < l[j].1 := List.pairwise_iff_getElem.1 h i j (by omega) hj hij
theorem arcs_new {l : List Edg} (h : Rise l) (hs : ∀ a ∈ l, ∀ b ∈ l, a.2.2 = b.2.2 → a.1 = b.1) {i : Nat} (hi : i < l.length) : l[i].2.2 ∉ arcsE (l.take i) := fun hm => by
  obtain ⟨e, he, hq⟩ := List.mem_map.1 hm
  obtain ⟨j, hj, rfl⟩ := List.getElem_of_mem he
  rw [List.length_take] at hj
  rw [List.getElem_take] at hq
  have h1 := rise_lt h (show j < i by omega) hi
  have h2 := hs l[j] (List.getElem_mem _) l[i] (List.getElem_mem _) hq
  omega
theorem arcs_snoc {l : List Edg} {i : Nat} (hi : i < l.length) : arcsE (l.take (i + 1)) = arcsE (l.take i) ++ [l[i].2.2] := by
  unfold arcsE; rw [take_snoc' hi, List.map_append]; rfl

section
variable {rank : List Int} {ways : List Wy}
theorem up_arc {v : Int} {i : Nat} (hi : i < (upF rank ways v).length) : ∃ k : Nat, ∃ hk : k < ways.length, yF ways[k] = v ∧ IsUp rank ways[k] ∧ (upF rank ways v)[i].1 = yT ways[k] ∧ (upF rank ways v)[i].2.2 = (k : Int) := by
  obtain ⟨k, hk, h1, h2, h3⟩ := upF_mem (List.getElem_mem hi)
  exact ⟨k, hk, h1, h2, by rw [h3], by rw [h3]⟩
theorem dn_arc {v : Int} {i : Nat} (hi : i < (dnF rank ways v).length) : ∃ k : Nat, ∃ hk : k < ways.length, yT ways[k] = v ∧ ¬ IsUp rank ways[k] ∧ (dnF rank ways v)[i].1 = yF ways[k] ∧ (dnF rank ways v)[i].2.2 = (k : Int) := by
  obtain ⟨k, hk, h1, h2, h3⟩ := dnF_mem (List.getElem_mem hi)
  exact ⟨k, hk, h1, h2, by rw [h3], by rw [h3]⟩
theorem seen_step {v : Int} {A : List Int} {k : Nat} (_hl : ¬ lowE rank (wyA ways k) < v) (_hA : (k : Int) ∉ A) : (fun j => if j = k then (1 : Int) else seenF rank ways v A j) = seenF rank ways v (A ++ [(k : Int)]) := by
  funext j
  unfold seenF
  by_cases e : j = k
  · subst e; rw [if_pos rfl, if_pos (.inr (by simp))]
  · rw [if_neg e]
    have : ((j : Int) ∈ A ++ [(k : Int)]) ↔ (j : Int) ∈ A := by simp; omega
    simp only [this]
theorem seen_next (ok : OkH rank ways) {v : Int} {k : Nat} (hk : k < ways.length) : seenF rank ways v (arcsE (upF rank ways v) ++ arcsE (dnF rank ways v)) k = seenF rank ways (v + 1) [] k := by
  unfold seenF
  have key : (lowE rank (wyA ways k) < v ∨ (k : Int) ∈ arcsE (upF rank ways v) ++ arcsE (dnF rank ways v)) ↔ (lowE rank (wyA ways k) < v + 1 ∨ (k : Int) ∈ ([] : List Int)) := by
    rw [← wyA_get hk]
    constructor
    · rintro (h | h)
      · left; omega
      · left
        rcases List.mem_append.1 h with h | h
        · obtain ⟨e, he, hq⟩ := List.mem_map.1 h
          obtain ⟨j, hj, h1, h2, rfl⟩ := upF_mem he
          have : j = k := by simp only at hq; omega
          subst this
          unfold lowE; rw [if_pos h2]; omega
        · obtain ⟨e, he, hq⟩ := List.mem_map.1 h
          obtain ⟨j, hj, h1, h2, rfl⟩ := dnF_mem he
          have : j = k := by simp only at hq; omega
          subst this
          unfold lowE; rw [if_neg h2]; omega
    · rintro (h | h)
      · by_cases hlt : lowE rank ways[k] < v
        · exact .inl hlt
        · right
          unfold lowE at h hlt
          by_cases hu : IsUp rank ways[k]
          · rw [if_pos hu] at h hlt
            have e : yF ways[k] = v := by omega
            have := upF_of ok hk hu
            rw [e] at this
            exact List.mem_append_left _ (List.mem_map.2 ⟨_, this, rfl⟩)
          · rw [if_neg hu] at h hlt
            have e : yT ways[k] = v := by omega
            have := dnF_of ok hk hu
            rw [e] at this
            exact List.mem_append_right _ (List.mem_map.2 ⟨_, this, rfl⟩)
      · simp at h
  by_cases h : lowE rank (wyA ways k) < v ∨ (k : Int) ∈ arcsE (upF rank ways v) ++ arcsE (dnF rank ways v)
  · rw [if_pos h, if_pos (key.1 h)]
  · rw [if_neg h, if_neg (fun h2 => h (key.2 h2))]
theorem seen_all (ok : OkH rank ways) {k : Nat} (hk : k < ways.length) : seenF rank ways (rank.length : Int) [] k = 1 := by
  unfold seenF
  have := ok.f k hk; unfold OkF at this
  rw [← wyA_get hk, if_pos]
  left; unfold lowE; split <;> omega
theorem seen_none {k : Nat} (ok : OkH rank ways) (hk : k < ways.length) : seenF rank ways 0 [] k = 0 := by
  unfold seenF
  have := ok.f k hk; unfold OkF at this
  rw [← wyA_get hk, if_neg]
  rintro (h | h)
  · unfold lowE at h; split at h <;> omega
  · simp at h
theorem rankF_get {u : Int} (h0 : 0 ≤ u) (h1 : u < rank.length) : rankF rank u = rkA rank u := by unfold rankF; rw [if_pos ⟨h0, h1⟩]
theorem notUp_lt (ok : OkH rank ways) {k : Nat} (hk : k < ways.length) (h : ¬ IsUp rank ways[k]) : rkA rank (yT ways[k]) < rkA rank (yF ways[k]) := by
  have := ok.f k hk; unfold OkF at this
  obtain ⟨_, hne, f0, t0, f1, t1, _⟩ := this
  obtain ⟨f, hf⟩ := Int.eq_ofNat_of_zero_le f0
  obtain ⟨t, ht⟩ := Int.eq_ofNat_of_zero_le t0
  unfold IsUp at h
  rw [hf, ht] at h ⊢
  have : rkA rank (f : Int) ≠ rkA rank (t : Int) := fun e => hne (by rw [hf, ht, rkA_inj ok.r (by omega) (by omega) e])
  omega
end

theorem HierRises_ok {w : World} {sr sy : SV} {rank : List Int} {ways : List Wy} {K : Bool → World → Prop} (hr : View RI w sr rank) (hy : View RW w sy ways) (hk : ∀ w', Ext w w' → K true w') : sh_postroadlaw10_HierRises sr sy K w := by
  unfold sh_postroadlaw10_HierRises
  intro b1 w2 e2 g1 g1'
  have z2 := e2.size
  have lr := hr.len; have ly := hy.len
  refine long_ok fun b w4 e4 hb => ⟨kp1 e4 (by omega), ?_⟩
  have z4 := e4.size
  have e04 := e2.trans e4
  have kn : ∀ {wa}, w2.heap.size ≤ wa.heap.size → Ext w wa → sh_postroadlaw10_known (fun t w8 => Keeps [b1] wa w8 ∧ K t w8) wa := fun {wa} hz ea =>
    known10_ok fun w6 e6 => ⟨kp1 e6 (by omega), hk w6 (ea.trans e6)⟩
  cases b with
  | true => rw [cond_true]; exact kn (by omega) e04
  | false =>
  obtain ⟨l1, l2⟩ := hb rfl
  rw [cond_false]
  refine HCheck_ok (hr.ext e04) (hy.ext e04) fun w8 e8 => ⟨kp1 e8 (by omega), ?_⟩
  have z8 := e8.size
  have e08 := e04.trans e8
  by_cases ok : ¬ OkH rank ways
  · rw [show (chkF rank ways != 0) = true by simpa using (chkF_no ok).1, cond_true]
    exact kn (by omega) e08
  rw [Classical.not_not] at ok
  rw [chkF_ok ok, bne_self_eq_false, cond_false]
  refine HNew_ok (hr.ext e08) (hy.ext e08) (by omega) (by omega) (fun _ p w12 F e12 hH hF => ⟨kp1 e12 (by omega), ?_⟩) (fun hno => absurd ok hno)
  have z12 := e12.size
  have e012 := e08.trans e12
  refine own_mk (R := RI) (bytes := 8) (by omega) (by omega) (by omega) fun s13 w14 e14 f13 hO13 => ?_
  rw [Int.toNat_natCast, ly, show RI.z = (0 : Int) from rfl, fi_rep] at hO13
  have z14 := e14.size
  have m13 : ∀ {k}, s13.blk k → k < w14.heap.size := fun hk => hO13.lt hk
  have kpc : ∀ {wa wb}, w12.heap.size ≤ wa.heap.size → Chg s13.blk wa wb → Keeps [b1] wa wb := fun hz c => kc1 c (by omega) fun hk => by have := f13 _ hk; omega
  refine Join.cut (fun _ w' => Ext w12 w' ∧ Own RI w' s13 (fi ways.length (seenF rank ways (rank.length : Int) []))) (fun J hJ => ?_) ?_
  · refine LoopT.gh (γ := Nat) (fun v (st : Int × Unit) w' => st.1 = v ∧ v ≤ rank.length ∧ Ext w12 w' ∧ w14.heap.size ≤ w'.heap.size ∧ Own RI w' s13 (fi ways.length (seenF rank ways (v : Int) []))) (fun v => rank.length - v) 0
      ⟨rfl, Nat.zero_le _, e14, Nat.le_refl _, (congrArg (Own RI w14 s13) (fi_congr fun j hj => (seen_none ok hj).symm)).mp hO13⟩ ?_
    rintro v ⟨x, _⟩ w18 ⟨hx, hv, e18, z18, hO18⟩ J1 hJ1
    simp only at hx; subst hx
    dsimp only
    have hH18 := hH.ext e18
    have z18' := e18.size
    refine HN_ok hH18 ⟨kp0_1 _ _, ?_⟩
    rw [Bool.cond_decide]
    by_cases hc : (v : Int) < (rank.length : Int)
    · rw [if_pos hc]
      have hv' : v < rank.length := by omega
      refine Join.cut (fun _ w' => Ext w12 w' ∧ w14.heap.size ≤ w'.heap.size ∧ Own RI w' s13 (fi ways.length (seenF rank ways ((v + 1 : Nat) : Int) []))) (fun J2 hJ2 => ?_) (fun _ w' ⟨q1, q2, q3⟩ => hJ1 (v + 1) _ _ ⟨wsucc (m := 2 ^ 40) (by omega) (by omega), by omega, q1, q2, q3⟩ (by omega))
      refine Rank_ok hH18 ⟨kp0_1 _ _, ?_⟩
      rw [rankF_get (by omega) hc, ← rk_get hv']
      refine HAt_ok hH18 fun x hx => ⟨kp0_1 _ _, ?_⟩
      rw [hx.uniq ok.r (.inl ⟨v, hv', rfl, rfl⟩), bne_self_eq_false, cond_false]
      refine Up_ok hH18 fun s26 w27 e27 hO26 f26 => ⟨kp1 e27 (by omega), ?_⟩
      have z27 := e27.size
      have nup := upF_lt ok (v : Int)
      refine Join.cut (fun _ w' => Ext w12 w' ∧ w27.heap.size ≤ w'.heap.size ∧ Own RI w' s13 (fi ways.length (seenF rank ways (v : Int) (arcsE (upF rank ways (v : Int)))))) (fun J3 hJ3 => ?_) ?_
      · refine LoopT.gh (γ := Nat) (fun i (st : Int × Unit) w' => st.1 = i ∧ i ≤ (upF rank ways (v : Int)).length ∧ Ext w12 w' ∧ w27.heap.size ≤ w'.heap.size ∧ Own RI w' s13 (fi ways.length (seenF rank ways (v : Int) (arcsE ((upF rank ways (v : Int)).take i)))) ∧ Own RD w' s26 (upF rank ways (v : Int))) (fun i => (upF rank ways (v : Int)).length - i) 0
          ⟨rfl, Nat.zero_le _, e18.trans e27, Nat.le_refl _, hO18.ext e27, hO26⟩ ?_
        rintro i ⟨x, _⟩ w31 ⟨hx, hi, e31, z31, hO31, hU⟩ J4 hJ4
        simp only at hx; subst hx
        dsimp only
        have lu := hU.view.len
        rw [Bool.cond_decide]
        by_cases hc2 : (i : Int) < (s26.len : Int)
        · rw [if_pos hc2]
          have hi' : i < (upF rank ways (v : Int)).length := by omega
          obtain ⟨k, hk', y1, y2, y3, y4⟩ := up_arc hi'
          have okk := ok.f k hk'; unfold OkF at okk
          have hH31 := hH.ext e31
          refine Join.cut (fun _ w' => Ext w31 w') (fun J5 hJ5 => ?_) ?_
          · refine do_idx hU.view hi' fun _ a0 _ _ => ⟨_, a0, ?_⟩
            refine Rank_quiet hH31 ?_
            refine Rank_quiet hH31 ?_
            rw [y3, rankF_get (by omega) (by omega), rankF_get (by omega) hc, ← y1]
            rw [decide_eq_false (by unfold IsUp at y2; omega), cond_false, y1]
            refine do_idx hU.view hi' fun _ a0 _ _ => ⟨_, a0, ?_⟩
            refine HFind_quiet hH31 ?_
            refine do_idx hU.view hi' fun _ _ _ a2 => ⟨_, a2, ?_⟩
            rw [y3, y4, ← y1, ok.f.find hk', show (ofN (some k) != (k : Int)) = false by simp [ofN], cond_false, Bool.cond_decide]
            split
            · rename_i h0
              refine do_idx hU.view hi' fun _ a0 _ _ => ⟨_, a0, ?_⟩
              rw [w64 (by omega) (by omega), show (i : Int) - 1 = ((i - 1 : Nat) : Int) by omega]
              refine do_idx hU.view (show i - 1 < (upF rank ways (v : Int)).length by omega) fun _ a0 _ _ => ⟨_, a0, ?_⟩
              intro w57 e57
              have := rise_lt (upF_rise ok (v : Int)) (show i - 1 < i by omega) hi'
              rw [decide_eq_false (by omega), cond_false]
              exact hJ5 _ _ e57
            · intro w58 e58; exact hJ5 _ _ e58
          rintro _ w60 e60
          have z60 := e60.size
          have hU60 := hU.ext e60
          refine do_idx hU60.view hi' fun _ _ _ a2 => ⟨_, a2, ?_⟩
          refine do_idx hU60.view hi' fun _ _ _ a2 => ⟨_, a2, ?_⟩
          rw [y4]
          have hO60 := hO31.ext e60
          refine fi_rd hO60.view hk' fun _ q => ⟨_, q, ?_⟩
          refine fi_wr hO60 hk' fun a put => ?_
          intro w68 e68
          have z68 := e68.size
          have hnew : (k : Int) ∉ arcsE ((upF rank ways (v : Int)).take i) := by
            rw [← y4]
            refine arcs_new (upF_rise ok _) (fun a ha b hb hab => ?_) hi'
            obtain ⟨ka, hka, _, _, rfl⟩ := upF_mem ha
            obtain ⟨kb, hkb, _, _, rfl⟩ := upF_mem hb
            have : ka = kb := by simp only at hab; omega
            subst this; rfl
          have hlow : ¬ lowE rank (wyA ways k) < (v : Int) := by
            rw [← wyA_get hk']; unfold lowE; rw [if_pos y2]; omega
          have hval : seenF rank ways (v : Int) (arcsE ((upF rank ways (v : Int)).take i)) k = 0 := by
            unfold seenF; rw [if_neg (fun h => h.elim hlow hnew)]
          rw [hval, show IntKind.i64.wrap ((0 : Int) + 1) = 1 from rfl]
          refine put w68 1 _ (hO60.ext e68) fun w69 c69 hO69 => ?_
          have z69 := c69.size
          refine ⟨kpc (by omega) c69, ?_⟩
          intro w70 e70
          have z70 := e70.size
          have hU70 : Own RD w70 s26 (upF rank ways (v : Int)) := ((hU60.ext e68).chg c69 fun k' h1 h2 => by have := f26 k' h1; have := m13 h2; omega).ext e70
          rw [seen_step hlow hnew, ← y4, ← arcs_snoc hi'] at hO69
          exact hJ4 (i + 1) _ _ ⟨wsucc (m := 2 ^ 40) (by omega) (by omega), by omega, (ext_chg ((e31.trans e60).trans e68) c69 fun k' hk' => f13 k' hk').trans e70, by omega, hO69.ext e70, hU70⟩ (by omega)
        · rw [if_neg hc2]
          have : i = (upF rank ways (v : Int)).length := by omega
          subst this
          rw [List.take_length] at hO31
          exact hJ3 _ _ ⟨e31, z31, hO31⟩
      rintro _ w72 ⟨e72, z72, hO72⟩
      have z72' := e72.size
      refine Down_ok (hH.ext e72) fun s73 w74 e74 hO73 f73 => ⟨kp1 e74 (by omega), ?_⟩
      have z74 := e74.size
      have ndn := dnF_lt ok (v : Int)
      refine LoopT.gh (γ := Nat) (fun i (st : Int × Unit) w' => st.1 = i ∧ i ≤ (dnF rank ways (v : Int)).length ∧ Ext w12 w' ∧ w74.heap.size ≤ w'.heap.size ∧ Own RI w' s13 (fi ways.length (seenF rank ways (v : Int) (arcsE (upF rank ways (v : Int)) ++ arcsE ((dnF rank ways (v : Int)).take i)))) ∧ Own RD w' s73 (dnF rank ways (v : Int))) (fun i => (dnF rank ways (v : Int)).length - i) 0
          ⟨rfl, Nat.zero_le _, e72.trans e74, Nat.le_refl _, by rw [show arcsE ((dnF rank ways (v : Int)).take 0) = [] from rfl, List.append_nil]; exact hO72.ext e74, hO73⟩ ?_
      rintro i ⟨x, _⟩ w77 ⟨hx, hi, e77, z77, hO77, hD⟩ J4 hJ4
      simp only at hx; subst hx
      dsimp only
      have ld := hD.view.len
      rw [Bool.cond_decide]
      by_cases hc2 : (i : Int) < (s73.len : Int)
      · rw [if_pos hc2]
        have hi' : i < (dnF rank ways (v : Int)).length := by omega
        obtain ⟨k, hk', y1, y2, y3, y4⟩ := dn_arc hi'
        have okk := ok.f k hk'; unfold OkF at okk
        have hH77 := hH.ext e77
        have hlt := notUp_lt ok hk' y2
        refine do_idx hD.view hi' fun _ a0 _ _ => ⟨_, a0, ?_⟩
        refine Rank_quiet hH77 ?_
        refine Rank_quiet hH77 ?_
        rw [y3, rankF_get (by omega) (by omega), rankF_get (by omega) hc, ← y1]
        rw [decide_eq_false (by omega), cond_false, y1]
        refine do_idx hD.view hi' fun _ a0 _ _ => ⟨_, a0, ?_⟩
        refine HFind_quiet hH77 ?_
        refine do_idx hD.view hi' fun _ _ _ a2 => ⟨_, a2, ?_⟩
        intro w97 e97
        have z97 := e97.size
        rw [y3, y4, ← y1, ok.f.find hk', show (ofN (some k) != (k : Int)) = false by simp [ofN], cond_false]
        have hD97 := hD.ext e97
        refine do_idx hD97.view hi' fun _ _ _ a2 => ⟨_, a2, ?_⟩
        refine do_idx hD97.view hi' fun _ _ _ a2 => ⟨_, a2, ?_⟩
        rw [y4]
        have hO97 := hO77.ext e97
        refine fi_rd hO97.view hk' fun _ q => ⟨_, q, ?_⟩
        refine fi_wr hO97 hk' fun a put => ?_
        intro w105 e105
        have z105 := e105.size
        have hnew : (k : Int) ∉ arcsE (upF rank ways (v : Int)) ++ arcsE ((dnF rank ways (v : Int)).take i) := fun hm => by
          rcases List.mem_append.1 hm with hm | hm
          · obtain ⟨e, he, hq⟩ := List.mem_map.1 hm
            obtain ⟨j, hj, _, h2, rfl⟩ := upF_mem he
            have : j = k := by simp only at hq; omega
            subst this; exact y2 h2
          · rw [← y4] at hm
            refine arcs_new (dnF_rise ok _) (fun a ha b hb hab => ?_) hi' hm
            obtain ⟨ka, hka, _, _, rfl⟩ := dnF_mem ha
            obtain ⟨kb, hkb, _, _, rfl⟩ := dnF_mem hb
            have : ka = kb := by simp only at hab; omega
            subst this; rfl
        have hlow : ¬ lowE rank (wyA ways k) < (v : Int) := by
          rw [← wyA_get hk']; unfold lowE; rw [if_neg y2]; omega
        have hval : seenF rank ways (v : Int) (arcsE (upF rank ways (v : Int)) ++ arcsE ((dnF rank ways (v : Int)).take i)) k = 0 := by
          unfold seenF; rw [if_neg (fun h => h.elim hlow hnew)]
        rw [hval, show IntKind.i64.wrap ((0 : Int) + 1) = 1 from rfl]
        refine put w105 1 _ (hO97.ext e105) fun w106 c106 hO106 => ?_
        have z106 := c106.size
        refine ⟨kpc (by omega) c106, ?_⟩
        intro w107 e107
        have z107 := e107.size
        have hD107 : Own RD w107 s73 (dnF rank ways (v : Int)) := ((hD97.ext e105).chg c106 fun k' h1 h2 => by have := f73 k' h1; have := m13 h2; omega).ext e107
        rw [seen_step hlow hnew, ← y4, List.append_assoc, ← arcs_snoc hi'] at hO106
        exact hJ4 (i + 1) _ _ ⟨wsucc (m := 2 ^ 40) (by omega) (by omega), by omega, (ext_chg ((e77.trans e97).trans e105) c106 fun k' hk' => f13 k' hk').trans e107, by omega, hO106.ext e107, hD107⟩ (by omega)
      · rw [if_neg hc2]
        have : i = (dnF rank ways (v : Int)).length := by omega
        subst this
        rw [List.take_length] at hO77
        refine hJ2 _ _ ⟨e77, by omega, (congrArg (Own RI w77 s13) (fi_congr fun j hj => ?_)).mp hO77⟩
        rw [seen_next ok hj]; simp
    · rw [if_neg hc]
      have : v = rank.length := by omega
      subst this
      exact hJ _ _ ⟨e18, hO18⟩
  rintro _ w111 ⟨e111, hO111⟩
  have z111 := e111.size
  refine Join.cut (fun _ w' => Ext w111 w') (fun J hJ => ?_) (fun _ w179 e179 => kn (by have := e179.size; omega) ((e012.trans e111).trans e179))
  refine LoopT.gh (γ := Nat) (fun k (st : Int × Unit) w' => st.1 = k ∧ k ≤ ways.length ∧ Ext w111 w') (fun k => ways.length - k) 0 ⟨rfl, Nat.zero_le _, .refl _⟩ ?_
  rintro k ⟨x, _⟩ w115 ⟨hx, hkl, e115⟩ J1 hJ1
  simp only at hx; subst hx
  dsimp only
  have z115 := e115.size
  rw [Bool.cond_decide]
  by_cases hc : (k : Int) < (sy.len : Int)
  · rw [if_pos hc]
    have hk' : k < ways.length := by omega
    have hH115 := hH.ext (e111.trans e115)
    refine Join.cut (fun _ w' => Ext w115 w') (fun J2 hJ2 => ?_) (fun _ w' e' => hJ1 (k + 1) _ _ ⟨wsucc (m := 2 ^ 40) (by omega) (by omega), by omega, e115.trans e'⟩ (by omega))
    refine HWay_ok hH115 (fun i hik hi w123 e123 => ⟨kp1 e123 (by omega), ?_⟩) (fun hno => absurd ⟨by omega, by omega⟩ hno)
    have : i = k := by omega
    subst this
    have z123 := e123.size
    intro b124 w125 e125 g124 g124' w126 o126
    have z125 := e125.size; have z126 := o126.size
    have e126 : Ext w115 w126 := ext_off (e123.trans e125) o126 (by omega)
    have hH126 := hH115.ext e126
    have fin : ∀ (x127 x128 : Int) (t129 : Bool) (w130 : World), Ext w126 w130 → (t129 = true → yM ways[i] ≠ -1 ∧ ∃ a b : Nat, findW ways (yF ways[i]) (yM ways[i]) = some a ∧ findW ways (yM ways[i]) (yT ways[i]) = some b ∧ wW ways a + wW ways b = yW ways[i] ∧ x127 = (a : Int) ∧ x128 = (b : Int)) → (t129 = false → yM ways[i] = -1) →
        (Idx s13.a s13.len (i : Int) 1 (fun a131 =>
        (∃ x132 : Int, w130.cell? a131 = some (.int .i64 x132) ∧
        (cond (x132 != (1 : Int)) (K false w130) (cond (!(t129 == (yM ways[i] != (-1 : Int)))) (K false w130) (cond (!t129) (J2 () w130) (sh_hier_Hier_Way p x127 (fun x133 x134 x135 x136 x137 t138 w139 =>
        (Keeps [b124, b1] w130 w139 ∧
        (∀ b140 w141, Ext w139 w141 → w139.heap.size ≤ b140 → b140 < w141.heap.size →
        (∀ w142, Off b140 w141 w142 →
        (sh_hier_Hier_Way p x128 (fun x143 x144 x145 x146 x147 t148 w149 =>
        (Keeps [b140, b124, b1] w142 w149 ∧
        (∀ b150 w151, Ext w149 w151 → w149.heap.size ≤ b150 → b150 < w151.heap.size →
        (∀ w152, Off b150 w151 w152 →
        (cond (x133 != yF ways[i]) (∀ w153, Ext w152 w153 →
        (K false w153)) (cond (x134 != yM ways[i]) (∀ w154, Ext w152 w154 →
        (K false w154)) (cond (x143 != yM ways[i]) (∀ w155, Ext w152 w155 →
        (K false w155)) (cond (x144 != yT ways[i]) (∀ w156, Ext w152 w156 →
        (K false w156)) (cond ((IntKind.i64.wrap (x135 + x145)) != yW ways[i]) (∀ w157, Ext w152 w157 →
        (K false w157)) (Quiet (Int) (fun r159 =>
        (.int .i64 r159)) (fun K160 w161' => sh_hier_Hier_Rank p (yM ways[i]) (fun x158 w161 => K160 x158 w161) w161') w152 (fun r159 =>
        (Quiet (Int) (fun r163 =>
        (.int .i64 r163)) (fun K164 w165' => sh_hier_Hier_Rank p (yF ways[i]) (fun x162 w165 => K164 x162 w165) w165') w152 (fun r163 =>
        (cond (decide (r159 ≥ r163)) (∀ w166, Ext w152 w166 →
        (K false w166)) (Quiet (Int) (fun r168 =>
        (.int .i64 r168)) (fun K169 w170' => sh_hier_Hier_Rank p (yM ways[i]) (fun x167 w170 => K169 x167 w170) w170') w152 (fun r168 =>
        (Quiet (Int) (fun r172 =>
        (.int .i64 r172)) (fun K173 w174' => sh_hier_Hier_Rank p (yT ways[i]) (fun x171 w174 => K173 x171 w174) w174') w152 (fun r172 =>
        (∀ w175, Ext w152 w175 →
        (cond (decide (r168 ≥ r172)) (K false w175) (J2 () w175))))))))))))))))))))) w142))))) w130))))))) := by
      intro x127 x128 t129 w130 e130 ht hf
      have z130 := e130.size
      have e111' := (e115.trans e126).trans e130
      refine fi_rd (hO111.ext e111').view hk' fun _ q => ⟨_, q, ?_⟩
      rw [seen_all ok hk', bne_self_eq_false, cond_false]
      cases t129 with
      | false =>
        rw [hf rfl]
        simp only [bne_self_eq_false, beq_self_eq_true, Bool.not_true, cond_false, Bool.not_false, cond_true]
        exact hJ2 _ _ (e126.trans e130)
      | true =>
        obtain ⟨hm, a, b, h1, h2, h3, rfl, rfl⟩ := ht rfl
        rw [show (yM ways[i] != -1) = true by simpa using hm]
        simp only [beq_self_eq_true, Bool.not_true, cond_false]
        obtain ⟨ha, a1, a2, _⟩ := findW_some h1
        obtain ⟨hb, q1, q2, _⟩ := findW_some h2
        have hH130 := hH126.ext e130
        have okk := ok.w _ (List.getElem_mem hk')
        unfold OkW at okk
        rw [if_neg hm] at okk
        obtain ⟨_, m0, m1, r1, r2, _⟩ := okk
        have oka := ok.f a ha; have okb := ok.f b hb; have oki := ok.f i hk'
        unfold OkF at oka okb oki
        have w1 : wW ways a = yW ways[a] := by unfold wW; rw [List.getD_eq_getElem?_getD, List.getElem?_eq_getElem ha]; rfl
        have w2' : wW ways b = yW ways[b] := by unfold wW; rw [List.getD_eq_getElem?_getD, List.getElem?_eq_getElem hb]; rfl
        refine HWay_ok hH130 (fun a' ha' ha2 w139 e139 => ⟨kp2 e139 (by omega) (by omega), ?_⟩) (fun hno => absurd ⟨by omega, by omega⟩ hno)
        have : a' = a := by omega
        subst this
        have z139 := e139.size
        intro b140 w141 e141 g140 g140' w142 o142
        have z141 := e141.size; have z142 := o142.size
        have e142 : Ext w130 w142 := ext_off (e139.trans e141) o142 (by omega)
        refine HWay_ok (hH130.ext e142) (fun b' hb' hb2 w149 e149 => ⟨kp3 e149 (by omega) (by omega) (by omega), ?_⟩) (fun hno => absurd ⟨by omega, by omega⟩ hno)
        have : b' = b := by omega
        subst this
        have z149 := e149.size
        intro b150 w151 e151 g150 g150' w152 o152
        have z151 := e151.size
        have e152 : Ext w142 w152 := ext_off (e149.trans e151) o152 (by omega)
        have hH152 := (hH130.ext e142).ext e152
        rw [a1, a2, q1, q2, w64 (by omega) (by omega), ← w1, ← w2', h3]
        simp only [bne_self_eq_false, cond_false]
        refine Rank_quiet hH152 ?_
        refine Rank_quiet hH152 ?_
        rw [rankF_get m0 m1, rankF_get (by omega) (by omega), decide_eq_false (by omega), cond_false]
        refine Rank_quiet hH152 ?_
        refine Rank_quiet hH152 ?_
        intro w175 e175
        rw [rankF_get m0 m1, rankF_get (by omega) (by omega), decide_eq_false (by omega), cond_false]
        exact hJ2 _ _ ((((e126.trans e130).trans e142).trans e152).trans e175)
    refine HHalves_ok hH126 (fun j hij hj hm w130 e130 => ⟨kp2 e130 (by omega) (by omega), ?_⟩) (fun hno w130 e130 => ⟨kp2 e130 (by omega) (by omega), ?_⟩)
    · have : j = i := by omega
      subst this
      obtain ⟨a, b, h1, h2, h3⟩ := okH_halves ok hj hm
      rw [h1, h2]
      exact fin _ _ _ w130 e130 (fun _ => ⟨hm, a, b, h1, h2, h3, rfl, rfl⟩) (fun h => by cases h)
    · exact fin _ _ _ w130 e130 (fun h => by cases h) (fun _ => hno i rfl hk')
  · rw [if_neg hc]; exact hJ _ _ e115
end Go.Sh
