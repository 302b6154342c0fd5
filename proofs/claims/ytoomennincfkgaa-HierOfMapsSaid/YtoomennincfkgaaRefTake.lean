/- A way is put; a place is taken. -/
import Derived.Test.YtoomennincfkgaaRefNeed
set_option maxRecDepth 100000
namespace Go.Sh
open Go.RowKit

section
variable {w w' : World} {n : Nat} {sI sL sO : SV} {inn lost : Nat → Int} {L : List Wy}

theorem Put8_ok {a c : Nat} {wt mid : Int} {K : Int → SV → SV → SV → Bool → World → Prop} (h : LeftV w n sI sL sO inn L lost) (ha : a < n) (hia : inn a = 1) (hc : c < n) (hic : inn c = 1) (hne : a ≠ c) (hw : 0 ≤ wt) (hm : 0 ≤ mid) (hq : Uq L)
    (hK : ∀ s b w', Ext w w' → (s = sL ∧ ∃ z ∈ L, yF z = (a : Int) ∧ yT z = (c : Int) ∧ yW z ≤ wt) ∨
      (Own RW w' s (L.filter (offE a c) ++ [((a : Int), (c : Int), wt, mid, -1)]) ∧ Fsh w s ∧ ∀ z ∈ L, yF z = (a : Int) → yT z = (c : Int) → wt ≤ yW z) → K n sI s sO b w') : sh_postroadref08_Put n sI sL sO a c wt mid K w := by
  unfold sh_postroadref08_Put
  intro b1 w2 e2 g1 g1' b3 w4 e4 g3 g3'
  have z2 := e2.size; have z4 := e4.size
  have hk40 := h.k; have hl := h.l.len
  have e04 := e2.trans e4
  refine Way_ok (h.ext e04) fun w9 e9 => ⟨kp_ext e9 (by (intro b hb; simp only [List.mem_cons, List.not_mem_nil, or_false] at hb; omega)), ?_⟩
  have z9 := e9.size
  intro b10 w11 e11 g10 g10' w12 o12
  have z11 := e11.size; have z12 := o12.size
  have e012 : Ext w w12 := ext_off ((e04.trans e9).trans e11) o12 (by omega)
  refine Join.cut (fun _ w' => Ext w w' ∧ w12.heap.size ≤ w'.heap.size ∧ ∀ z ∈ L, yF z = (a : Int) → yT z = (c : Int) → wt ≤ yW z) (fun J hJ => ?_) ?_
  · refine is_ok (h.ext e012) fun w15 e15 => ⟨kp_ext e15 (by (intro b hb; simp only [List.mem_cons, List.not_mem_nil, or_false] at hb; omega)), ?_⟩
    have z15 := e15.size
    rw [isF_of ha hia, Bool.not_true, cond_false]
    refine is_ok (h.ext (e012.trans e15)) fun w18 e18 => ⟨kp_ext e18 (by (intro b hb; simp only [List.mem_cons, List.not_mem_nil, or_false] at hb; omega)), ?_⟩
    have z18 := e18.size
    have e018 := (e012.trans e15).trans e18
    rw [isF_of hc hic, Bool.not_true, cond_false, show ((a : Int) == (c : Int)) = false by rw [beq_eq_false_iff_ne]; omega, cond_false, Bool.cond_decide, if_neg (by omega), Bool.cond_decide, if_neg (by omega), wayF_has]
    by_cases hh : hasF L a c = true
    · obtain ⟨y, hy, y1, y2, y3⟩ := hasF_way hh
      rw [hh, cond_true, y3, Bool.cond_decide]
      by_cases hle : yW y ≤ wt
      · rw [if_pos hle]
        intro w23 o23
        exact hK sL false w23 (ext_off e018 o23 (by omega)) (.inl ⟨rfl, y, hy, y1, y2, hle⟩)
      · rw [if_neg hle]
        refine hJ _ _ ⟨e018, by omega, fun z hz z1 z2 => ?_⟩
        have := hq.same hz hy (z1.trans y1.symm) (z2.trans y2.symm)
        subst this; omega
    · have hh' := hh
      rw [Bool.not_eq_true] at hh'
      rw [hh', cond_false]
      exact hJ _ _ ⟨e018, by omega, fun z hz z1 z2 => absurd (hasF_of hq hz z1 z2) hh⟩
  · rintro _ w25 ⟨e25, z25, hmin⟩
    refine Join.cut (fun (x : SV × Unit) w' => Acc RW w w25.heap.size w' x.1 (L.filter (offE a c))) (fun J hJ => ?_) ?_
    · refine LoopT.gh (γ := Nat) (fun i (st : SV × Int × Unit) w' => st.2.1 = i ∧ i ≤ L.length ∧ Acc RW w w25.heap.size w' st.1 ((L.take i).filter (offE a c))) (fun i => L.length - i) 0 ⟨rfl, Nat.zero_le _, Acc.nil e25 e25.size (Nat.le_refl _)⟩ ?_
      rintro i ⟨u, x, _⟩ w29 ⟨hx, hi, hA⟩ J1 hJ1
      simp only at hx hA
      subst hx
      dsimp only
      have z29 := hA.z
      rw [Bool.cond_decide]
      by_cases hci : (i : Int) < (sL.len : Int)
      · rw [if_pos hci]
        have hi' : i < L.length := by omega
        have hfl := List.length_filter_le (offE a c) (L.take i)
        rw [List.length_take] at hfl
        refine Join.cut (fun (x : SV × Unit) w' => Acc RW w w25.heap.size w' x.1 ((L.take (i + 1)).filter (offE a c))) (fun J2 hJ2 => ?_) ?_
        · rw [take_snoc' hi', List.filter_append] at hJ2
          have push : offE a c L[i] = true → NewB [(.int .i64 (yF L[i])), (.int .i64 (yT L[i])), (.int .i64 (yW L[i])), (.int .i64 (yM L[i])), (.int .i64 (yA L[i]))] w29 (fun b39 w40 => App 40 [(.int .i64 (0 : Int)), (.int .i64 (0 : Int)), (.int .i64 (0 : Int)), (.int .i64 (0 : Int)), (.int .i64 (0 : Int))] u ⟨(some ⟨b39, 0, none⟩), 1, 1⟩ w40 (fun s41 w42 => Keeps [b3, b10, b1] w40 w42 ∧ J2 (s41, ()) w42)) := fun ho => by
            refine hA.push (R := RW) (x := L[i]) (by omega) (by omega) fun w40 s41 w42 e40 c42 _ hA1 => ?_
            have z40 := e40.size
            refine ⟨hA.kp e40 c42 (by (intro b hb; simp only [List.mem_cons, List.not_mem_nil, or_false] at hb; omega)), hJ2 _ _ ?_⟩
            rw [List.filter_cons_of_pos ho]; exact hA1
          refine way_idx (h.l.ext hA.e) hi' fun _ _ a0 _ _ _ _ => ⟨_, a0, ?_⟩
          by_cases h1 : yF L[i] = (a : Int)
          · rw [show (yF L[i] != (a : Int)) = false by rw [bne_eq_false_iff_eq]; exact h1, cond_false]
            refine way_idx (h.l.ext hA.e) hi' fun _ _ _ a1 _ _ _ => ⟨_, a1, ?_⟩
            by_cases h2 : yT L[i] = (c : Int)
            · rw [show (yT L[i] != (c : Int)) = false by rw [bne_eq_false_iff_eq]; exact h2, cond_false]
              refine hJ2 _ _ ?_
              rw [List.filter_cons_of_neg (fun q => offE_iff.1 q ⟨h1, h2⟩)]
              simpa using hA
            · rw [show (yT L[i] != (c : Int)) = true by rw [bne_iff_ne]; exact h2, cond_true]
              exact way_idx (h.l.ext hA.e) hi' fun _ _ a0 a1 a2 a3 a4 => ⟨_, a0, _, a1, _, a2, _, a3, _, a4, push (offE_iff.2 fun q => h2 q.2)⟩
          · rw [show (yF L[i] != (a : Int)) = true by rw [bne_iff_ne]; exact h1, cond_true]
            exact way_idx (h.l.ext hA.e) hi' fun _ _ a0 a1 a2 a3 a4 => ⟨_, a0, _, a1, _, a2, _, a3, _, a4, push (offE_iff.2 fun q => h1 q.1)⟩
        · rintro ⟨u', _⟩ w56 hA'
          exact hJ1 (i + 1) _ _ ⟨wsucc (m := 2 ^ 40) (by omega) (by omega), by omega, hA'⟩ (by omega)
      · rw [if_neg hci]
        have : i = L.length := by omega
        subst this
        rw [List.take_length] at hA
        exact hJ _ _ hA
    · rintro ⟨u, _⟩ w58 hA
      simp only at hA
      have z58 := hA.z
      have hfl := List.length_filter_le (offE a c) L
      refine hA.push (R := RW) (x := ((a : Int), (c : Int), wt, mid, -1)) (by omega) (by omega) fun w60 s61 w62 e60 c62 _ hA1 => ?_
      have z60 := e60.size
      refine ⟨hA.kp e60 c62 (by (intro b hb; simp only [List.mem_cons, List.not_mem_nil, or_false] at hb; omega)), fun w63 o63 w64 o64 => ?_⟩
      have hA2 := (hA1.off o63 (by omega) (by omega)).off o64 (by omega) (by omega)
      exact hK s61 true w64 hA2.e (.inr ⟨hA2.o, fun k hk => by have := hA2.f k hk; have := e25.size; omega, hmin⟩)

def goneF (v : Nat) (y : Wy) : Bool := decide (yF y ≠ (v : Int) ∧ yT y ≠ (v : Int))
theorem Take8_ok {v : Nat} {K : Int → SV → SV → SV → Bool → World → Prop} (h : LeftV w n sI sL sO inn L lost) (hv : v < n) (hiv : inn v = 1)
    (hK : ∀ sI' sL' sO' lost' w', Ext w w' → LeftV w' n sI' sL' sO' (up1 inn v 0) (L.filter (goneF v)) lost' → Fsh w sI' → Fsh w sL' → Fsh w sO' → (∀ k, sI'.blk k → k < w'.heap.size) → (∀ k, sL'.blk k → k < w'.heap.size) → (∀ k, sO'.blk k → k < w'.heap.size) → K n sI' sL' sO' true w') : sh_postroadref08_Take n sI sL sO v K w := by
  unfold sh_postroadref08_Take
  intro b1 w2 e2 g1 g1' b3 w4 e4 g3 g3'
  have z2 := e2.size; have z4 := e4.size
  have hk40 := h.k; have hl := h.l.len; have hn := h.n40
  have e04 := e2.trans e4
  refine is_ok (h.ext e04) fun w6 e6 => ⟨kp_ext e6 (by (intro b hb; simp only [List.mem_cons, List.not_mem_nil, or_false] at hb; omega)), ?_⟩
  have z6 := e6.size
  rw [isF_of hv hiv, Bool.not_true, cond_false]
  intro b8 w9 e9 g8 g8' w10 o10
  have z9 := e9.size; have z10 := o10.size
  have e10 : Ext w w10 := ext_off ((e04.trans e6).trans e9) o10 (by omega)
  refine Join.cut (fun (x : (Int × SV × SV × SV × Unit) × Unit) w' => x.1.1 = n ∧ x.1.2.2.1 = ⟨none, 0, 0⟩ ∧ ∃ lo, Acc RI w w10.heap.size w' x.1.2.1 (fi n (up1 inn v 0)) ∧ Acc RI w w10.heap.size w' x.1.2.2.2.1 (fi n lo) ∧ Dj x.1.2.1.blk x.1.2.2.2.1.blk) (fun J hJ => ?_) ?_
  · refine LoopT.gh (γ := Nat × (Nat → Int)) (fun g (st : Int × (Int × SV × SV × SV × Unit) × Unit) w' => st.1 = g.1 ∧ g.1 ≤ n ∧ st.2.1.1 = n ∧ st.2.1.2.2.1 = ⟨none, 0, 0⟩ ∧ Acc RI w w10.heap.size w' st.2.1.2.1 (fi g.1 (up1 inn v 0)) ∧ Acc RI w w10.heap.size w' st.2.1.2.2.2.1 (fi g.1 g.2) ∧ Dj st.2.1.2.1.blk st.2.1.2.2.2.1.blk) (fun g => n - g.1) (0, fun _ => 0)
      ⟨rfl, Nat.zero_le _, rfl, rfl, Acc.nil e10 e10.size (Nat.le_refl _), Acc.nil e10 e10.size (Nat.le_refl _), fun _ ⟨_, h, _⟩ => (by cases h)⟩ ?_
    rintro ⟨i, lo⟩ ⟨x, ⟨m, tI, tL, tO, _⟩, _⟩ w14 ⟨hx, hi, hm, htL, hI, hO, d⟩ J1 hJ1
    simp only at hx hi hm htL hI hO d
    subst hx hm htL
    dsimp only
    have z14 := hI.z
    rw [Bool.cond_decide]
    by_cases hc : (i : Int) < (n : Int)
    · rw [if_pos hc]
      have hi' : i < n := by omega
      refine fi_rd (h.i.ext hI.e) hi' fun _ r1 => ⟨_, r1, ?_⟩
      refine fi_rd (h.o.ext hI.e) hi' fun _ r2 => ⟨_, r2, ?_⟩
      refine Way_ok (h.ext hI.e) fun w23 e23 => ⟨kp_ext e23 (by (intro b hb; simp only [List.mem_cons, List.not_mem_nil, or_false] at hb; omega)), ?_⟩
      have z23 := e23.size
      intro b24 w25 e25 g24 g24' w26 o26
      have z25 := e25.size; have z26 := o26.size
      have e14a : Ext w14 w26 := ext_off (e23.trans e25) o26 (by omega)
      refine Way_ok (h.ext (hI.e.trans e14a)) fun w31 e31 => ⟨kp_ext e31 (by (intro b hb; simp only [List.mem_cons, List.not_mem_nil, or_false] at hb; omega)), ?_⟩
      have z31 := e31.size
      intro b32 w33 e33 g32 g32' w34 o34
      have z33 := e33.size; have z34 := o34.size
      have e14b : Ext w14 w34 := ext_off ((e14a.trans e31).trans e33) o34 (by omega)
      rw [wayF_has, wayF_has]
      refine Join.cut (fun (x : Int × Unit) w' => x.1 = up1 inn v 0 i ∧ w' = w34) (fun J' hJ' => ?_) ?_
      · by_cases e : i = v
        · subst e
          rw [show ((i : Int) == (i : Int)) = true from beq_self_eq_true _, cond_true]
          exact hJ' _ _ ⟨up1_at.symm, rfl⟩
        · rw [show ((i : Int) == (v : Int)) = false by rw [beq_eq_false_iff_ne]; omega, cond_false]
          exact hJ' _ _ ⟨(up1_ne e).symm, rfl⟩
      rintro ⟨x36, _⟩ w37 ⟨hx36, rfl⟩
      simp only at hx36; subst hx36
      refine Join.cut (fun (x : Int × Unit) w' => w' = w37) (fun J' hJ' => ?_) ?_
      · cases hasF L v i with
        | true => rw [cond_true]; exact hJ' _ _ rfl
        | false =>
          rw [cond_false]
          cases hasF L i v with
          | true => rw [cond_true]; exact hJ' _ _ rfl
          | false => rw [cond_false]; exact hJ' _ _ rfl
      rintro ⟨x39, _⟩ w40 rfl
      dsimp only
      have hI1 := hI.ext e14b; have hO1 := hO.ext e14b
      refine hI1.push (R := RI) (x := up1 inn v 0 i) (by rw [fi_len]; omega) (by rw [fi_len]; omega) fun w42 s43 w44 e42 c44 hs43 hI2 => ?_
      have z42 := e42.size; have z44 := c44.size
      refine ⟨hI.kp (e14b.trans e42) c44 (by (intro b hb; simp only [List.mem_cons, List.not_mem_nil, or_false] at hb; omega)), fun w45 o45 => ?_⟩
      have hO2 := hO1.other e42 c44 d.symm hI2.e
      have d2 := hO1.dj d hs43
      have hI3 := hI2.off o45 (by omega) (by omega); have hO3 := hO2.off o45 (by omega) (by omega)
      have z45 := o45.size
      refine hO3.push (R := RI) (x := x39) (by rw [fi_len]; omega) (by rw [fi_len]; omega) fun w47 s48 w49 e47 c49 hs48 hO4 => ?_
      have z47 := e47.size
      refine ⟨kp_chg c49 fun b hb => ?_, fun w50 o50 => ?_⟩
      · simp only [List.mem_cons, List.not_mem_nil, or_false] at hb
        refine ⟨by omega, fun hk => ?_⟩
        have := hO.f _ hk; have := hO.o.lt hk
        omega
      have hI4 := hI3.other e47 c49 d2 hO4.e
      refine hJ1 (i + 1, fun j => if j = i then x39 else lo j) _ _ ⟨wsucc (m := 2 ^ 40) (by omega) (by omega), by simp only; omega, rfl, rfl, ?_, ?_, (hI3.dj d2.symm hs48).symm⟩ (by simp only; omega)
      · simp only; rw [fi_succ]; exact hI4.off o50 (by omega) (by omega)
      · simp only
        rw [fi_succ, if_pos rfl, show fi i (fun j => if j = i then x39 else lo j) = fi i lo from fi_congr fun j hj => by rw [if_neg (by omega)]]
        exact hO4.off o50 (by omega) (by omega)
    · rw [if_neg hc]
      have : i = n := by omega
      subst this
      exact hJ _ _ ⟨rfl, rfl, lo, hI, hO, d⟩
  · rintro ⟨⟨m, tI, tL, tO, _⟩, _⟩ w52 ⟨hm, htL, lo, hI, hO, d⟩
    simp only at hm htL hI hO d
    subst hm htL
    dsimp only
    have z52 := hI.z
    refine Join.cut (fun (x : (Int × SV × SV × SV × Unit) × Unit) w' => x.1.1 = n ∧ x.1.2.1 = tI ∧ x.1.2.2.2.1 = tO ∧ Acc RI w w10.heap.size w' tI (fi n (up1 inn v 0)) ∧ Acc RI w w10.heap.size w' tO (fi n lo) ∧ Acc RW w w10.heap.size w' x.1.2.2.1 (L.filter (goneF v))) (fun J hJ => ?_) ?_
    · refine LoopT.gh (γ := Nat) (fun i (st : Int × (Int × SV × SV × SV × Unit) × Unit) w' => st.1 = i ∧ i ≤ L.length ∧ st.2.1.1 = n ∧ st.2.1.2.1 = tI ∧ st.2.1.2.2.2.1 = tO ∧ Acc RI w w10.heap.size w' tI (fi n (up1 inn v 0)) ∧ Acc RI w w10.heap.size w' tO (fi n lo) ∧ Acc RW w w10.heap.size w' st.2.1.2.2.1 ((L.take i).filter (goneF v)) ∧
          Dj tI.blk st.2.1.2.2.1.blk ∧ Dj tO.blk st.2.1.2.2.1.blk) (fun i => L.length - i) 0
        ⟨rfl, Nat.zero_le _, rfl, rfl, rfl, hI, hO, Acc.nil hI.e hI.m hI.z, fun _ _ ⟨_, h, _⟩ => (by cases h), fun _ _ ⟨_, h, _⟩ => (by cases h)⟩ ?_
      rintro i ⟨x, ⟨m, rI, rL, rO, _⟩, _⟩ w56 ⟨hx, hi, hm, hrI, hrO, hI, hO, hL, d1, d2⟩ J1 hJ1
      simp only at hx hm hrI hrO hI hO hL d1 d2
      subst hx hm hrI hrO
      dsimp only
      have z56 := hI.z
      rw [Bool.cond_decide]
      by_cases hci : (i : Int) < (sL.len : Int)
      · rw [if_pos hci]
        have hi' : i < L.length := by omega
        have hfl := List.length_filter_le (goneF v) (L.take i)
        rw [List.length_take] at hfl
        refine Join.cut (fun (x : (Int × SV × SV × SV × Unit) × Unit) w' => x.1.1 = n ∧ x.1.2.1 = rI ∧ x.1.2.2.2.1 = rO ∧ Acc RI w w10.heap.size w' rI (fi n (up1 inn v 0)) ∧ Acc RI w w10.heap.size w' rO (fi n lo) ∧ Acc RW w w10.heap.size w' x.1.2.2.1 ((L.take (i + 1)).filter (goneF v)) ∧
          Dj rI.blk x.1.2.2.1.blk ∧ Dj rO.blk x.1.2.2.1.blk) (fun J2 hJ2 => ?_) ?_
        · rw [take_snoc' hi', List.filter_append] at hJ2
          have skip : ¬ goneF v L[i] = true → J2 (((n : Int), rI, rL, rO, ()), ()) w56 := fun hg => hJ2 _ _ ⟨rfl, rfl, rfl, hI, hO, by rw [List.filter_cons_of_neg hg]; simpa using hL, d1, d2⟩
          refine way_idx (h.l.ext hI.e) hi' fun _ _ a0 _ _ _ _ => ⟨_, a0, ?_⟩
          by_cases h1 : yF L[i] = (v : Int)
          · rw [show (yF L[i] != (v : Int)) = false by rw [bne_eq_false_iff_eq]; exact h1, cond_false]
            exact skip fun q => (of_decide_eq_true q).1 h1
          rw [show (yF L[i] != (v : Int)) = true by rw [bne_iff_ne]; exact h1, cond_true]
          refine way_idx (h.l.ext hI.e) hi' fun _ _ _ a1 _ _ _ => ⟨_, a1, ?_⟩
          by_cases h2 : yT L[i] = (v : Int)
          · rw [show (yT L[i] != (v : Int)) = false by rw [bne_eq_false_iff_eq]; exact h2, cond_false]
            exact skip fun q => (of_decide_eq_true q).2 h2
          rw [show (yT L[i] != (v : Int)) = true by rw [bne_iff_ne]; exact h2, cond_true]
          refine way_idx (h.l.ext hI.e) hi' fun _ _ a0 a1 a2 a3 a4 => ⟨_, a0, _, a1, _, a2, _, a3, _, a4, ?_⟩
          intro w68 e68
          have hL1 := hL.ext e68
          refine hL1.push' (R := RW) (x := L[i]) (by omega) (by omega) fun w71 s72 w73 e71 c73 hs72 hL2 => ?_
          have z68 := e68.size; have z71 := e71.size; have z73 := c73.size
          refine ⟨hL1.kp e71 c73 (by (intro b hb; simp only [List.mem_cons, List.not_mem_nil, or_false] at hb; omega)), fun w74 e74 w75 o75 w76 e76 => ?_⟩
          have z74 := e74.size
          have fin : ∀ {s : SV} {xs : List Int}, Acc RI w w10.heap.size w73 s xs → Acc RI w w10.heap.size w76 s xs := fun hh => ((hh.ext e74).off o75 (by omega) (by omega)).ext e76
          refine hJ2 _ _ ⟨rfl, rfl, rfl, fin ((hI.ext e68).other e71 c73 d1 hL2.e), fin ((hO.ext e68).other e71 c73 d2 hL2.e), ?_, ((hI.ext e68).dj d1.symm hs72).symm, ((hO.ext e68).dj d2.symm hs72).symm⟩
          rw [List.filter_cons_of_pos (show goneF v L[i] = true from decide_eq_true ⟨h1, h2⟩)]
          exact ((hL2.ext e74).off o75 (by omega) (by omega)).ext e76
        · rintro ⟨⟨m, qI, qL, qO, _⟩, _⟩ w78 ⟨hm, hqI, hqO, r1, r2, r3, r4, r5⟩
          simp only at hm hqI hqO r1 r2 r3 r4 r5
          subst hm hqI hqO
          exact hJ1 (i + 1) _ _ ⟨wsucc (m := 2 ^ 40) (by omega) (by omega), by omega, rfl, rfl, rfl, r1, r2, r3, r4, r5⟩ (by omega)
      · rw [if_neg hci]
        have : i = L.length := by omega
        subst this
        rw [List.take_length] at hL
        exact hJ _ _ ⟨rfl, rfl, rfl, hI, hO, hL⟩
    · rintro ⟨⟨m, rI, rL, rO, _⟩, _⟩ w80 ⟨hm, hrI, hrO, hI, hO, hL⟩ w81 o81
      simp only at hm hrI hrO hI hO hL
      subst hm hrI hrO
      have hI := hI.off o81 (by omega) (by omega); have hL := hL.off o81 (by omega) (by omega); have hO := hO.off o81 (by omega) (by omega)
      have hfl := List.length_filter_le (goneF v) L
      exact hK _ _ _ lo w81 hI.e ⟨hI.o.view, hL.o.view, hO.o.view, by omega, hn⟩ (fun k hk => by have := hI.f k hk; have := hI.m; omega) (fun k hk => by have := hL.f k hk; have := hI.m; omega) (fun k hk => by have := hO.f k hk; have := hI.m; omega) (fun k hk => hI.o.lt hk) (fun k hk => hL.o.lt hk) (fun k hk => hO.o.lt hk)
end
end Go.Sh
