/- GraphOwn. -/
import Derived.Test.YthpbelgmppaafaaGraphArcs
set_option maxRecDepth 100000
namespace Go.Sh
open Go.RowKit

theorem set_same {α : Type} {l : List α} {i : Nat} {x : α} (h : l[i]? = some x) : l.set i x = l := by
  apply List.ext_getElem?
  intro j
  rw [List.getElem?_set]
  split
  · rename_i e; subst e
    have := (List.getElem?_eq_some_iff.1 h).1
    rw [if_pos this, h]
  · rfl

/-- The second of an owned record is written. -/
theorem put1 {w : World} {s : SV} {xs : List Arc} (h : Own RD w s xs) {i : Nat} (hi : i < xs.length) {v : Int} {K : World → Prop} (hk : ∀ w' ys, Chg s.blk w w' → Own RD w' s ys → ys.length = xs.length → K w') :
    Idx s.a s.len (i : Int) 3 (fun a => stL w (a.add 1) [.int .i64 v] 0 K) := by
  obtain ⟨rest, h1, h2, h3⟩ := h
  rcases h3 with ⟨_, h, _⟩ | ⟨b, hb, hB⟩
  · subst h; simp at hi
  refine ⟨_, hb, by omega, by omega, ?_⟩
  simp only [Int.toNat_natCast, addm, Nat.zero_add]
  have hlen : i * 3 + 3 ≤ (RD.flat (xs ++ rest)).length := by
    rw [RD.flat_len]
    have : (i + 1) * 3 ≤ (xs ++ rest).length * 3 := Nat.mul_le_mul_right _ (by simp; omega)
    show i * 3 + 3 ≤ (xs ++ rest).length * 3
    omega
  refine stL_blk (b := b) (o := i * 3 + 1) [.int .i64 v] 0 w _ _ hB (by simp; omega) fun w' o hB' => ?_
  refine hk w' (xs.set i (xs[i].1, v, xs[i].2.2)) (.of_off o ⟨_, hb, rfl⟩) ⟨rest, by simpa using h1, by simpa using h2, .inr ⟨b, hb, ?_⟩⟩ (by simp)
  have hf := RD.flat_set (xs ++ rest) i (xs[i].1, v, xs[i].2.2) (by simp; omega)
  rw [List.set_append_left _ _ hi] at hf
  rw [← hf]
  have g0 : (RD.flat (xs ++ rest))[i * 3]? = some (.int .i64 xs[i].1) := by
    have := RD.flat_get (xs ++ rest) i 0 xs[i] (by rw [List.getElem?_append_left hi, List.getElem?_eq_getElem hi]) (by decide)
    exact this
  have g2 : (RD.flat (xs ++ rest))[i * 3 + 2]? = some (.int .i64 xs[i].2.2) := by
    have := RD.flat_get (xs ++ rest) i 2 xs[i] (by rw [List.getElem?_append_left hi, List.getElem?_eq_getElem hi]) (by decide)
    exact this
  have e : setL (RD.flat (xs ++ rest)) (i * RD.sz) (RD.enc (xs[i].1, v, xs[i].2.2)) = (RD.flat (xs ++ rest)).set (i * 3 + 1) (.int .i64 v) := by
    show (((RD.flat (xs ++ rest)).set (i * 3) (.int .i64 xs[i].1)).set (i * 3 + 1) (.int .i64 v)).set (i * 3 + 1 + 1) (.int .i64 xs[i].2.2) = _
    rw [set_same g0]
    refine set_same ?_
    rw [List.getElem?_set_ne (by omega)]; exact g2
  rw [e]
  exact hB'

theorem Print_nil {w : World} {K : Int → World → Prop} (hk : K 0 w) : sh_graph_Graph_Print none K w := hk

theorem GraphOwn_ok {CV : CVT} (hcv : GraphCV CV) {w : World} {N : Int} {s : SV} {arcs : List Arc} {K : Bool → World → Prop} (h : View RD w s arcs) (hk : ∀ w', Ext w w' → K true w') : sh_postroadlaw06_GraphOwn CV N s K w := by
  unfold sh_postroadlaw06_GraphOwn
  intro b1 w2 e2 g1 g1'
  have z2 := e2.size
  have hlen := h.len
  refine Small_ok fun b w4 e4 hb => ⟨kp_ext e4 (by (intro b hb; simp only [List.mem_cons, List.not_mem_nil, or_false] at hb; omega)), ?_⟩
  have z4 := e4.size
  have e4' := e2.trans e4
  cases b with
  | false =>
    simp only [Bool.not_false, cond_true]
    exact known6_ok hcv fun w6 e6 => ⟨kp_ext e6 (by (intro b hb; simp only [List.mem_cons, List.not_mem_nil, or_false] at hb; omega)), hk w6 (e4'.trans e6)⟩
  | true =>
  obtain ⟨hs80, _⟩ := hb rfl
  simp only [Bool.not_true, cond_false]
  refine Own.app (R := RD) Own.nil (h.ext e4') (by simp only [List.length_nil]; omega) (by simp only [List.length_nil]; omega) fun s7 w8 c8 hs7 hO => ?_
  rw [List.nil_append] at hO
  have e8 : Ext w4 w8 := c8.ext fun k _ ⟨q, hq, _⟩ => by cases hq
  have f7 : Fsh w4 s7 := fun k hk => by
    rcases hs7 k hk with ⟨q, hq, _⟩ | h'
    · cases hq
    · exact h'
  have z8 := e8.size
  refine ⟨kp_ext e8 (by (intro b hb; simp only [List.mem_cons, List.not_mem_nil, or_false] at hb; omega)), ?_⟩
  have e8' := e4'.trans e8
  have l7 := hO.view.len
  have b7 : ∀ k, s7.blk k → k < w8.heap.size := fun k hk => hO.lt hk
  have kp : ∀ {wa wb}, w4.heap.size ≤ wa.heap.size → Ext wa wb → Keeps [b1] wa wb := fun hz e => kp_ext e (by (intro b hb; simp only [List.mem_cons, List.not_mem_nil, or_false] at hb; omega))
  have nb1 : ¬ s7.blk b1 := fun hk => by have := f7 _ hk; omega
  have two : ∀ {K' : Option Addr → Option Addr → World → Prop}, (∀ p q w12, Ext w8 w12 → (p = none ∧ q = none ∨ ∃ F G, GraphA w12 p N arcs F ∧ GraphA w12 q N arcs G ∧ (∀ k, F k → w8.heap.size ≤ k) ∧ (∀ k, G k → w8.heap.size ≤ k)) → K' p q w12) →
      sh_graph_New CV N s7 (fun p9 w10 => Keeps [b1] w8 w10 ∧ sh_graph_New CV N s (fun p11 w12 => Keeps [b1] w10 w12 ∧ K' p9 p11 w12) w10) w8 := by
    intro K' hK'
    refine GNew_ok hcv hO.view (fun ok p w10 F e10 hG fG => ⟨kp (by omega) e10, ?_⟩) (fun hno w10 e10 => ⟨kp (by omega) e10, ?_⟩)
    · have z10 := e10.size
      refine GNew_ok hcv (h.ext (e8'.trans e10)) (fun _ q w12 G e12 hG2 fG2 => ⟨kp (by omega) e12, ?_⟩) (fun hno => absurd ok hno)
      exact hK' p q w12 (e10.trans e12) (.inr ⟨F, G, hG.ext e12, hG2, fG, fun k hk => by have := fG2 k hk; omega⟩)
    · have z10 := e10.size
      refine GNew_ok hcv (h.ext (e8'.trans e10)) (fun ok => absurd ok hno) (fun _ w12 e12 => ⟨kp (by omega) e12, hK' none none w12 (e10.trans e12) (.inl ⟨rfl, rfl⟩)⟩)
  refine two fun p q w12 e12 hpq => ?_
  refine Join.cut (fun _ w20 => Ext w w20 ∧ w8.heap.size ≤ w20.heap.size ∧ (p = none ∧ q = none ∨ ∃ F G, GraphA w20 p N arcs F ∧ GraphA w20 q N arcs G ∧ (∀ k, F k → w8.heap.size ≤ k) ∧ (∀ k, G k → w8.heap.size ≤ k))) (fun J hJ => ?_) ?_
  · have z12 := e12.size
    refine LoopT.gh (γ := Nat × List Arc) (fun gh (st : Int × Unit) w20 => st.1 = gh.1 ∧ gh.1 ≤ arcs.length ∧ gh.2.length = arcs.length ∧ Chg s7.blk w12 w20 ∧ Own RD w20 s7 gh.2) (fun gh => arcs.length - gh.1) (0, arcs) ⟨rfl, Nat.zero_le _, rfl, .refl _ _, hO.ext e12⟩ ?_
    rintro ⟨i, xs⟩ ⟨x, _⟩ w16 ⟨hx, hi, hxs, c16, hO16⟩ J1 hJ1
    simp only at hx hi hxs hO16; subst hx
    dsimp only
    have z16 := c16.size
    rw [Bool.cond_decide]
    by_cases hc : (i : Int) < (s7.len : Int)
    · rw [if_pos hc]
      refine own_wr (R := RD) hO16 (by omega) fun b hb hput => ?_
      refine hput (0, 0, 1) w16 _ hO16 fun w18 o18 hO18 => ⟨?_, ?_⟩
      · exact kp_chg (.of_off (F := s7.blk) o18 ⟨_, hb, rfl⟩) fun c hc => by
          simp only [List.mem_cons, List.not_mem_nil, or_false] at hc; subst hc; exact ⟨by omega, nb1⟩
      · exact hJ1 (i + 1, xs.set i (0, 0, 1)) _ _ ⟨wsucc (m := 2 ^ 40) (by omega) (by omega), by simp only; omega, by simpa using hxs, c16.trans (.of_off (F := s7.blk) o18 ⟨_, hb, rfl⟩) fun _ _ h => h, hO18⟩ (by simp only; omega)
    · rw [if_neg hc]
      refine hJ _ _ ⟨ext_chg (e8'.trans e12) c16 (f7.ext e4'), by omega, ?_⟩
      rcases hpq with h' | ⟨F, G, hF, hG, fF, fG⟩
      · exact .inl h'
      · exact .inr ⟨F, G, hF.chg c16 fun k hk h7 => by have := fF k hk; have := b7 k h7; omega, hG.chg c16 fun k hk h7 => by have := fG k hk; have := b7 k h7; omega, fF, fG⟩
  rintro _ w20 ⟨e20, z20, hpq⟩
  refine Join.cut (fun _ w' => Ext w w' ∧ w8.heap.size ≤ w'.heap.size ∧ (p = none ∧ q = none ∨ ∃ F G, GraphA w' p N arcs F ∧ GraphA w' q N arcs G)) (fun J hJ => ?_) ?_
  · rcases hpq with ⟨rfl, rfl⟩ | ⟨F, G, hF, hG, _, _⟩
    · refine LoopT.gh (γ := Unit) (fun _ (st : Int × Unit) w' => st.1 = 0 ∧ w' = w20) (fun _ => 0) () ⟨rfl, rfl⟩ ?_
      rintro _ ⟨v, _⟩ w' ⟨hv, rfl⟩ J1 _
      simp only at hv; subst hv
      refine N_nil ⟨kp (by omega) (.refl _), ?_⟩
      rw [show decide ((0 : Int) < 0) = false from rfl, cond_false]
      exact hJ _ _ ⟨e20, z20, .inl ⟨rfl, rfl⟩⟩
    have ok := hF.ok
    obtain ⟨n, rfl⟩ := Int.eq_ofNat_of_zero_le ok.n0
    have hn1 := ok.n1
    refine LoopT.gh (γ := Nat) (fun v (st : Int × Unit) w' => st.1 = v ∧ v ≤ n ∧ Ext w20 w') (fun v => n - v) 0 ⟨rfl, Nat.zero_le _, .refl _⟩ ?_
    rintro v ⟨x, _⟩ w24 ⟨hx, hv, e24⟩ J1 hJ1
    simp only at hx; subst hx
    dsimp only
    have z24 := e24.size
    refine N_ok (hG.ext e24) ⟨kp (by omega) (.refl _), ?_⟩
    rw [Bool.cond_decide]
    by_cases hvn : (v : Int) < (n : Int)
    · rw [if_pos hvn]
      refine Join.cut (fun _ w' => Ext w20 w') (fun J2 hJ2 => ?_) (fun _ w51 e51 => hJ1 (v + 1) _ _ ⟨wsucc (m := 2 ^ 40) (by omega) (by omega), by omega, e51⟩ (by omega))
      refine Out_ok (hF.ext e24) fun s28 w29 e29 hO28 f28 => ⟨kp (by omega) e29, ?_⟩
      have z29 := e29.size
      have e29' := e24.trans e29
      have lE := outE_len ok v
      refine Join.cut (fun _ w' => Ext w20 w') (fun J3 hJ3 => ?_) ?_
      · refine LoopT.gh (γ := Nat × List Arc) (fun gh (st : Int × Unit) w' => st.1 = gh.1 ∧ gh.1 ≤ gh.2.length ∧ gh.2.length = (outE (n : Int) arcs v).length ∧ Ext w20 w' ∧ Own RD w' s28 gh.2) (fun gh => (outE (n : Int) arcs v).length - gh.1) (0, outE (n : Int) arcs v) ⟨rfl, Nat.zero_le _, rfl, e29', hO28⟩ ?_
        rintro ⟨i, xs⟩ ⟨x, _⟩ w33 ⟨hx, hi, hxs, e33, hO33⟩ J4 hJ4
        simp only at hx hi hxs hO33; subst hx
        dsimp only
        have l28 := hO33.view.len
        have z33 := e33.size
        rw [Bool.cond_decide]
        by_cases hc : (i : Int) < (s28.len : Int)
        · rw [if_pos hc]
          refine put1 hO33 (by omega) fun w35 ys c35 hO35 hys => ⟨?_, ?_⟩
          · exact kp_chg c35 fun c hc => by
              simp only [List.mem_cons, List.not_mem_nil, or_false] at hc; subst hc
              exact ⟨by omega, fun hk => by have := f28 _ hk; omega⟩
          · exact hJ4 (i + 1, ys) _ _ ⟨wsucc (m := 2 ^ 41) (by omega) (by omega), by simp only; omega, by simp only; omega, ext_chg e33 c35 (f28.ext e24), hO35⟩ (by simp only; omega)
        · rw [if_neg hc]; exact hJ3 _ _ e33
      rintro _ w37 e37
      have z37 := e37.size
      refine Out_ok (hF.ext e37) fun s38 w39 e39 hO38 _ => ⟨kp (by omega) e39, ?_⟩
      have z39 := e39.size
      have e39' := e37.trans e39
      refine Out_ok (hG.ext e39') fun s40 w41 e41 hO40 _ => ⟨kp (by omega) e41, ?_⟩
      have z41 := e41.size
      have e41' := e39'.trans e41
      refine sameE_ok (hO38.ext e41).view hO40.view lE fun w43 e43 => ⟨kp (by omega) e43, ?_⟩
      simp only [Bool.not_true, cond_false]
      have z43 := e43.size
      have e43' := e41'.trans e43
      refine In_ok (hF.ext e43') fun s44 w45 e45 hO44 _ => ⟨kp (by omega) e45, ?_⟩
      have z45 := e45.size
      have e45' := e43'.trans e45
      refine In_ok (hG.ext e45') fun s46 w47 e47 hO46 _ => ⟨kp (by omega) e47, ?_⟩
      have z47 := e47.size
      have e47' := e45'.trans e47
      refine sameE_ok (hO44.ext e47).view hO46.view (inE_len ok v) fun w49 e49 => ⟨kp (by omega) e49, ?_⟩
      simp only [Bool.not_true, cond_false]
      exact hJ2 _ _ (e47'.trans e49)
    · rw [if_neg hvn]
      exact hJ _ _ ⟨e20.trans e24, by omega, .inr ⟨F, G, hF.ext e24, hG.ext e24⟩⟩
  rintro _ w53 ⟨e53, z53, hpq⟩
  rcases hpq with ⟨rfl, rfl⟩ | ⟨F, G, hF, hG⟩
  · refine Print_nil ⟨kp (by omega) (.refl _), ?_⟩
    refine Print_nil ⟨kp (by omega) (.refl _), ?_⟩
    rw [show ((0 : Int) == 0) = true from rfl, cond_true]
    exact known6_ok hcv fun w59 e59 => ⟨kp (by omega) e59, hk w59 (e53.trans e59)⟩
  · refine Print_ok hF fun w55 e55 => ⟨kp (by omega) e55, ?_⟩
    have z55 := e55.size
    refine Print_ok (hG.ext e55) fun w57 e57 => ⟨kp (by omega) e57, ?_⟩
    have z57 := e57.size
    rw [beq_self_eq_true, cond_true]
    exact known6_ok hcv fun w59 e59 => ⟨kp (by omega) e59, hk w59 (((e53.trans e55).trans e57).trans e59)⟩
end Go.Sh
