/- GraphSides. -/
import Derived.Test.YthpbelgmppaafaaGraphLeast
set_option maxRecDepth 100000
namespace Go.Sh
open Go.RowKit

theorem outE_cnt {n : Nat} {arcs : List Arc} {v : Nat} (hv : v < n) : (outE (n : Int) arcs v).length = cnt (sortedL n (keptL arcs) (toA arcs)) (frA arcs) v := by
  unfold outE
  rw [if_pos (by omega), edgeL_len]
  simp only [Int.toNat_natCast]
  rfl
theorem inE_cnt {n : Nat} {arcs : List Arc} {v : Nat} (hv : v < n) : (inE (n : Int) arcs v).length = cnt (sortedL n (keptL arcs) (frA arcs)) (toA arcs) v := by
  unfold inE
  rw [if_pos (by omega), edgeL_len]
  simp only [Int.toNat_natCast]
  rfl
theorem pre_kept {n : Nat} {arcs : List Arc} (ok : OkMap (n : Int) arcs) : pre (sortedL n (keptL arcs) (toA arcs)) (frA arcs) n = (keptL arcs).length ∧ pre (sortedL n (keptL arcs) (frA arcs)) (toA arcs) n = (keptL arcs).length := by
  have p1 := sortedL_perm (l := keptL arcs) (e := toA arcs) (n := n) fun k hk => (ok.to (kept_lt hk)).2
  have p2 := sortedL_perm (l := keptL arcs) (e := frA arcs) (n := n) fun k hk => (ok.fr (kept_lt hk)).2
  constructor
  · rw [pre_all (n := n) fun k hk => (ok.fr (kept_lt (p1.mem_iff.1 hk))).2, p1.length_eq]
  · rw [pre_all (n := n) fun k hk => (ok.to (kept_lt (p2.mem_iff.1 hk))).2, p2.length_eq]

/-- An element's first, second, third. -/
theorem get0 {w : World} {s : SV} {xs : List Arc} (h : View RD w s xs) {i : Nat} (hi : i < xs.length) {x : Int} (hx : xs[i].1 = x) {K : Int → Prop} (hk : K x) : Idx s.a s.len (i : Int) 3 (fun a => ∃ y : Int, w.cell? (a.add 0) = some (.int .i64 y) ∧ K y) :=
  do_idx h hi fun _ a0 _ _ => ⟨_, a0, by rw [hx]; exact hk⟩
theorem get1 {w : World} {s : SV} {xs : List Arc} (h : View RD w s xs) {i : Nat} (hi : i < xs.length) {x : Int} (hx : xs[i].2.1 = x) {K : Int → Prop} (hk : K x) : Idx s.a s.len (i : Int) 3 (fun a => ∃ y : Int, w.cell? (a.add 1) = some (.int .i64 y) ∧ K y) :=
  do_idx h hi fun _ _ a1 _ => ⟨_, a1, by rw [hx]; exact hk⟩
theorem get2 {w : World} {s : SV} {xs : List Arc} (h : View RD w s xs) {i : Nat} (hi : i < xs.length) {x : Int} (hx : xs[i].2.2 = x) {K : Int → Prop} (hk : K x) : Idx s.a s.len (i : Int) 3 (fun a => ∃ y : Int, w.cell? (a.add 2) = some (.int .i64 y) ∧ K y) :=
  do_idx h hi fun _ _ _ a2 => ⟨_, a2, by rw [hx]; exact hk⟩

theorem GraphSides_ok {CV : CVT} (hcv : GraphCV CV) {w : World} {N : Int} {s : SV} {arcs : List Arc} {K : Bool → World → Prop} (h : View RD w s arcs) (hk : ∀ w', Ext w w' → K true w') : sh_postroadlaw06_GraphSides CV N s K w := by
  unfold sh_postroadlaw06_GraphSides
  intro b1 w2 e2 g1 g1'
  have z2 := e2.size
  have hlen := h.len
  refine Small_ok fun b w4 e4 hb => ⟨kp_ext e4 (by (intro b hb; simp only [List.mem_cons, List.not_mem_nil, or_false] at hb; omega)), ?_⟩
  have z4 := e4.size
  have e4' := e2.trans e4
  cases b with
  | false =>
    simp only [Bool.not_false, cond_true]
    exact known6_ok hcv fun w6 e6 => ⟨kp_ext e6 (by (intro b hb; simp only [List.mem_cons, List.not_mem_nil, or_false] at hb; omega)), hk w6 (e4'.trans e6)⟩
  | true =>
  obtain ⟨hs80, _⟩ := hb rfl
  simp only [Bool.not_true, cond_false]
  have kp : ∀ {wa wb}, w4.heap.size ≤ wa.heap.size → Ext wa wb → Keeps [b1] wa wb := fun hz e => kp_ext e (by (intro b hb; simp only [List.mem_cons, List.not_mem_nil, or_false] at hb; omega))
  refine GNew_any hcv (h.ext e4') fun p w8 e8 hp => ⟨kp (Nat.le_refl _) e8, ?_⟩
  have z8 := e8.size
  have e8' := e4'.trans e8
  refine Join.cut (fun (x : Int × Unit) w' => x.1 = 0 ∧ Ext w8 w') (fun J hJ => ?_) ?_
  · rcases hp with rfl | ⟨F, hG⟩
    · refine LoopT.gh (γ := Unit) (fun _ (st : Int × Int × Unit) w' => st.1 = 0 ∧ st.2.1 = 0 ∧ Ext w8 w') (fun _ => 0) () ⟨rfl, rfl, .refl _⟩ ?_
      rintro _ ⟨n, v, _⟩ w12 ⟨hn, hv, e12⟩ J1 _
      simp only at hn hv
      subst hn hv
      have z12 := e12.size
      refine N_nil ⟨kp (by omega) (.refl _), ?_⟩
      rw [show decide ((0 : Int) < 0) = false from rfl, cond_false]
      exact hJ _ _ ⟨rfl, e12⟩
    have ok := hG.ok
    obtain ⟨n, rfl⟩ := Int.eq_ofNat_of_zero_le ok.n0
    have hklen := keptL_len arcs
    obtain ⟨pk1, pk2⟩ := pre_kept ok
    generalize hT : sortedL n (keptL arcs) (toA arcs) = T at pk1
    generalize hT' : sortedL n (keptL arcs) (frA arcs) = T' at pk2
    refine LoopT.gh (γ := Nat) (fun v (st : Int × Int × Unit) w' => st.1 = (pre T (frA arcs) v : Int) - (pre T' (toA arcs) v : Int) ∧ st.2.1 = v ∧ v ≤ n ∧ Ext w8 w') (fun v => n - v) 0 ⟨by simp [pre_zero], rfl, Nat.zero_le _, .refl _⟩ ?_
    rintro v ⟨m, x, _⟩ w12 ⟨hm, hx, hv, e12⟩ J1 hJ1
    simp only at hm hx
    subst hx
    have z12 := e12.size
    have hn1 := ok.n1
    dsimp only
    refine N_ok (hG.ext e12) ⟨kp (by omega) (.refl _), ?_⟩
    rw [Bool.cond_decide]
    by_cases hvn : (v : Int) < (n : Int)
    · rw [if_pos hvn]
      have hvn' : v < n := by omega
      refine Join.cut (fun (x : Int × Unit) w' => x.1 = (pre T (frA arcs) (v + 1) : Int) - (pre T' (toA arcs) (v + 1) : Int) ∧ Ext w8 w') (fun J2 hJ2 => ?_) ?_
      · refine Out_ok (hG.ext e12) fun s16 w17 e17 hO16 _ => ⟨kp (by omega) e17, ?_⟩
        have z17 := e17.size
        have e17' := e12.trans e17
        refine In_ok (hG.ext e17') fun s18 w19 e19 hO18 _ => ⟨kp (by omega) e19, ?_⟩
        have z19 := e19.size
        have e19' := e17'.trans e19
        have hx := hO16.ext e19
        have l16 := hx.view.len
        have l18 := hO18.view.len
        have hpw := outE_pw (n : Int) arcs v
        have c1 := outE_cnt (arcs := arcs) hvn'
        have c2 := inE_cnt (arcs := arcs) hvn'
        rw [hT] at c1; rw [hT'] at c2
        have q1 := pre_lt T (frA arcs) hvn'
        have q2 := pre_lt T' (toA arcs) hvn'
        have q3 := pre_succ T (frA arcs) v
        have q4 := pre_succ T' (toA arcs) v
        refine LoopT.gh (γ := Nat) (fun i (st : Int × Unit) w' => st.1 = i ∧ i ≤ (outE (n : Int) arcs v).length ∧ Ext w19 w') (fun i => (outE (n : Int) arcs v).length - i) 0 ⟨rfl, Nat.zero_le _, .refl _⟩ ?_
        rintro i ⟨x, _⟩ w22 ⟨hx', hi, e22⟩ J3 hJ3
        simp only at hx'; subst hx'
        have z22 := e22.size
        dsimp only
        rw [Bool.cond_decide]
        by_cases hc : (i : Int) < (s16.len : Int)
        · rw [if_pos hc]
          have hi' : i < (outE (n : Int) arcs v).length := by omega
          obtain ⟨k, hkk, hkf, he⟩ := (mem_outE ok).1 (List.getElem_mem hi')
          have hkl := kept_lt hkk
          have hkK := (mem_keptL.1 hkk).2
          have x0 : (outE (n : Int) arcs v)[i].1 = (toA arcs k : Int) := by rw [he]
          have x1 : (outE (n : Int) arcs v)[i].2.1 = wtA arcs k := by rw [he]
          have x2 : (outE (n : Int) arcs v)[i].2.2 = (k : Int) := by rw [he]
          refine Join.cut (fun _ w' => Ext w19 w') (fun J4 hJ4 => ?_) (fun _ w78 e78 => hJ3 (i + 1) _ _ ⟨wsucc (m := 2 ^ 40) (by omega) (by omega), by omega, e78⟩ (by omega))
          refine get2 (hx.ext e22).view hi' x2 ?_
          have e22' := e19'.trans e22
          refine Arc_ok (hG.ext e22') (fun k' hk' hk'l w30 e30 => ⟨kp (by omega) e30, ?_⟩) (fun hno => absurd ⟨by omega, by omega⟩ hno)
          obtain rfl : k = k' := by omega
          intro b31 w32 e32 g31 g31' w33 o33
          have z30 := e30.size; have z32 := e32.size; have z33 := o33.size
          have e33 : Ext w19 w33 := ext_off ((e22.trans e30).trans e32) o33 (by omega)
          have hx33 := (hx.ext e33).view
          refine Join.cut (fun _ w' => Ext w19 w' ∧ w33.heap.size ≤ w'.heap.size) (fun J5 hJ5 => ?_) ?_
          · simp only [Bool.not_true, cond_false]
            rw [show ((arcA arcs k).1 != (v : Int)) = false by rw [bne_eq_false_iff_eq, (ok.fr hkl).1]; exact hkf, cond_false]
            refine get0 hx33 hi' x0 ?_
            rw [show ((arcA arcs k).2.1 != (toA arcs k : Int)) = false by rw [bne_eq_false_iff_eq, (ok.to hkl).1], cond_false]
            refine get1 hx33 hi' x1 ?_
            rw [show ((arcA arcs k).2.2 != wtA arcs k) = false by rw [bne_eq_false_iff_eq]; rfl, cond_false]
            refine get0 hx33 hi' x0 ?_
            rw [show ((toA arcs k : Int) == (v : Int)) = false by rw [beq_eq_false_iff_ne]; intro e; exact hkK.1 (by omega), cond_false]
            rw [Bool.cond_decide]
            by_cases hi0 : (i : Int) > 0
            · rw [if_pos hi0]
              refine get0 hx33 hi' x0 ?_
              rw [show IntKind.i64.wrap ((i : Int) - 1) = ((i - 1 : Nat) : Int) by rw [w64 (by omega) (by omega)]; omega]
              refine get0 hx33 (i := i - 1) (by omega) rfl ?_
              intro w50 e50
              have hlt := List.pairwise_iff_getElem.1 hpw (i - 1) i (by omega) hi' (by omega)
              rw [x0] at hlt
              rw [Bool.cond_decide, if_neg (by omega)]
              exact hJ5 _ _ ⟨e33.trans e50, e50.size⟩
            · rw [if_neg hi0]
              intro w51 e51
              exact hJ5 _ _ ⟨e33.trans e51, e51.size⟩
          rintro _ w53 ⟨e53, z53⟩
          refine get0 (hx.ext e53).view hi' x0 ?_
          refine In_ok (hG.ext (e19'.trans e53)) fun s56 w57 e57 hO56 _ => ⟨kp_ext e57 (by (intro b hb; simp only [List.mem_cons, List.not_mem_nil, or_false] at hb; omega)), ?_⟩
          have z57 := e57.size
          have e57' := e53.trans e57
          have hmem : ((v : Int), wtA arcs k, (k : Int)) ∈ inE (n : Int) arcs (toA arcs k) := (mem_inE ok).2 ⟨k, hkk, rfl, by rw [hkf]⟩
          have lin := inE_len ok (toA arcs k)
          have l56 := hO56.view.len
          generalize hys : inE (n : Int) arcs (toA arcs k) = ys at hO56 hmem lin l56
          refine Join.cut (fun (x : Bool × Unit) w' => x.1 = true ∧ Ext w19 w') (fun J6 hJ6 => ?_) ?_
          · refine LoopT.gh (γ := Nat) (fun j (st : Bool × Int × Unit) w' => st.2.1 = j ∧ j ≤ ys.length ∧ Ext w57 w' ∧ st.1 = decide (((v : Int), wtA arcs k, (k : Int)) ∈ ys.take j)) (fun j => ys.length - j) 0 ⟨rfl, Nat.zero_le _, .refl _, by simp⟩ ?_
            rintro j ⟨fd, y, _⟩ w61 ⟨hy, hj, e61, hfd⟩ J7 hJ7
            simp only at hy hfd; subst hy
            dsimp only
            rw [Bool.cond_decide]
            by_cases hc2 : (j : Int) < (s56.len : Int)
            · rw [if_pos hc2]
              have hj' : j < ys.length := by omega
              refine Join.cut (fun (x : Bool × Unit) w' => Ext w57 w' ∧ x.1 = decide (((v : Int), wtA arcs k, (k : Int)) ∈ ys.take (j + 1))) (fun J8 hJ8 => ?_) (fun x w74 ⟨e74, hx74⟩ => hJ7 (j + 1) _ _ ⟨wsucc (m := 2 ^ 41) (by omega) (by omega), by omega, e74, hx74⟩ (by omega))
              cases fd with
              | true =>
                rw [cond_true]
                intro w63 e63
                refine hJ8 _ _ ⟨e61.trans e63, (decide_eq_true ?_).symm⟩
                rw [take_snoc hj']
                exact List.mem_append_left _ (of_decide_eq_true hfd.symm)
              | false =>
                rw [cond_false]
                refine do_idx (hO56.ext e61).view hj' fun a a0 a1 a2 => ⟨_, a0, _, a1, _, a2, ?_⟩
                have hx61 := (hx.ext (e57'.trans e61)).view
                refine get1 hx61 hi' x1 ?_
                refine get2 hx61 hi' x2 ?_
                intro w72 e72
                refine hJ8 _ _ ⟨e61.trans e72, ?_⟩
                have hnot : ¬ ((v : Int), wtA arcs k, (k : Int)) ∈ ys.take j := of_decide_eq_false hfd.symm
                rw [Bool.eq_iff_iff, decide_eq_true_iff, take_snoc hj', List.mem_append]
                simp only [Bool.and_eq_true, beq_iff_eq, and_true, List.mem_singleton, hnot, false_or]
                constructor
                · rintro ⟨r0, r1, r2⟩; rw [← r0, ← r1, ← r2]
                · intro r; rw [← r]; exact ⟨rfl, rfl, rfl⟩
            · rw [if_neg hc2]
              have : j = ys.length := by omega
              subst this
              rw [List.take_length, decide_eq_true hmem] at hfd
              exact hJ6 _ _ ⟨hfd, e57'.trans e61⟩
          rintro ⟨fd, _⟩ w76 ⟨hfd, e76⟩
          simp only at hfd
          subst hfd
          simp only [Bool.not_true, cond_false]
          exact hJ4 _ _ e76
        · rw [if_neg hc]
          refine hJ2 _ _ ⟨?_, e19'.trans e22⟩
          simp only
          rw [hm, l16, l18, c1, c2, q3, q4]
          have r1 := pre_mono T (frA arcs) (show v + 1 ≤ n by omega)
          have r2 := pre_mono T' (toA arcs) (show v + 1 ≤ n by omega)
          rw [w64 (n := (pre T (frA arcs) v : Int) - (pre T' (toA arcs) v : Int) + (cnt T (frA arcs) v : Int)) (by omega) (by omega), w64 (by omega) (by omega)]
          omega
      · rintro ⟨m', _⟩ w80 ⟨hm', e80⟩
        exact hJ1 (v + 1) _ _ ⟨hm', wsucc (m := 2 ^ 40) (by omega) (by omega), by omega, e80⟩ (by omega)
    · rw [if_neg hvn]
      have : v = n := by omega
      subst this
      exact hJ _ _ ⟨by simp only; rw [hm, pk1, pk2]; omega, e12⟩
  · rintro ⟨m, _⟩ w82 ⟨hm, e82⟩
    simp only at hm
    subst hm
    rw [show ((0 : Int) == 0) = true from rfl, cond_true]
    have z82 := e82.size
    exact known6_ok hcv fun w84 e84 => ⟨kp (by omega) e84, hk w84 ((e8'.trans e82).trans e84)⟩
end Go.Sh
