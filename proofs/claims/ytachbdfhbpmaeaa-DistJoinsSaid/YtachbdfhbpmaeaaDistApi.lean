/- dist's functions. -/
import Derived.Test.YtachbdfhbpmaeaaDistLeast
import Derived.Test.YtachbdfhbpmaeaaDistSum
set_option maxRecDepth 100000
namespace Go.Sh
open Go.RowKit

/-- What is known of the function values. -/
structure DistCV (CV : CVT) : Prop where
  g : GraphCV CV
  out : ∀ p v K w, sh_graph_Graph_Out p v (fun r w' => K (.slice r.a r.len r.cap) w') w → CV (.func (.func fn_graph_Graph_Out) #[.pointer p] #[]) [.int .i64 v] K w
  inn : ∀ p v K w, sh_graph_Graph_In p v (fun r w' => K (.slice r.a r.len r.cap) w') w → CV (.func (.func fn_graph_Graph_In) #[.pointer p] #[]) [.int .i64 v] K w

section
variable {CV : CVT} {w : World} {p : Option Addr} {N : Int} {arcs : List Arc} {F : Nat → Prop}

theorem edOk_out (ok : OkMap N arcs) {n : Nat} (hn : N = (n : Int)) : EdOk n 2147483648 fun u => outE N arcs (u : Int) := by
  have h1 := ok.n1
  refine ⟨by decide, by omega, by omega, fun u hu e he => ?_, fun u _ => outE_len ok _⟩
  obtain ⟨v, q1, q2, _⟩ := outE_EA ok he
  obtain ⟨_, _, _, _, _, a1, a2, a3, a4⟩ := EA_arc ok q2
  omega
theorem edOk_in (ok : OkMap N arcs) {n : Nat} (hn : N = (n : Int)) : EdOk n 2147483648 fun u => inE N arcs (u : Int) := by
  have := edOk_out (ok_turn ok) hn
  rw [show (fun u : Nat => outE N (arcs.map turn) (u : Int)) = fun u : Nat => inE N arcs (u : Int) from funext fun u => outE_turn _ _ _] at this
  exact this

theorem least_no {n s : Int} {f0 : Value} {K : SV → World → Prop} (h : ¬ (0 ≤ s ∧ s < n)) (hk : K ⟨none, 0, 0⟩ w) : sh_dist_least CV n s f0 K w := by
  unfold sh_dist_least
  rw [Bool.cond_decide]
  split
  · exact hk
  · rw [Bool.cond_decide, if_pos (by omega)]; exact hk

theorem From_ok (hcv : DistCV CV) {s : Int} {K : SV → World → Prop} (h : GraphA w p N arcs F) (hk : ∀ t w', Ext w w' → Own RI w' t (distL N arcs s) → Fsh w t → K t w') : sh_dist_From CV p s K w := by
  unfold sh_dist_From
  refine N_ok h ?_
  have ok := h.ok
  by_cases hs : 0 ≤ s ∧ s < N
  · obtain ⟨n, hn⟩ := Int.eq_ofNat_of_zero_le ok.n0
    obtain ⟨u, hu⟩ := Int.eq_ofNat_of_zero_le hs.1
    subst hn hu
    refine least_ok (edOk_out ok rfl) (by omega) (fun v hv w' e K' hK' => ?_) fun t f w' e hO hF hf => hk t w' e ?_ hF
    · exact hcv.out _ _ _ _ (Out_ok (h.ext e) fun t w'' e' hO hF => hK' t w'' e' hO hF)
    · unfold distL
      rw [if_pos hs]
      simp only [Int.toNat_natCast]
      exact (congrArg (Own RI w' t) (fi_congr fun j hj => isD_out ok rfl (hf j hj))).mp hO
  · refine least_no hs (hk _ w (.refl _) ?_ fsh_nil)
    unfold distL; rw [if_neg hs]; exact Own.nil
theorem From_nil {s : Int} {K : SV → World → Prop} (hk : K ⟨none, 0, 0⟩ w) : sh_dist_From CV none s K w := by
  unfold sh_dist_From
  exact N_nil (least_no (by omega) hk)
theorem To_ok (hcv : DistCV CV) {s : Int} {K : SV → World → Prop} (h : GraphA w p N arcs F) (hk : ∀ t w', Ext w w' → Own RI w' t (toL N arcs s) → Fsh w t → K t w') : sh_dist_To CV p s K w := by
  unfold sh_dist_To
  refine N_ok h ?_
  have ok := h.ok
  by_cases hs : 0 ≤ s ∧ s < N
  · obtain ⟨n, hn⟩ := Int.eq_ofNat_of_zero_le ok.n0
    obtain ⟨u, hu⟩ := Int.eq_ofNat_of_zero_le hs.1
    subst hn hu
    refine least_ok (edOk_in ok rfl) (by omega) (fun v hv w' e K' hK' => ?_) fun t f w' e hO hF hf => hk t w' e ?_ hF
    · exact hcv.inn _ _ _ _ (In_ok (h.ext e) fun t w'' e' hO hF => hK' t w'' e' hO hF)
    · rw [← toL_turn ok]
      unfold distL
      rw [if_pos hs]
      simp only [Int.toNat_natCast]
      refine (congrArg (Own RI w' t) (fi_congr fun j hj => isD_out (ok_turn ok) rfl ?_)).mp hO
      rw [show (fun u : Nat => outE (n : Int) (arcs.map turn) (u : Int)) = fun u : Nat => inE (n : Int) arcs (u : Int) from funext fun u => outE_turn _ _ _]
      exact hf j hj
  · refine least_no hs (hk _ w (.refl _) ?_ fsh_nil)
    unfold toL; rw [if_neg hs]; exact Own.nil
theorem To_nil {s : Int} {K : SV → World → Prop} (hk : K ⟨none, 0, 0⟩ w) : sh_dist_To CV none s K w := by
  unfold sh_dist_To
  exact N_nil (least_no (by omega) hk)

theorem distL_len {s : Int} (h : 0 ≤ s ∧ s < N) : (distL N arcs s).length = N.toNat := by unfold distL; rw [if_pos h, fi_len]
theorem distL_get {s : Int} (h : 0 ≤ s ∧ s < N) : distL N arcs s = fi N.toNat fun v => dst arcs s.toNat v := by unfold distL; rw [if_pos h]
theorem distL_no {s : Int} (h : ¬ (0 ≤ s ∧ s < N)) : distL N arcs s = [] := by unfold distL; rw [if_neg h]
theorem toL_get {s : Int} (h : 0 ≤ s ∧ s < N) : toL N arcs s = fi N.toNat fun v => dst arcs v s.toNat := by unfold toL; rw [if_pos h]

theorem Between_ok (hcv : DistCV CV) {s t : Int} {K : Int → World → Prop} (h : GraphA w p N arcs F) (hk : ∀ w', Ext w w' → K (betF N arcs s t) w') : sh_dist_Between CV p s t K w := by
  unfold sh_dist_Between
  refine From_ok hcv h fun r w2 e2 hO _ => ?_
  have hl := hO.view.len
  have := hk w2 e2
  rw [Bool.cond_decide]
  split
  · unfold betF at this; rw [if_neg (by omega)] at this; exact this
  rw [Bool.cond_decide]
  by_cases hs : 0 ≤ s ∧ s < N
  · rw [distL_len hs] at hl
    split
    · unfold betF at this; rw [if_neg (by omega)] at this; exact this
    · unfold betF at this; rw [if_pos (by omega)] at this
      obtain ⟨u, rfl⟩ := Int.eq_ofNat_of_zero_le (show 0 ≤ t by omega)
      rw [distL_get hs] at hO
      refine fi_rd hO.view (by omega) fun _ q => ⟨_, q, ?_⟩
      rw [Int.toNat_natCast] at this; exact this
  · rw [distL_no hs, List.length_nil] at hl
    rw [if_pos (by omega)]
    unfold betF at this; rw [if_neg (by omega)] at this; exact this
theorem Between_nil {s t : Int} {K : Int → World → Prop} (hk : K (-1) w) : sh_dist_Between CV none s t K w := by
  unfold sh_dist_Between
  refine From_nil ?_
  rw [Bool.cond_decide]
  split
  · exact hk
  · rw [Bool.cond_decide, if_pos (by show t ≥ ((0 : Nat) : Int); omega)]; exact hk

/-- The places that are near, of a row. -/
def nearL (row : List Int) (most : Int) (i : Nat) : List Int := ((List.range i).filter fun v => decide (0 ≤ row.getD v (-1) ∧ row.getD v (-1) ≤ most)).map (fun (v : Nat) => (v : Int))
theorem nearL_snoc (row : List Int) (most : Int) (i : Nat) : nearL row most (i + 1) = if 0 ≤ row.getD i (-1) ∧ row.getD i (-1) ≤ most then nearL row most i ++ [(i : Int)] else nearL row most i := by
  unfold nearL
  rw [List.range_succ, List.filter_append, List.map_append]
  by_cases h : 0 ≤ row.getD i (-1) ∧ row.getD i (-1) ≤ most
  · rw [if_pos h, List.filter_cons_of_pos (by simpa using h)]; rfl
  · rw [if_neg h, List.filter_cons_of_neg (by simpa using h)]; simp
theorem nearL_len (row : List Int) (most : Int) (i : Nat) : (nearL row most i).length ≤ i := by
  unfold nearL
  rw [List.length_map]
  have := List.length_filter_le (fun v => decide (0 ≤ row.getD v (-1) ∧ row.getD v (-1) ≤ most)) (List.range i)
  rw [List.length_range] at this; exact this
theorem getD_at {l : List Int} {i : Nat} (h : i < l.length) : l.getD i (-1) = l[i] := by rw [List.getD_eq_getElem?_getD, List.getElem?_eq_getElem h]; rfl

theorem Around_ok (hcv : DistCV CV) {s most : Int} {K : SV → World → Prop} (h : GraphA w p N arcs F) (hk : ∀ t w', Ext w w' → Own RI w' t (nearL (distL N arcs s) most (distL N arcs s).length) → Fsh w t → K t w') : sh_dist_Around CV p s most K w := by
  unfold sh_dist_Around
  refine From_ok hcv h fun r w2 e2 hO fr => ?_
  have hl := hO.view.len
  have ok := h.ok
  have hn1 := ok.n1
  have hneg : ∀ i (hi : i < (distL N arcs s).length), (distL N arcs s)[i] = -1 ∨ 0 ≤ (distL N arcs s)[i] := fun i hi => by
    by_cases hs : 0 ≤ s ∧ s < N
    · have := dst_ge ok s.toNat i
      simp only [distL_get hs, fi_get]; exact this
    · rw [distL_no hs] at hi; simp at hi
  have hlen : (distL N arcs s).length < 2 ^ 30 := by
    by_cases hs : 0 ≤ s ∧ s < N
    · rw [distL_len hs]; omega
    · rw [distL_no hs]; simp
  generalize distL N arcs s = row at *
  refine LoopT.gh (γ := Nat) (fun i (st : SV × Int × Unit) w' => st.2.1 = i ∧ i ≤ row.length ∧ Ext w w' ∧ w2.heap.size ≤ w'.heap.size ∧ Own RI w' r row ∧ Own RI w' st.1 (nearL row most i) ∧ Fsh w2 st.1) (fun i => row.length - i) 0 ⟨rfl, Nat.zero_le _, e2, Nat.le_refl _, hO, Own.nil, fsh_nil⟩ ?_
  rintro i ⟨t, x, _⟩ w5 ⟨hx, hi, e5, z25, hO5, hT, fT⟩ J1 hJ1
  simp only at hx hT fT; subst hx
  dsimp only
  have z5 := e5.size
  rw [Bool.cond_decide]
  by_cases hc : (i : Int) < (r.len : Int)
  · rw [if_pos hc]
    have hi' : i < row.length := by omega
    have hsn := nearL_snoc row most i
    rw [getD_at hi'] at hsn
    have hnl := nearL_len row most i
    refine int_idx hO5.view hi' fun _ q => ⟨_, q, ?_⟩
    by_cases h1 : row[i] = -1
    · rw [show (row[i] != -1) = false by simpa using h1, cond_false]
      rw [if_neg (by omega)] at hsn
      exact hJ1 (i + 1) _ _ ⟨wsucc (m := 2 ^ 40) (by omega) (by omega), by omega, e5, z25, hO5, by rw [hsn]; exact hT, fT⟩ (by omega)
    · rw [show (row[i] != -1) = true by simpa using h1, cond_true, Bool.cond_decide]
      have h2 := hneg i hi'
      by_cases h3 : row[i] ≤ most
      · rw [if_pos h3]
        rw [if_pos (by omega)] at hsn
        refine push_ok (R := RI) (x := (i : Int)) hT (by omega) (by omega) fun w9 s10 w11 e9 c11 hs10 hO11 => ?_
        have z9 := e9.size; have z11 := c11.size
        refine hJ1 (i + 1) _ _ ⟨wsucc (m := 2 ^ 40) (by omega) (by omega), by omega, ext_chg (e5.trans e9) c11 (fT.ext e2), by omega, (hO5.ext e9).chg c11 fun k a b => ?_, by rw [hsn]; exact hO11, fun k hk => ?_⟩ (by omega)
        · have := fT k b; have := hO.lt a; omega
        · rcases hs10 k hk with h' | h'
          · exact fT k h'
          · omega
      · rw [if_neg h3]
        rw [if_neg (by omega)] at hsn
        exact hJ1 (i + 1) _ _ ⟨wsucc (m := 2 ^ 40) (by omega) (by omega), by omega, e5, z25, hO5, by rw [hsn]; exact hT, fT⟩ (by omega)
  · rw [if_neg hc]
    have : i = row.length := by omega
    subst this
    exact hk t w5 e5 hT (fT.ext e2)
end
end Go.Sh
