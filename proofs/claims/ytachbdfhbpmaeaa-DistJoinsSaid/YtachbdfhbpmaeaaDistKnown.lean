/- The reference's answers out of the table; what is known. -/
import Derived.Test.YtachbdfhbpmaeaaDistRef2
set_option maxRecDepth 100000
namespace Go.Sh
open Go.RowKit

section
variable {CV : CVT} {w : World} {N : Int} {s : SV} {arcs : List Arc}

theorem dst_cert {n : Nat} (ok : OkMap (n : Int) arcs) {f : Nat → Int} {s : Nat} (hs : s < n) (hz : f s = 0) (hw : ∀ v, v < n → f v = -1 ∨ Wk (EA arcs) s v (f v)) (hr : Rlx arcs f arcs.length) {v : Nat} (hv : v < n) : dst arcs s v = f v := by
  have key : ∀ v d, Wk (EA arcs) s v d → v < n ∧ 0 ≤ f v ∧ f v ≤ d := by
    intro v d h
    induction h with
    | nil => exact ⟨hs, by omega, by omega⟩
    | snoc _ e ih =>
      obtain ⟨h1, h2, h3⟩ := ih
      obtain ⟨k, hk, q1, q2, q3, _, q5, _⟩ := EA_arc ok e
      have := hr k hk hk (by rw [q1]; exact h2)
      rw [q1, q2, q3] at this
      exact ⟨by omega, this.1, by omega⟩
  refine IsD.uniq (dst_is ok s v) ?_
  rcases hw v hv with e | h
  · exact .inl ⟨e, fun d hd => by have := (key v d hd).2.1; omega⟩
  · exact .inr ⟨h.nonneg (EA_pos ok), h, fun d hd => (key v d hd).2.2⟩

section
variable {t : SV} {svs : List SV} {n : Nat}
theorem rBetween_ok {a b : Int} {K : Int → World → Prop} (hT : TblO w t svs (allL (n : Int) arcs n)) (hk : K (betF (n : Int) arcs a b) w) : sh_postroadref07_Between t a b K w := by
  unfold sh_postroadref07_Between
  have l1 := hT.so.view.len
  have l2 := hT.len
  rw [allL_len] at l2
  have no : ¬ (0 ≤ a ∧ a < (n : Int) ∧ 0 ≤ b ∧ b < (n : Int)) → K (-1) w := fun h => by unfold betF at hk; rw [if_neg h] at hk; exact hk
  rw [Bool.cond_decide]
  split
  · exact no (by omega)
  rw [Bool.cond_decide]
  split
  · exact no (by omega)
  rw [Bool.cond_decide]
  split
  · exact no (by omega)
  rw [Bool.cond_decide]
  split
  · exact no (by omega)
  obtain ⟨i, rfl⟩ := Int.eq_ofNat_of_zero_le (show 0 ≤ a by omega)
  obtain ⟨j, rfl⟩ := Int.eq_ofNat_of_zero_le (show 0 ≤ b by omega)
  refine slot_idx hT.so.view (by omega) fun _ q => ⟨_, q, ?_⟩
  have hrow := hT.row i (by omega) (by rw [allL_len]; omega)
  rw [allL_get, distL_get ⟨by omega, by omega⟩] at hrow
  simp only [Int.toNat_natCast] at hrow
  refine fi_rd hrow.view (by omega) fun _ q => ⟨_, q, ?_⟩
  unfold betF at hk; rw [if_pos (by omega)] at hk
  simp only [Int.toNat_natCast] at hk; exact hk
theorem rBetween_quiet {a b : Int} {K : Int → Prop} (hT : TblO w t svs (allL (n : Int) arcs n)) (hk : K (betF (n : Int) arcs a b)) : Quiet Int (fun r => .int .i64 r) (fun K1 w1 => sh_postroadref07_Between t a b (fun x w2 => K1 x w2) w1) w K :=
  Quiet.mk _ (fun _ e _ hK => rBetween_ok (hT.ext e) (hK _ (.refl _))) hk
theorem rFrom_ok {a : Int} {K : SV → World → Prop} (hT : TblO w t svs (allL (n : Int) arcs n)) (hk : ∀ r, Own RI w r (distL (n : Int) arcs a) → (∀ k, r.blk k → k < w.heap.size) → K r w) : sh_postroadref07_From t a K w := by
  unfold sh_postroadref07_From
  have l1 := hT.so.view.len
  have l2 := hT.len
  rw [allL_len] at l2
  have no : ¬ (0 ≤ a ∧ a < (n : Int)) → K ⟨none, 0, 0⟩ w := fun h => hk _ (by rw [distL_no h]; exact Own.nil) fun k ⟨q, hq, _⟩ => by cases hq
  rw [Bool.cond_decide]
  split
  · exact no (by omega)
  rw [Bool.cond_decide]
  split
  · exact no (by omega)
  obtain ⟨i, rfl⟩ := Int.eq_ofNat_of_zero_le (show 0 ≤ a by omega)
  refine slot_idx hT.so.view (by omega) fun _ q => ⟨_, q, ?_⟩
  have hrow := hT.row i (by omega) (by rw [allL_len]; omega)
  rw [allL_get] at hrow
  exact hk _ hrow fun k h => hrow.lt h
theorem rTo_ok {a : Int} {K : SV → World → Prop} (hn : n ≤ 4096) (hT : TblO w t svs (allL (n : Int) arcs n)) (hk : ∀ r w', Ext w w' → Own RI w' r (toL (n : Int) arcs a) → K r w') : sh_postroadref07_To t a K w := by
  unfold sh_postroadref07_To
  have l1 := hT.so.view.len
  have l2 := hT.len
  rw [allL_len] at l2
  have no : ¬ (0 ≤ a ∧ a < (n : Int)) → K ⟨none, 0, 0⟩ w := fun h => hk _ w (.refl _) (by unfold toL; rw [if_neg h]; exact Own.nil)
  rw [Bool.cond_decide]
  split
  · exact no (by omega)
  rw [Bool.cond_decide]
  split
  · exact no (by omega)
  obtain ⟨i, rfl⟩ := Int.eq_ofNat_of_zero_le (show 0 ≤ a by omega)
  have hi : i < n := by omega
  refine LoopT.gh (γ := Nat) (fun j (st : SV × Int × Unit) w' => st.2.1 = j ∧ j ≤ n ∧ Ext w w' ∧ w.heap.size ≤ w'.heap.size ∧ Own RI w' st.1 (fi j fun v => dst arcs v i) ∧ Fsh w st.1) (fun j => n - j) 0 ⟨rfl, Nat.zero_le _, .refl _, Nat.le_refl _, Own.nil, fsh_nil⟩ ?_
  rintro j ⟨r, x, _⟩ w3 ⟨hx, hj, e3, z3, hO, fO⟩ J1 hJ1
  simp only at hx hO fO; subst hx
  dsimp only
  rw [Bool.cond_decide]
  by_cases hc : (j : Int) < (t.len : Int)
  · rw [if_pos hc]
    have hT3 := hT.ext e3
    refine slot_idx hT3.so.view (by omega) fun _ q => ⟨_, q, ?_⟩
    have hrow := hT3.row j (by omega) (by rw [allL_len]; omega)
    rw [allL_get, distL_get ⟨by omega, by omega⟩] at hrow
    simp only [Int.toNat_natCast] at hrow
    refine fi_rd hrow.view hi fun _ q => ⟨_, q, ?_⟩
    refine push_ok (R := RI) (x := dst arcs j i) hO (by rw [fi_len]; omega) (by rw [fi_len]; omega) fun w9 s10 w11 e9 c11 hs10 hO11 => ?_
    have z9 := e9.size; have z11 := c11.size
    refine hJ1 (j + 1) _ _ ⟨wsucc (m := 2 ^ 40) (by omega) (by omega), by omega, ext_chg (e3.trans e9) c11 fO, by omega, ?_, fun k hk => (hs10 k hk).elim (fO k) fun h => Nat.le_trans z3 h⟩ (by omega)
    have e1 : fi (j + 1) (fun v => dst arcs v i) = fi j (fun v => dst arcs v i) ++ [dst arcs j i] := by simp [fi, List.range_succ]
    rw [e1]; exact hO11
  · rw [if_neg hc]
    have : j = n := by omega
    subst this
    refine hk r w3 e3 ?_
    rw [toL_get ⟨by omega, by omega⟩]
    simp only [Int.toNat_natCast]; exact hO
theorem rAround_ok {a most : Int} {K : SV → World → Prop} (ok : OkMap (n : Int) arcs) (hn : n ≤ 4096) (hT : TblO w t svs (allL (n : Int) arcs n)) (hk : ∀ r w', Ext w w' → Own RI w' r (nearL (distL (n : Int) arcs a) most (distL (n : Int) arcs a).length) → K r w') : sh_postroadref07_Around t a most K w := by
  unfold sh_postroadref07_Around
  refine rFrom_ok hT fun r hO hlt => ?_
  have hl := hO.view.len
  have hlen : (distL (n : Int) arcs a).length ≤ 4096 := by
    by_cases hs : 0 ≤ a ∧ a < (n : Int)
    · rw [distL_len hs]; omega
    · rw [distL_no hs]; simp
  generalize distL (n : Int) arcs a = row at *
  refine LoopT.gh (γ := Nat) (fun i (st : SV × Int × Unit) w' => st.2.1 = i ∧ i ≤ row.length ∧ Ext w w' ∧ w.heap.size ≤ w'.heap.size ∧ Own RI w' r row ∧ Own RI w' st.1 (nearL row most i) ∧ Fsh w st.1) (fun i => row.length - i) 0 ⟨rfl, Nat.zero_le _, .refl _, Nat.le_refl _, hO, Own.nil, fsh_nil⟩ ?_
  rintro i ⟨q, x, _⟩ w5 ⟨hx, hi, e5, z5, hO5, hQ, fQ⟩ J1 hJ1
  simp only at hx hQ fQ; subst hx
  dsimp only
  rw [Bool.cond_decide]
  by_cases hc : (i : Int) < (r.len : Int)
  · rw [if_pos hc]
    have hi' : i < row.length := by omega
    have hsn := nearL_snoc row most i
    rw [getD_at hi'] at hsn
    have hnl := nearL_len row most i
    refine Join.cut (fun (x : SV × Unit) w' => Ext w w' ∧ w.heap.size ≤ w'.heap.size ∧ Own RI w' r row ∧ Own RI w' x.1 (nearL row most (i + 1)) ∧ Fsh w x.1) (fun J2 hJ2 => ?_) (fun x w' ⟨q1, q2, q3, q4, q5⟩ => hJ1 (i + 1) _ _ ⟨wsucc (m := 2 ^ 40) (by omega) (by omega), by omega, q1, q2, q3, q4, q5⟩ (by omega))
    refine int_idx hO5.view hi' fun _ q => ⟨_, q, ?_⟩
    rw [Bool.cond_decide]
    by_cases h1 : row[i] ≥ 0
    · rw [if_pos h1]
      refine int_idx hO5.view hi' fun _ q => ⟨_, q, ?_⟩
      rw [Bool.cond_decide]
      by_cases h2 : row[i] ≤ most
      · rw [if_pos h2]
        rw [if_pos ⟨h1, h2⟩] at hsn
        refine push_ok (R := RI) (x := (i : Int)) hQ (by omega) (by omega) fun w9 s10 w11 e9 c11 hs10 hO11 => ?_
        have z9 := e9.size; have z11 := c11.size
        refine hJ2 _ _ ⟨ext_chg (e5.trans e9) c11 fQ, by omega, (hO5.ext e9).chg c11 fun k a b => by have := fQ k b; have := hlt k a; omega, by rw [hsn]; exact hO11, fun k hk => (hs10 k hk).elim (fQ k) fun h => Nat.le_trans z5 h⟩
      · rw [if_neg h2]
        rw [if_neg (fun h => h2 h.2)] at hsn
        exact hJ2 _ _ ⟨e5, z5, hO5, by rw [hsn]; exact hQ, fQ⟩
    · rw [if_neg h1]
      rw [if_neg (fun h => h1 h.1)] at hsn
      exact hJ2 _ _ ⟨e5, z5, hO5, by rw [hsn]; exact hQ, fQ⟩
  · rw [if_neg hc]
    have : i = row.length := by omega
    subst this
    exact hk q w5 e5 hQ
end

def exA : List Arc := [(0, 1, 5), (1, 2, 1), (0, 2, 9)]
theorem exA_ok : OkMap ((3 : Nat) : Int) exA := by
  refine ⟨by decide, by decide, by decide, fun a ha => ?_⟩
  unfold exA at ha
  simp only [List.mem_cons, List.not_mem_nil, or_false] at ha
  unfold OkArc
  rcases ha with rfl | rfl | rfl <;> decide
def exF (v : Nat) : Int := match v with | 0 => 0 | 1 => 5 | _ => 6
theorem exA_from : distL 3 exA 0 = [0, 5, 6] := by
  have key : ∀ v, v < 3 → dst exA 0 v = exF v := fun v hv => dst_cert exA_ok (f := exF) (s := 0) (by decide) rfl (fun v hv => .inr ?_) (fun k _ hk _ => ?_) hv
  · rw [distL_get (by decide)]
    show fi 3 (fun v => dst exA 0 v) = [0, 5, 6]
    rw [fi_congr key]; rfl
  · match v, hv with
    | 0, _ => exact .nil
    | 1, _ => exact Wk.edge ⟨0, rfl⟩
    | 2, _ => exact (Wk.edge (E := EA exA) (s := 0) (v := 1) (x := 5) ⟨0, rfl⟩).snoc (x := 1) ⟨1, rfl⟩
  · match k, hk with
    | 0, _ => decide
    | 1, _ => decide
    | 2, _ => decide
theorem exA_to : toL 3 exA 0 = [0, -1, -1] := by
  have k0 := dst_self exA_ok 0
  have k1 : dst exA 1 0 = -1 := dst_cert exA_ok (f := fun v => match v with | 0 => -1 | 1 => 0 | _ => 1) (s := 1) (by decide) rfl (fun v hv => by
    match v, hv with
    | 0, _ => exact .inl rfl
    | 1, _ => exact .inr .nil
    | 2, _ => exact .inr (Wk.edge ⟨1, rfl⟩)) (fun k _ hk _ => by
    match k, hk with
    | 0, _ => revert ‹_›; decide
    | 1, _ => decide
    | 2, _ => revert ‹_›; decide) (v := 0) (by decide)
  have k2 : dst exA 2 0 = -1 := dst_cert exA_ok (f := fun v => match v with | 0 => -1 | 1 => -1 | _ => 0) (s := 2) (by decide) rfl (fun v hv => by
    match v, hv with
    | 0, _ => exact .inl rfl
    | 1, _ => exact .inl rfl
    | 2, _ => exact .inr .nil) (fun k _ hk _ => by
    match k, hk with
    | 0, _ => revert ‹_›; decide
    | 1, _ => revert ‹_›; decide
    | 2, _ => revert ‹_›; decide) (v := 0) (by decide)
  rw [toL_get (by decide)]
  show [dst exA 0 0, dst exA 1 0, dst exA 2 0] = [0, -1, -1]
  rw [k0, k1, k2]

theorem known7_ok (hcv : DistCV CV) {K : Bool → World → Prop} (hk : ∀ w', Ext w w' → K true w') : sh_postroadlaw07_known CV K w := by
  unfold sh_postroadlaw07_known
  intro b1 w2 e2 g1 hB
  have hv : View RD w2 ⟨some ⟨b1, 0, none⟩, 3, 3⟩ exA := View.all (R := RD) (xs := exA) hB
  refine GNew_ok hcv.g hv (fun ok p w4 F e4 hG hF => ?_) (fun hn => absurd exA_ok hn)
  refine From_ok hcv hG fun s5 w6 e6 hO5 _ => ?_
  rw [exA_from] at hO5
  intro b7 w8 e8 g7 hB7
  refine sameI_ok (xs := [0, 5, 6]) (hO5.ext e8).view (View.all (R := RI) (xs := [0, 5, 6]) hB7) (by decide) fun w10 e10 => ?_
  rw [cond_true]
  refine To_ok hcv (((hG.ext e6).ext e8).ext e10) fun s11 w12 e12 hO11 _ => ?_
  rw [exA_to] at hO11
  intro b13 w14 e14 g13 hB13
  refine sameI_ok (xs := [0, -1, -1]) (hO11.ext e14).view (View.all (R := RI) (xs := [0, -1, -1]) hB13) (by decide) fun w16 e16 => ?_
  exact hk w16 (((((((e2.trans e4).trans e6).trans e8).trans e10).trans e12).trans e14).trans e16)
end
end Go.Sh
