/- What the laws of the graph lean on. -/
import Derived.Test.YtoomennincfkgaaGraphApi
set_option maxRecDepth 100000
namespace Go.Sh
open Go.RowKit

section
variable {w : World}

theorem sameE_ok {a b : SV} {xs : List Arc} {K : Bool → World → Prop} (ha : View RD w a xs) (hb : View RD w b xs) (hn : xs.length < 2 ^ 40) (hk : ∀ w', Ext w w' → K true w') : sh_postroadref06_SameEdges a b K w := by
  unfold sh_postroadref06_SameEdges
  have la := ha.len; have lb := hb.len
  rw [show ((a.len : Int) != (b.len : Int)) = false by rw [bne_eq_false_iff_eq]; omega, cond_false]
  refine LoopT.gh (γ := Nat) (fun i (st : Int × Unit) w' => st.1 = i ∧ i ≤ xs.length ∧ Ext w w') (fun i => xs.length - i) 0 ⟨rfl, Nat.zero_le _, .refl _⟩ ?_
  rintro i ⟨x, _⟩ w3 ⟨hx, hi, e3⟩ J1 hJ1
  simp only at hx; subst hx
  rw [Bool.cond_decide]
  by_cases hc : (i : Int) < (a.len : Int)
  · rw [if_pos hc]
    have hi' : i < xs.length := by omega
    refine do_idx (ha.ext e3) hi' fun _ a0 a1 a2 => ⟨_, a0, _, a1, _, a2, ?_⟩
    refine do_idx (hb.ext e3) hi' fun _ a0 a1 a2 => ⟨_, a0, _, a1, _, a2, ?_⟩
    intro w12 e12
    simp only [beq_self_eq_true, Bool.and_self, Bool.not_true, cond_false]
    exact hJ1 (i + 1) _ _ ⟨wsucc (m := 2 ^ 40) (by omega) (by omega), by omega, e3.trans e12⟩ (by omega)
  · rw [if_neg hc]; exact hk w3 e3

def partF (x n : Int) : Int := if x.tmod n < 0 then IntKind.i64.wrap (x.tmod n + n) else x.tmod n
theorem part_eq {x n : Int} {K : Int → World → Prop} (h0 : 0 < n) : sh_postroadref06_part x n K w = K (partF x n) w := by
  unfold sh_postroadref06_part partF
  rw [if_neg (by omega), Bool.cond_decide]
  split <;> rfl
theorem partF_ok (x : Int) {n : Int} (h0 : 0 < n) (h1 : n ≤ 2147483649) : 0 ≤ partF x n ∧ partF x n < n := by
  unfold partF
  have hlt := Int.tmod_lt_of_pos x h0
  have hgt : -n < x.tmod n := by
    have := Int.tmod_lt_of_pos (-x) h0
    rw [Int.neg_tmod] at this; omega
  split
  · rw [w64 (by omega) (by omega)]; omega
  · omega
theorem part_quiet {x n : Int} {K : Int → Prop} (h0 : 0 < n) (hk : K (partF x n)) :
    Quiet Int (fun r => .int .i64 r) (fun K19 w20' => sh_postroadref06_part x n (fun x17 w20 => K19 x17 w20) w20') w K :=
  Quiet.mk (partF x n) (fun w' _ _ hK' => by rw [part_eq h0]; exact hK' w' (.refl _)) hk

def clampF (n : Int) : Int := if (if (12 : Int) < n then (12 : Int) else n) > (1 : Int) then (if (12 : Int) < n then (12 : Int) else n) else (1 : Int)
theorem clampF_ok (n : Int) : 1 ≤ clampF n ∧ clampF n ≤ 12 := by
  unfold clampF
  by_cases h : (12 : Int) < n
  · rw [if_pos h]; decide
  · rw [if_neg h]; split <;> omega

theorem Of_ok {n0 : Int} {s : SV} {as : List Arc} {K : Int → SV → World → Prop} (h : View RD w s as)
    (hk : ∀ n t w' arcs, Ext w w' → 1 ≤ n → n ≤ 12 → OkMap n arcs → arcs.length ≤ 40 → Own RD w' t arcs → Fsh w t → K n t w') : sh_postroadref06_Of n0 s K w := by
  unfold sh_postroadref06_Of
  intro b1 w2 e2 g1 g1' b3 w4 e4 g3 g3' w5 o5
  have z2 := e2.size; have z4 := e4.size; have z5 := o5.size
  obtain ⟨hc1, hc2⟩ := clampF_ok n0
  unfold clampF at hc1 hc2
  generalize (if (if (12 : Int) < n0 then (12 : Int) else n0) > (1 : Int) then (if (12 : Int) < n0 then (12 : Int) else n0) else (1 : Int)) = n at hc1 hc2 ⊢
  have e5 : Ext w w5 := ext_off (e2.trans e4) o5 (by omega)
  have hl := h.len
  refine Join.cut (fun (x : (Int × SV × Unit) × Unit) w' => Ext w w' ∧ x.1.1 = n ∧ ∃ arcs, OkMap n arcs ∧ arcs.length ≤ 40 ∧ Own RD w' x.1.2.1 arcs ∧ Fsh w5 x.1.2.1) (fun J hJ => ?_) ?_
  · refine LoopT.gh (γ := Nat × List Arc) (fun gh (st : Int × (Int × SV × Unit) × Unit) w' => st.1 = gh.1 ∧ gh.1 ≤ 40 ∧ gh.1 = gh.2.length ∧ Ext w w' ∧ w5.heap.size ≤ w'.heap.size ∧ st.2.1.1 = n ∧ OkMap n gh.2 ∧ Own RD w' st.2.1.2.1 gh.2 ∧ Fsh w5 st.2.1.2.1) (fun gh => 40 - gh.1) (0, [])
      ⟨rfl, Nat.zero_le _, rfl, e5, Nat.le_refl _, rfl, ⟨by omega, by omega, by simp, fun a ha => by simp at ha⟩, Own.nil, fsh_nil⟩ ?_
    rintro ⟨i, arcs⟩ ⟨x, ⟨m, t, _⟩, _⟩ w9 ⟨hx, hi, hia, e9, z9, hm, ok, hO, hF⟩ J1 hJ1
    simp only at hx hi hia hm ok hO hF
    subst hx hm
    rw [Bool.cond_decide]
    by_cases hc : (i : Int) < (s.len : Int)
    · rw [if_pos hc, Bool.cond_decide]
      by_cases hc40 : (i : Int) < 40
      · rw [if_pos hc40]
        have hi' : i < as.length := by omega
        refine do_idx (h.ext e9) hi' fun a a0 a1 a2 => ⟨_, a0, _, a1, _, a2, ?_⟩
        intro b14 w15 e15 g14 g14' w16 o16
        have z15 := e15.size; have z16 := o16.size
        refine part_quiet (by omega) (part_quiet (by omega) (part_quiet (by omega) ?_))
        intro w29 e29 b30 w31 e31 g30 hB w32 e32
        have z29 := e29.size; have z31 := e31.size; have z32 := e32.size
        have n14 : ¬ t.blk b14 := fun hk => by have := hO.lt hk; omega
        have hO32 := ((((hO.ext e15).off o16 n14).ext e29).ext e31).ext e32
        refine Own.app (R := RD) hO32 (View.one (R := RD) (x := (partF as[i].1 m, partF as[i].2.1 m, partF as[i].2.2 2147483649)) (e32.blkE hB)) (by simp only [List.length_cons, List.length_nil]; omega) (by simp only [List.length_cons, List.length_nil]; omega) fun s33 w34 c34 hs hO34 => ?_
        have z34 := c34.size
        refine ⟨kp_chg c34 fun c hc => ?_, ?_⟩
        · simp only [List.mem_cons, List.not_mem_nil, or_false] at hc
          exact ⟨by omega, fun hk => by have := hF c hk; have := hO.lt hk; omega⟩
        intro w35 e35 w36 o36 w37 e37
        have z35 := e35.size; have z36 := o36.size; have z37 := e37.size
        have hF33 : Fsh w5 s33 := fun k hk => by
          rcases hs k hk with h' | h'
          · exact hF k h'
          · omega
        have e32' : Ext w w32 := (((ext_off (e9.trans e15) o16 (by have := e9.size; omega)).trans e29).trans e31).trans e32
        have e37' : Ext w w37 := (ext_off ((ext_chg e32' c34 (hF.ext e5)).trans e35) o36 (by omega)).trans e37
        have p1 := partF_ok as[i].1 (n := m) (by omega) (by omega)
        have p2 := partF_ok as[i].2.1 (n := m) (by omega) (by omega)
        have p3 := partF_ok as[i].2.2 (n := 2147483649) (by omega) (by omega)
        refine hJ1 (i + 1, arcs ++ [(partF as[i].1 m, partF as[i].2.1 m, partF as[i].2.2 2147483649)]) _ _ ⟨wsucc (m := 2 ^ 40) (by omega) (by omega), by simp only; omega, by simp; omega, e37', by omega, rfl, ?_, ?_, hF33⟩ (by simp only; omega)
        · refine ⟨ok.n0, ok.n1, by simp; omega, fun a ha => ?_⟩
          rcases List.mem_append.1 ha with ha | ha
          · exact ok.arc a ha
          · simp at ha; subst ha
            unfold OkArc; simp only; omega
        · exact ((hO34.ext e35).off o36 fun hk => by have := hF33 _ hk; omega).ext e37
      · rw [if_neg hc40]
        exact hJ _ _ ⟨e9, rfl, arcs, ok, by omega, hO, hF⟩
    · rw [if_neg hc]
      exact hJ _ _ ⟨e9, rfl, arcs, ok, by omega, hO, hF⟩
  · rintro ⟨⟨m, t, _⟩, _⟩ w39 ⟨e39, hm, arcs, ok, hl40, hO, hF⟩ w40 o40
    simp only at hm hO hF
    subst hm
    exact hk m t w40 arcs (ext_off e39 o40 (by omega)) hc1 hc2 ok hl40 (hO.off o40 fun hk => by have := hF _ hk; omega) (hF.ext e5)

end
end Go.Sh
