/- What ways stand in for a place. -/
import Derived.Test.YtoomennincfkgaaRefNear
set_option maxRecDepth 100000
namespace Go.Sh
open Go.RowKit

section
variable {w w' : World} {n : Nat} {sI sL sO : SV} {inn lost : Nat → Int} {L : List Wy}
/-- Two ways are stood in for. -/
def DoneN (L N : List Wy) (v : Nat) (p q : Wy) : Prop := (∃ y ∈ N, yF y = yF p ∧ yT y = yT q ∧ yW y = yW p + yW q) ∨
    ∃ (a c : Nat) (d : Int), yF p = (a : Int) ∧ yT q = (c : Int) ∧ d ≤ yW p + yW q ∧ Wk (fun i j x => EL L i j x ∧ i ≠ v ∧ j ≠ v) a c d
theorem DoneN.app {N : List Wy} {v : Nat} {p q y : Wy} (h : DoneN L N v p q) : DoneN L (N ++ [y]) v p q := h.imp (fun ⟨z, hz, r⟩ => ⟨z, List.mem_append_left _ hz, r⟩) id
def OfN (L : List Wy) (v : Nat) (y : Wy) : Prop := ∃ p ∈ L, ∃ q ∈ L, yF p = yF y ∧ yT p = (v : Int) ∧ yF q = (v : Int) ∧ yT q = yT y ∧ yW y = yW p + yW q ∧ yM y = (v : Int) ∧ yA y = -1 ∧ yF y ≠ yT y

theorem hasF_of (hq : Uq L) {a : Wy} (ha : a ∈ L) {u v : Nat} (h1 : yF a = (u : Int)) (h2 : yT a = (v : Int)) : hasF L u v = true := by
  obtain ⟨k, hk, _⟩ := hq.find ha h1 h2
  unfold hasF; rw [hk]; rfl
theorem hasF_way {u v : Nat} (h : hasF L u v = true) : ∃ y ∈ L, yF y = (u : Int) ∧ yT y = (v : Int) ∧ wayF L u v = (yW y, yM y, yA y, true) := by
  unfold hasF at h
  cases hf : findW L (u : Int) (v : Int) with
  | none => rw [hf] at h; cases h
  | some k =>
    obtain ⟨hk, q1, q2, _⟩ := findW_some hf
    refine ⟨L[k], List.getElem_mem hk, q1, q2, ?_⟩
    unfold wayF
    rw [hf]
    simp only [← wyA_get hk]

theorem Needed_ok {v : Nat} {M : Int} {K : SV → World → Prop} (h : LeftV w n sI sL sO inn L lost) (hM : 0 ≤ M) (hB : (n : Int) * M ≤ 1152921504606846976) (h2 : 2 * M ≤ 1152921504606846976) (he : ∀ y ∈ L, Ends (fun u => u < n) M y) (hq : Uq L)
    (hK : ∀ s w' N, Ext w w' → Own RW w' s N → Fsh w s → N.length ≤ n * n → Need L v N → K s w') : sh_postroadref09_Needed n sI sL sO v K w := by
  unfold sh_postroadref09_Needed
  intro b1 w2 e2 g1 g1'
  have z2 := e2.size
  have hn := h.n40
  refine Ins_ok (h.ext e2) fun s3 w4 e4 o3 f3 => ⟨kp_ext e4 (by (intro b hb; simp only [List.mem_cons, List.not_mem_nil, or_false] at hb; omega)), ?_⟩
  have z4 := e4.size
  refine Outs_ok (h.ext (e2.trans e4)) fun s5 w6 e6 o5 f5 => ⟨kp_ext e6 (by (intro b hb; simp only [List.mem_cons, List.not_mem_nil, or_false] at hb; omega)), ?_⟩
  have z6 := e6.size
  have e06 := (e2.trans e4).trans e6
  have h6 := h.ext e06
  have v3 := (o3.ext e6).view
  have v5 := o5.view
  have l3 := v3.len; have l5 := v5.len
  have b3 := selL_len (fun u => hasF L u v) n
  have b5 := selL_len (fun u => hasF L v u) n
  have m3 := fun x => @mem_selL (fun u => hasF L u v) n x
  have m5 := fun x => @mem_selL (fun u => hasF L v u) n x
  generalize selL (fun u => hasF L u v) n = xs at v3 l3 b3 m3
  generalize selL (fun u => hasF L v u) n = ys at v5 l5 b5 m5
  have n2 : n * n ≤ 4096 * 4096 := Nat.mul_le_mul hn hn
  refine LoopT.gh (γ := Nat × List Wy) (fun g (st : SV × Int × Unit) w' => st.2.1 = g.1 ∧ g.1 ≤ xs.length ∧ Acc RW w6 w6.heap.size w' st.1 g.2 ∧ g.2.length ≤ g.1 * ys.length ∧ (∀ y ∈ g.2, OfN L v y) ∧
      ∀ k (hk : k < xs.length), k < g.1 → ∀ p ∈ L, ∀ q ∈ L, yF p = xs[k] → yT p = (v : Int) → yF q = (v : Int) → yF p ≠ yT q → DoneN L g.2 v p q) (fun g => xs.length - g.1) (0, [])
    ⟨rfl, Nat.zero_le _, Acc.nil (.refl _) (Nat.le_refl _) (Nat.le_refl _), by simp, fun y hy => by simp at hy, fun k hk h => by simp at h⟩ ?_
  rintro ⟨i, N⟩ ⟨u, x, _⟩ w9 ⟨hx, hi, hA, hNl, hNa, hNb⟩ J1 hJ1
  simp only at hx hi hA hNl hNa hNb
  subst hx
  dsimp only
  have z9 := hA.z
  rw [Bool.cond_decide]
  by_cases hc : (i : Int) < (s3.len : Int)
  · rw [if_pos hc]
    have hi' : i < xs.length := by omega
    obtain ⟨a, ha, haF, hxa⟩ := (m3 xs[i]).1 (List.getElem_mem hi')
    obtain ⟨p0, hp0, p1, p2, p3⟩ := hasF_way haF
    have hil : i * ys.length ≤ n * n := Nat.mul_le_mul (by omega) b5
    have hil' : (i + 1) * ys.length ≤ n * n := Nat.mul_le_mul (by omega) b5
    rw [Nat.succ_mul] at hil'
    refine Join.cut (fun (y : SV × Unit) w' => ∃ N', Acc RW w6 w6.heap.size w' y.1 N' ∧ N'.length ≤ (i + 1) * ys.length ∧ (∀ y ∈ N', OfN L v y) ∧
      ∀ k (hk : k < xs.length), k < i + 1 → ∀ p ∈ L, ∀ q ∈ L, yF p = xs[k] → yT p = (v : Int) → yF q = (v : Int) → yF p ≠ yT q → DoneN L N' v p q) (fun J hJ => ?_) ?_
    · refine int_idx (v3.ext hA.e) hi' fun _ a0 => ⟨_, a0, ?_⟩
      refine Way_quiet (h6.ext hA.e) ?_
      rw [hxa, p3]
      intro b20 w21 e21 g20 g20' w22 e22 w23 o23 w24 e24
      have z21 := e21.size; have z22 := e22.size; have z23 := o23.size; have z24 := e24.size
      have hA1 := (hA.off' (e21.trans e22) o23 g20).ext e24
      have nb20 : ¬ u.blk b20 := fun hk => by have := hA.o.lt hk; omega
      refine LoopT.gh (γ := Nat × List Wy) (fun g (st : SV × Int × Unit) w' => st.2.1 = g.1 ∧ g.1 ≤ ys.length ∧ Acc RW w6 w6.heap.size w' st.1 g.2 ∧ b20 < w'.heap.size ∧ ¬ st.1.blk b20 ∧ g.2.length ≤ i * ys.length + g.1 ∧ (∀ y ∈ g.2, OfN L v y) ∧
          (∀ k (hk : k < xs.length), k < i → ∀ p ∈ L, ∀ q ∈ L, yF p = xs[k] → yT p = (v : Int) → yF q = (v : Int) → yF p ≠ yT q → DoneN L g.2 v p q) ∧
          ∀ k (hk : k < ys.length), k < g.1 → ∀ q ∈ L, yF q = (v : Int) → yT q = ys[k] → yF p0 ≠ yT q → DoneN L g.2 v p0 q) (fun g => ys.length - g.1) (0, N)
        ⟨rfl, Nat.zero_le _, hA1, by omega, nb20, by omega, hNa, hNb, fun k hk h => by simp at h⟩ ?_
      rintro ⟨j, N'⟩ ⟨u', x, _⟩ w27 ⟨hx, hj, hA2, l20, n20, hNl', hNa', hNb', hNc⟩ J2 hJ2
      simp only at hx hj hA2 l20 n20 hNl' hNa' hNb' hNc
      subst hx
      dsimp only
      have z27 := hA2.z
      rw [Bool.cond_decide]
      by_cases hcj : (j : Int) < (s5.len : Int)
      · rw [if_pos hcj]
        have hj' : j < ys.length := by omega
        obtain ⟨c, hcn, hcF, hyc⟩ := (m5 ys[j]).1 (List.getElem_mem hj')
        obtain ⟨q0, hq0, q1, q2, q3⟩ := hasF_way hcF
        have ep := he p0 hp0; have eq := he q0 hq0
        have hwr : IntKind.i64.wrap (yW p0 + yW q0) = yW p0 + yW q0 := w64 (by have := ep.2.2.2.1; have := eq.2.2.2.1; omega) (by have := ep.2.2.2.2; have := eq.2.2.2.2; omega)
        have uq0 : ∀ q ∈ L, yF q = (v : Int) → yT q = ys[j] → q = q0 := fun q hqm h1 h2 => hq.same hqm hq0 (h1.trans q1.symm) (by rw [h2, hyc, q2])
        refine Join.cut (fun (y : SV × Unit) w' => ∃ N'', Acc RW w6 w6.heap.size w' y.1 N'' ∧ b20 < w'.heap.size ∧ ¬ y.1.blk b20 ∧ N''.length ≤ i * ys.length + (j + 1) ∧ (∀ y ∈ N'', OfN L v y) ∧
            (∀ p q, DoneN L N' v p q → DoneN L N'' v p q) ∧ (yF p0 ≠ yT q0 → DoneN L N'' v p0 q0)) (fun J3 hJ3 => ?_) ?_
        · refine int_idx (v5.ext hA2.e) hj' fun _ a0 => ⟨_, a0, ?_⟩
          refine Way_quiet (h6.ext hA2.e) ?_
          rw [hyc, q3]
          intro b38 w39 e39 g38 g38' w40 e40 w41 o41 w42 e42
          have z39 := e39.size; have z40 := e40.size; have z41 := o41.size; have z42 := e42.size
          have e27 : Ext w27 w42 := (ext_off (e39.trans e40) o41 g38).trans e42
          have hA3 := hA2.ext e27
          refine int_idx (v3.ext hA3.e) hi' fun _ a0 => ⟨_, a0, ?_⟩
          refine int_idx (v5.ext hA3.e) hj' fun _ a0 => ⟨_, a0, ?_⟩
          simp only [hxa, hyc]
          by_cases hne : (a : Int) ≠ (c : Int)
          · rw [show ((a : Int) != (c : Int)) = true by rw [bne_iff_ne]; exact hne, cond_true]
            refine int_idx (v3.ext hA3.e) hi' fun _ a0 => ⟨_, a0, ?_⟩
            refine int_idx (v5.ext hA3.e) hj' fun _ a0 => ⟨_, a0, ?_⟩
            simp only [hxa, hyc, hwr]
            intro w52 e52
            have z52 := e52.size
            refine Near_ok (h6.ext (hA3.e.trans e52)) hM hB he fun b w53 e53 hb => ⟨kp_ext e53 (by (intro b hb; simp only [List.mem_cons, List.not_mem_nil, or_false] at hb; omega)), fun w54 e54 => ?_⟩
            have z53 := e53.size; have z54 := e54.size
            have e42' := (e52.trans e53).trans e54
            have hA4 := hA3.ext e42'
            cases b with
            | true =>
              rw [Bool.not_true, cond_false]
              refine hJ3 _ _ ⟨N', hA4, by omega, n20, by omega, hNa', fun _ _ r => r, fun _ => ?_⟩
              obtain ⟨a', c', d, r1, r2, r3, r4⟩ := hb rfl
              exact .inr ⟨a', c', d, by rw [p1]; exact r1, by rw [q2]; exact r2, r3, r4⟩
            | false =>
              rw [Bool.not_false, cond_true]
              refine int_idx (v3.ext hA4.e) hi' fun _ a0 => ⟨_, a0, ?_⟩
              refine int_idx (v5.ext hA4.e) hj' fun _ a0 => ⟨_, a0, ?_⟩
              simp only [hxa, hyc]
              intro w59 e59
              have z59 := e59.size
              refine (hA4.ext e59).push' (R := RW) (x := ((a : Int), (c : Int), yW p0 + yW q0, (v : Int), -1)) (by omega) (by omega) fun w62 s63 w64 e62 c64 hs63 hA5 => ?_
              have z62 := e62.size
              have z64 := c64.size
              refine ⟨kp_chg c64 fun b hb => ?_, fun w65 e65 => ?_⟩
              · simp only [List.mem_cons, List.not_mem_nil, or_false] at hb
                rcases hb with rfl | rfl | rfl
                · exact ⟨by omega, fun hk => by have := hA2.o.lt hk; omega⟩
                · exact ⟨by omega, n20⟩
                · exact ⟨by omega, fun hk => by have := hA2.f _ hk; omega⟩
              · have z65 := e65.size
                refine hJ3 _ _ ⟨_, hA5.ext e65, by omega, fun hk => ?_, by simp only [List.length_append, List.length_cons, List.length_nil]; omega, fun y hy => ?_, fun p q r => r.app, fun _ => .inl ⟨_, List.mem_append_right _ (List.mem_singleton.2 rfl), p1.symm, q2.symm, rfl⟩⟩
                · rcases hs63 _ hk with r | r
                  · exact n20 r
                  · omega
                · rcases List.mem_append.1 hy with r | r
                  · exact hNa' y r
                  · rw [List.mem_singleton] at r; subst r
                    exact ⟨p0, hp0, q0, hq0, p1, p2, q1, q2, rfl, rfl, rfl, hne⟩
          · rw [show ((a : Int) != (c : Int)) = false by rw [bne_eq_false_iff_eq]; omega, cond_false]
            intro w66 e66
            exact hJ3 _ _ ⟨N', hA3.ext e66, by have := e66.size; omega, n20, by omega, hNa', fun _ _ r => r, fun r => absurd (by rw [p1, q2]; omega) r⟩
        · rintro ⟨u'', _⟩ w68 ⟨N'', r1, r2, r3, r4, r5, r6, r7⟩
          refine hJ2 (j + 1, N'') _ _ ⟨wsucc (m := 2 ^ 40) (by omega) (by omega), by simp only; omega, r1, r2, r3, r4, r5, fun k hk hki p hp q hqm s1 s2 s3 s4 => r6 _ _ (hNb' k hk hki p hp q hqm s1 s2 s3 s4), fun k hk hkj q hqm s1 s2 s3 => ?_⟩ (by simp only; omega)
          simp only at hkj
          by_cases e : k = j
          · subst e
            have := uq0 q hqm s1 s2
            subst this
            exact r7 s3
          · exact r6 _ _ (hNc k hk (by omega) q hqm s1 s2 s3)
      · rw [if_neg hcj]
        have : j = ys.length := by omega
        subst this
        refine hJ _ _ ⟨N', hA2, by rw [Nat.succ_mul]; exact hNl', hNa', fun k hk hki p hp q hqm s1 s2 s3 s4 => ?_⟩
        by_cases e : k = i
        · subst e
          have : p = p0 := hq.same hp hp0 (by rw [s1, p1, hxa]) (by rw [s2, p2])
          subst this
          obtain ⟨⟨_, _, _⟩, ⟨c, hcn, hcT⟩, _⟩ := he q hqm
          have hcy : yT q ∈ ys := (m5 _).2 ⟨c, hcn, hasF_of hq hqm s3 hcT, hcT⟩
          obtain ⟨k', hk', hke⟩ := List.getElem_of_mem hcy
          exact hNc k' hk' hk' q hqm s3 hke.symm s4
        · exact hNb' k hk (by omega) p hp q hqm s1 s2 s3 s4
    · rintro ⟨u', _⟩ w70 ⟨N', r1, r2, r3, r4⟩
      exact hJ1 (i + 1, N') _ _ ⟨wsucc (m := 2 ^ 40) (by omega) (by omega), by simp only; omega, r1, r2, r3, r4⟩ (by simp only; omega)
  · rw [if_neg hc]
    have : i = xs.length := by omega
    subst this
    refine hK u w9 N (e06.trans hA.e) hA.o (fun k hk => by have := hA.f k hk; have := e06.size; omega) (Nat.le_trans hNl (Nat.mul_le_mul b3 b5)) ⟨hNa, fun p hp q hqm s1 s2 s3 => ?_⟩
    obtain ⟨⟨a, han, haF⟩, _⟩ := he p hp
    have hax : yF p ∈ xs := (m3 _).2 ⟨a, han, hasF_of hq hp haF s1, haF⟩
    obtain ⟨k, hk, hke⟩ := List.getElem_of_mem hax
    exact hNb k hk hk p hp q hqm hke.symm s1 s2 s3
end
end Go.Sh
