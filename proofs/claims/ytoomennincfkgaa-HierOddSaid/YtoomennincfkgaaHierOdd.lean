/- HierOdd. -/
import Derived.Test.YtoomennincfkgaaHierTwo
import Derived.Test.YtoomennincfkgaaHierOddP
set_option maxRecDepth 100000
namespace Go.Sh
open Go.RowKit

theorem tmod_nat (a b : Nat) : ((a : Int)).tmod (b : Int) = ((a % b : Nat) : Int) := by
  rw [Int.tmod_eq_emod_of_nonneg (by omega)]; omega

theorem HierOdd_ok {w : World} {sr sy : SV} {rank : List Int} {ways : List Wy} {at_ more : Int} {K : Bool → World → Prop} (hr : View RI w sr rank) (hy : View RW w sy ways) (ha : 0 ≤ at_ ∧ at_ < 256) (hm : 0 ≤ more ∧ more < 256) (hk : ∀ w', Ext w w' → K true w') : sh_postroadlaw10_HierOdd sr sy at_ more K w := by
  unfold sh_postroadlaw10_HierOdd
  intro b1 w2 e2 g1 g1'
  have z2 := e2.size
  have lr := hr.len; have ly := hy.len
  refine long_ok fun b w4 e4 hb => ⟨kp1 e4 (by omega), ?_⟩
  have z4 := e4.size
  have e04 := e2.trans e4
  have kn : ∀ {wa}, w2.heap.size ≤ wa.heap.size → Ext w wa → sh_postroadlaw10_known (fun t w8 => Keeps [b1] wa w8 ∧ K t w8) wa := fun {wa} hz ea =>
    known10_ok fun w6 e6 => ⟨kp1 e6 (by omega), hk w6 (ea.trans e6)⟩
  cases b with
  | true => rw [cond_true]; exact kn (by omega) e04
  | false =>
  obtain ⟨l1, l2⟩ := hb rfl
  rw [cond_false]
  refine rCheck_ok (hr.ext e04) (hy.ext e04) fun w8 e8 => ⟨kp1 e8 (by omega), ?_⟩
  have z8 := e8.size
  have e08 := e04.trans e8
  by_cases ok : ¬ OkH rank ways
  · rw [show (chkF rank ways != 0) = true by simpa using (chkF_no ok).1, cond_true]
    exact kn (by omega) e08
  rw [Classical.not_not] at ok
  rw [chkF_ok ok, bne_self_eq_false, cond_false]
  by_cases hz : ways.length = 0
  · rw [show ((sy.len : Int) == 0) = true by rw [ly, hz]; rfl, cond_true]
    exact kn (by omega) e08
  rw [show ((sy.len : Int) == 0) = false by rw [ly]; simpa using fun e => hz (by rw [e]; rfl), cond_false, if_neg (by omega)]
  obtain ⟨n, rfl⟩ := Int.eq_ofNat_of_zero_le ha.1
  obtain ⟨mo, rfl⟩ := Int.eq_ofNat_of_zero_le hm.1
  rw [w64 (n := (n : Int)) (by omega) (by omega), w64 (n := (mo : Int)) (by omega) (by omega), ly, tmod_nat]
  have hi : n % ways.length < ways.length := Nat.mod_lt _ (by omega)
  generalize n % ways.length = i at hi
  rw [← ly]
  have okf := ok.f i hi
  unfold OkF at okf
  obtain ⟨_, hne, hf0, ht0, hf1, ht1, hw0, hw1⟩ := okf
  obtain ⟨f, hf⟩ := Int.eq_ofNat_of_zero_le hf0
  obtain ⟨t, ht⟩ := Int.eq_ofNat_of_zero_le ht0
  refine Own.app (R := RI) Own.nil (hr.ext e08) (by simp only [List.length_nil]; omega) (by simp only [List.length_nil]; omega) fun s13 w14 c14 hs13 hO13 => ?_
  rw [List.nil_append] at hO13
  have e14 : Ext w8 w14 := c14.ext fun k _ ⟨q, hq, _⟩ => by cases hq
  have f13 : Fsh w8 s13 := fun k hk => by
    rcases hs13 k hk with ⟨q, hq, _⟩ | h'
    · cases hq
    · exact h'
  have z14 := e14.size
  have e014 := e08.trans e14
  refine ⟨kp1 e14 (by omega), ?_⟩
  have hy14 := hy.ext e014
  refine way_idx hy14 hi fun _ _ a0 _ _ _ _ => ⟨_, a0, ?_⟩
  refine way_idx hy14 hi fun _ _ _ a1 _ _ _ => ⟨_, a1, ?_⟩
  rw [ht, hf]
  refine int_idx hO13.view (show t < rank.length by omega) fun _ q => ⟨_, q, ?_⟩
  refine own_wr (R := RI) hO13 (show f < rank.length by omega) fun b hb put => ?_
  intro w22 e22
  have z22 := e22.size
  refine put _ w22 _ (hO13.ext e22) fun w23 o23 hO23 => ?_
  have z23 := o23.size
  have hfb : w8.heap.size ≤ b := f13 b ⟨_, hb, rfl⟩
  have e823 : Ext w8 w23 := ext_off (e14.trans e22) o23 hfb
  refine ⟨kp_chg (.of_off (F := fun k => k = b) o23 rfl) fun c hc => ?_, ?_⟩
  · simp only [List.mem_cons, List.not_mem_nil, or_false] at hc; subst hc; exact ⟨by omega, by omega⟩
  intro w24 e24
  have z24 := e24.size
  have e024 := e08.trans (e823.trans e24)
  have hO24 := hO23.ext e24
  refine Own.app (R := RW) Own.nil (hy.ext e024) (by simp only [List.length_nil]; omega) (by simp only [List.length_nil]; omega) fun s25 w26 c26 hs25 hO25 => ?_
  rw [List.nil_append] at hO25
  have e26 : Ext w24 w26 := c26.ext fun k _ ⟨q, hq, _⟩ => by cases hq
  have f25 : Fsh w24 s25 := fun k hk => by
    rcases hs25 k hk with ⟨q, hq, _⟩ | h'
    · cases hq
    · exact h'
  have z26 := e26.size
  refine ⟨kp1 e26 (by omega), ?_⟩
  have e026 := e024.trans e26
  refine way_idx (hy.ext e026) hi fun _ _ a0 a1 a2 a3 a4 => ⟨_, a0, _, a1, _, a2, _, a3, _, a4, ?_⟩
  intro b33 w34 e34 g33 hB33
  have z34 := e34.size
  have hO34 := hO25.ext e34
  refine Own.app (R := RW) hO34 (View.one (R := RW) (x := ways[i]) hB33) (by simp only [List.length_cons, List.length_nil]; omega) (by simp only [List.length_cons, List.length_nil]; omega) fun s35 w36 c36 hs35 hO35 => ?_
  have z36 := c36.size
  have f35 : Fsh w24 s35 := fun k hk => by
    rcases hs35 k hk with h' | h'
    · exact f25 k h'
    · omega
  have e2436 : Ext w24 w36 := ext_chg (e26.trans e34) c36 fun k hk => f25 k hk
  refine ⟨kc1 c36 (by omega) (fun hk => by have := f25 _ hk; omega), ?_⟩
  have e036 := e024.trans e2436
  refine Own.app (R := RW) Own.nil (hy.ext e036) (by simp only [List.length_nil]; omega) (by simp only [List.length_nil]; omega) fun s37 w38 c38 hs37 hO37 => ?_
  rw [List.nil_append] at hO37
  have e38 : Ext w36 w38 := c38.ext fun k _ ⟨q, hq, _⟩ => by cases hq
  have f37 : Fsh w36 s37 := fun k hk => by
    rcases hs37 k hk with ⟨q, hq, _⟩ | h'
    · cases hq
    · exact h'
  have z38 := e38.size
  refine ⟨kp1 e38 (by omega), ?_⟩
  have hO35' := hO35.ext e38
  refine way_idx hO37.view hi fun q hq _ _ q2 _ _ => ⟨yW ways[i], ?_, ?_⟩
  · rw [add_add _ hq] at q2 ⊢; rw [addm]; exact q2
  rw [w64 (n := yW ways[i] + 1) (by omega) (by omega), w64 (by omega) (by omega)]
  refine Own.field2 (R := RW) hO37 (i := i) hi (j0 := 2) (j1 := 0) (by decide) (v := .int .i64 (yW ways[i] + 1 + (mo : Int))) (y := setW ways[i] (yW ways[i] + 1 + (mo : Int))) rfl ?_
  intro w42 c42 hO42
  have z42 := c42.size
  refine ⟨kc1 c42 (by omega) (fun hk => by have := f37 _ hk; omega), ?_⟩
  have e042 : Ext w w42 := ext_chg (e036.trans e38) c42 fun k hk => by have := f37 k hk; omega
  have hO13' : Own RI w42 s13 (rank.set f rank[t]) := by
    have h1 : Own RI w38 s13 (rank.set f rank[t]) := hO24.ext (e2436.trans e38)
    refine h1.chg c42 fun k h1 h2 => ?_
    have := hO24.lt h1; have := f37 k h2; omega
  have hO35'' : Own RW w42 s35 (ways ++ [ways[i]]) := hO35'.chg c42 fun k h1 h2 => by
    have := hO35.lt h1; have := f37 k h2; omega
  have c13 : chkF (rank.set f rank[t]) ways = 2 := (chkF_no fun h => odd_rank (show f < rank.length by omega) (show t < rank.length by omega) (fun e => hne (by rw [hf, ht, e])) h.r).2.1 ⟨by rw [List.length_set]; exact ok.n, ok.k⟩
  have c35 : chkF rank (ways ++ [ways[i]]) = 2 := (chkF_no fun h => odd_twice hi h.f).2.1 ⟨ok.n, by simp only [List.length_append, List.length_cons, List.length_nil]; omega⟩
  refine HCheck_ok hO13'.view (hy.ext e042) fun w44 e44 => ⟨kp1 e44 (by omega), ?_⟩
  have z44 := e44.size
  have e044 := e042.trans e44
  refine HCheck_ok (hr.ext e044) (hO35''.ext e44).view fun w46 e46 => ⟨kp1 e46 (by omega), ?_⟩
  have z46 := e46.size
  have e046 := e044.trans e46
  refine HCheck_ok (hr.ext e046) ((hO42.ext e44).ext e46).view fun w48 e48 => ⟨kp1 e48 (by omega), ?_⟩
  have z48 := e48.size
  have e048 := e046.trans e48
  rw [c13, c35, beq_self_eq_true, cond_true, cond_true]
  have fin : sh_hier_Check sr sy (fun x51 w52 => (Keeps [b1] w48 w52 ∧ (cond (x51 == (0 : Int)) (sh_postroadlaw10_known (fun t53 w54 => (Keeps [b1] w52 w54 ∧ (K t53 w54))) w52) (K false w52)))) w48 := by
    refine HCheck_ok (hr.ext e048) (hy.ext e048) fun w52 e52 => ⟨kp1 e52 (by omega), ?_⟩
    have z52 := e52.size
    rw [chkF_ok ok, beq_self_eq_true, cond_true]
    exact kn (by omega) (e048.trans e52)
  refine way_idx (hy.ext e048) hi fun p0 hp0 _ _ _ p3 _ => ⟨yM ways[i], ?_, ?_⟩
  · rw [add_add _ hp0] at p3 ⊢; rw [addm]; exact p3
  by_cases hmm : yM ways[i] = -1
  · rw [show (yM ways[i] == -1) = true by simpa using hmm, cond_true]; exact fin
  · rw [show (yM ways[i] == -1) = false by simpa using hmm, cond_false]
    have c37 : chkF rank (ways.set i (setW ways[i] (yW ways[i] + 1 + (mo : Int)))) = 2 := (chkF_no (odd_long ok hi hmm (by omega))).2.1 ⟨ok.n, by rw [List.length_set]; exact ok.k⟩
    rw [c37, beq_self_eq_true, cond_true]; exact fin
end Go.Sh
