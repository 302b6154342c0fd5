/- The graph's sides, and which arcs count, as they are laid. -/
import Derived.Test.YtachbdfhbpmaeaaGraphWalk
set_option maxRecDepth 100000
namespace Go.Sh
open Go.RowKit

def edgeL (arcs : List Arc) (to : Nat → Nat) (S : List Nat) : List Arc := S.map fun k => ((to k : Int), wtA arcs k, (k : Int))
theorem edgeL_len (arcs : List Arc) (to : Nat → Nat) (S : List Nat) : (edgeL arcs to S).length = S.length := by simp [edgeL]

theorem lay_ok {CV : CVT} {n : Nat} {N' : Int} {sA l0 : SV} {arcs : List Arc} {L : List Nat} {from_ to_ : Value} {fr to : Nat → Nat} {K : SV → SV → World → Prop} {w : World} (hN : N' = (n : Int)) (hA : View RD w sA arcs) (hv : View RI w l0 (ints L))
    (hn : n < 2 ^ 30) (hL : L.length < 2 ^ 30) (hl : ∀ k ∈ L, k < arcs.length ∧ fr k < n ∧ to k < n)
    (hF : ∀ w', Ext w w' → ∀ k ∈ L, ∀ K, K (.int .i64 (fr k)) w' → CV from_ [.int .i64 k] K w') (hT : ∀ w', Ext w w' → ∀ k ∈ L, ∀ K, K (.int .i64 (to k)) w' → CV to_ [.int .i64 k] K w')
    (hk : ∀ s1 s2 w', Ext w w' → Own RI w' s1 (fl (n + 1) (pre (byBoth n L fr to) fr)) → Own RD w' s2 (edgeL arcs to (byBoth n L fr to)) → Fsh w s1 → Fsh w s2 → K s1 s2 w') : sh_graph_lay CV N' sA l0 from_ to_ K w := by
  subst hN
  unfold sh_graph_lay
  intro b1 w2 e2 h1 h1' b3 w4 e4 h3 h3'
  have z2 := e2.size; have z4 := e4.size
  rw [wsucc (m := 2 ^ 40) (by omega) (by omega)]
  refine own_mk (R := RI) (bytes := 8) (by omega) (by omega) (by omega) fun s5 w6 e6 g5' hO => ?_
  simp only [Int.toNat_natCast] at hO
  rw [show RI.z = (0 : Int) from rfl, fl_rep] at hO
  have z6 := e6.size
  intro b7 w8 e8 h7 h7' w9 o9
  have z8 := e8.size; have z9 := o9.size
  have e9 : Ext w w9 := ext_off (((e2.trans e4).trans e6).trans e8) o9 (by omega)
  have n7 : ¬ s5.blk b7 := fun hk => by have := hO.lt hk; omega
  have g5 : Fsh w s5 := g5'.ext (e2.trans e4)
  have hO9 := (hO.ext e8).off o9 n7
  refine Join.cut (fun (x : (SV × SV × Unit) × Unit) w' => Ext w w' ∧ w9.heap.size ≤ w'.heap.size ∧ x.1.1 = s5 ∧ Own RI w' s5 (fl (n + 1) (cnt1 (byBoth n L fr to) fr)) ∧ Own RD w' x.1.2.1 (edgeL arcs to (byBoth n L fr to)) ∧ Fsh w9 x.1.2.1) (fun J hJ => ?_) ?_
  · intro w12 e12
    have z12 := e12.size
    refine sorted_ok (L := L) (e := to) (hv.ext (e9.trans e12)) hn hL (fun k hk => (hl k hk).2.2) (fun w' e' => hT w' ((e9.trans e12).trans e')) fun s11 w13 e13 hO13 _ => ⟨kp_ext e13 (by (intro b hb; simp only [List.mem_cons, List.not_mem_nil, or_false] at hb; omega)), ?_⟩
    intro w15 e15
    have z13 := e13.size; have z15 := e15.size
    have e15' := ((e9.trans e12).trans e13).trans e15
    have hp1 := sortedL_perm (l := L) (e := to) (n := n) fun k hk => (hl k hk).2.2
    refine sorted_ok (L := sortedL n L to) (e := fr) (hO13.ext e15).view hn (by rw [hp1.length_eq]; exact hL) (fun k hk => (hl k (hp1.mem_iff.1 hk)).2.1) (fun w' e' k hk => hF w' (e15'.trans e') k (hp1.mem_iff.1 hk)) fun s14 w16 e16 hO16 f14 => ⟨kp_ext e16 (by (intro b hb; simp only [List.mem_cons, List.not_mem_nil, or_false] at hb; omega)), ?_⟩
    have hp2 : (byBoth n L fr to).Perm L := byBoth_perm fun k hk => (hl k hk).2
    generalize hS : byBoth n L fr to = S at hJ hp2
    rw [show sortedL n (sortedL n L to) fr = S from hS] at hO16
    have hSl : S.length = L.length := hp2.length_eq
    have hSm : ∀ k ∈ S, k < arcs.length ∧ fr k < n ∧ to k < n := fun k hk => hl k (hp2.mem_iff.1 hk)
    have hSL : ∀ k ∈ S, k ∈ L := fun k hk => hp2.mem_iff.1 hk
    intro w17 e17
    have z16 := e16.size; have z17 := e17.size
    have e17' := (e15'.trans e16).trans e17
    have e917 := (((e12.trans e13).trans e15).trans e16).trans e17
    have hO17 := hO16.ext e17
    have l14 := hO17.view.len
    rw [ints_len] at l14
    have hO5 := hO9.ext e917
    have b5 : ∀ k, s5.blk k → k < w9.heap.size := fun k hk => hO9.lt hk
    refine LoopT.gh (γ := Nat) (fun i (st : Int × (SV × SV × Unit) × Unit) w' => st.1 = i ∧ i ≤ S.length ∧ Chg (fun k => k < w9.heap.size) w17 w' ∧ Ext w w' ∧ st.2.1.1 = s5 ∧ Own RI w' s5 (fl (n + 1) (cnt1 (S.take i) fr)) ∧ Own RD w' st.2.1.2.1 (edgeL arcs to (S.take i)) ∧ Fsh w17 st.2.1.2.1) (fun i => S.length - i) 0
      ⟨rfl, Nat.zero_le _, .refl _ _, e17', rfl, (congrArg (Own RI w17 s5) (fl_congr fun j _ => by cases j <;> simp [cnt1, cnt])).mp hO5, Own.nil, fsh_nil⟩ ?_
    rintro i ⟨x, ⟨a, t, _⟩, _⟩ w20 ⟨hx, hi, c20, e20, ha, hO20, hT20, gT⟩ J1 hJ1
    simp only at hx ha hT20 gT
    subst hx ha
    have z20 := c20.size
    rw [Bool.cond_decide]
    by_cases hc : (i : Int) < (s14.len : Int)
    · rw [if_pos hc]
      have hi' : i < S.length := by omega
      have hm := List.getElem_mem hi'
      obtain ⟨hka, hkf, hkt⟩ := hSm _ hm
      refine int_idx (hO17.chg c20 fun k h14 h5 => by have := f14 k h14; omega).view (by rw [ints_len]; exact hi') fun q hq => ⟨_, hq, ?_⟩
      rw [ints_get]
      refine do_idx (hA.ext e20) hka fun q _ _ q2 => ⟨_, q2, ?_⟩
      intro w28 e28
      have z28 := e28.size
      refine hT w28 (e20.trans e28) _ (hSL _ hm) _ ⟨_, rfl, kp_ext (.refl _) (by (intro b hb; simp only [List.mem_cons, List.not_mem_nil, or_false] at hb; omega)), ⟨_, e28.cell q2, rfl⟩, ?_⟩
      intro w30 e30 b31 w32 e32 h31 hB w33 e33
      have z30 := e30.size; have z32 := e32.size; have z33 := e33.size
      have e2033 := ((e28.trans e30).trans e32).trans e33
      have hT33 := hT20.ext e2033
      have hel : (edgeL arcs to (S.take i)).length ≤ S.length := by rw [edgeL_len, List.length_take]; omega
      refine Own.app (R := RD) hT33 (View.one (R := RD) (x := ((to S[i] : Int), arcs[S[i]].2.2, (S[i] : Int))) (e33.blkE hB)) (by simp only [List.length_cons, List.length_nil]; omega) (by simp only [List.length_cons, List.length_nil]; omega) fun s34 w35 c35 hs hT35 => ?_
      have z35 := c35.size
      refine ⟨kp_chg c35 fun c hc => ?_, ?_⟩
      · simp only [List.mem_cons, List.not_mem_nil, or_false] at hc
        exact ⟨by omega, fun hk => by have := gT c hk; omega⟩
      have gs : Fsh w17 s34 := fun k hk => by
        rcases hs k hk with h' | h'
        · exact gT k h'
        · omega
      have e35 := ext_chg (e20.trans e2033) c35 (gT.ext e17')
      intro w36 e36 w37 o37 w38 e38 w41 e41
      have z36 := e36.size; have z37 := o37.size; have z38 := e38.size; have z41 := e41.size
      have e41' : Ext w w41 := ((ext_off (e35.trans e36) o37 (by omega)).trans e38).trans e41
      have c41 : Chg (fun k => k < w9.heap.size) w17 w41 := (((((c20.trans (.of_ext (F := fun _ => False) e2033) fun _ _ h => h.elim).trans c35 fun k hk h => by have := gT k h; omega).trans (.of_ext (F := fun _ => False) e36) fun _ _ h => h.elim).trans (.of_off (F := fun k => k = b7) o37 rfl) fun k _ h => by omega).trans (.of_ext (F := fun _ => False) e38) fun _ _ h => h.elim).trans (.of_ext (F := fun _ => False) e41) fun _ _ h => h.elim
      have hO41 : Own RI w41 a (fl (n + 1) (cnt1 (S.take i) fr)) := (((((hO20.ext e2033).chg c35 fun k h5 h => by have := gT k h; have := b5 k h5; omega).ext e36).off o37 n7).ext e38).ext e41
      have n7s : ¬ s34.blk b7 := fun hk => by have := gs b7 hk; omega
      have hT41 := (((hT35.ext e36).off o37 n7s).ext e38).ext e41
      refine hF w41 e41' _ (hSL _ hm) _ ⟨_, rfl, kp_ext (.refl _) (by (intro b hb; simp only [List.mem_cons, List.not_mem_nil, or_false] at hb; omega)), ?_⟩
      rw [wsucc (m := 2 ^ 40) (by omega) (by omega)]
      refine fl_rd hO41.view (by omega) fun q hq => ⟨_, hq, ?_⟩
      refine fl_wr hO41 (by omega) fun q put => ?_
      intro w46 e46
      have z46 := e46.size
      have hcl := cnt_le (S.take i) fr (fr S[i])
      rw [List.length_take] at hcl
      have hc1 : cnt1 (S.take i) fr (fr S[i] + 1) < 2 ^ 40 := by simp only [cnt1]; omega
      refine put w46 _ (cnt1 (S.take i) fr (fr S[i] + 1) + 1) _ (wsucc (m := 2 ^ 40) hc1 (by omega)) (hO41.ext e46) fun w47 c47 hO47 => ⟨kp_chg c47 fun c hc => ?_, ?_⟩
      · simp only [List.mem_cons, List.not_mem_nil, or_false] at hc
        refine ⟨by omega, fun hk => ?_⟩
        rcases hc with rfl | rfl | rfl
        · exact n7 hk
        · have := g5' _ hk; omega
        · have := g5' _ hk; omega
      intro w48 e48
      refine hJ1 (i + 1) _ _ ⟨wsucc (m := 2 ^ 40) (by omega) (by omega), by omega, ?_, (ext_chg (e41'.trans e46) c47 g5).trans e48, rfl, ?_, ?_, gs⟩ (by omega)
      · exact ((c41.trans (.of_ext (F := fun _ => False) e46) fun _ _ h => h.elim).trans c47 fun k _ h => b5 k h).trans (.of_ext (F := fun _ => False) e48) fun _ _ h => h.elim
      · refine (congrArg (Own RI w48 a) (fl_congr fun j _ => ?_)).mp (hO47.ext e48)
        rw [take_snoc hi']
        cases j with
        | zero => simp [cnt1]
        | succ j =>
          simp only [cnt1, cnt_snoc, Nat.add_right_cancel_iff]
          by_cases hj : j = fr S[i]
          · rw [if_pos hj, if_pos hj.symm, hj]
          · rw [if_neg hj, if_neg (Ne.symm hj)]; rfl
      · have := ((hT41.ext e46).chg c47 fun k hk h5 => by have := gs k hk; have := b5 k h5; omega).ext e48
        rw [take_snoc hi', show edgeL arcs to (S.take i ++ [S[i]]) = edgeL arcs to (S.take i) ++ [((to S[i] : Int), arcs[S[i]].2.2, (S[i] : Int))] by
          rw [arcA_get hka]; unfold edgeL; rw [List.map_append]; rfl]
        exact this
    · rw [if_neg hc]
      have : i = S.length := by omega
      subst this
      rw [List.take_length] at hO20 hT20
      exact hJ _ _ ⟨e20, by omega, rfl, hO20, hT20, gT.ext e917⟩
  · rintro ⟨⟨a, t, _⟩, _⟩ w50 ⟨e50, z50, ha, hO50, hT50, gT⟩
    simp only at ha hO50 hT50 gT
    subst ha
    have hp2 : (byBoth n L fr to).Perm L := byBoth_perm fun k hk => (hl k hk).2
    have hSl : (byBoth n L fr to).length = L.length := hp2.length_eq
    have he : ∀ k ∈ byBoth n L fr to, fr k < n := fun k hk => (hl k (hp2.mem_iff.1 hk)).2.1
    generalize hS : byBoth n L fr to = S at hk hO50 hT50 hSl he
    have b5 : ∀ k, a.blk k → k < w9.heap.size := fun k hk => hO9.lt hk
    refine Join.cut (fun _ w' => Ext w w' ∧ Own RI w' a (fl (n + 1) (pre S fr)) ∧ Own RD w' t (edgeL arcs to S)) (fun J hJ => ?_) ?_
    · refine LoopT.gh (γ := Nat) (fun i (st : Int × Unit) w' => st.1 = i ∧ i ≤ n ∧ Ext w w' ∧ w9.heap.size ≤ w'.heap.size ∧ Own RI w' a (fl (n + 1) (fun j => if j ≤ i then pre S fr j else cnt1 S fr j)) ∧ Own RD w' t (edgeL arcs to S)) (fun i => n - i) 0
        ⟨rfl, Nat.zero_le _, e50, z50, ?_, hT50⟩ ?_
      · refine (congrArg (Own RI w50 a) (fl_congr fun j _ => ?_)).mp hO50
        cases j with
        | zero => rfl
        | succ j => rw [if_neg (by omega)]
      · rintro i ⟨x, _⟩ w21 ⟨hx, hi, e21, z21, hO21, hT21⟩ J1 hJ1
        simp only at hx; subst hx
        rw [Bool.cond_decide]
        by_cases hc : (i : Int) < (n : Int)
        · rw [if_pos hc]
          rw [wsucc (m := 2 ^ 40) (by omega) (by omega)]
          refine fl_rd hO21.view (by omega) fun _ ha => ⟨_, ha, ?_⟩
          refine fl_rd hO21.view (by omega) fun _ ha => ⟨_, ha, ?_⟩
          refine fl_wr hO21 (by omega) fun q put => ?_
          intro w27 e27
          have z27 := e27.size
          have p1 := pre_le he (show i + 1 ≤ n by omega)
          have p2 := pre_succ S fr i
          simp only [Nat.le_refl, if_true, show ¬ (i + 1 ≤ i) by omega, if_false, cnt1]
          refine put w27 _ (pre S fr (i + 1)) _ (by rw [w64 (by omega) (by omega)]; omega) (hO21.ext e27) fun w28 c hO' => ⟨kp_chg c fun c hc => ?_, ?_⟩
          · simp only [List.mem_cons, List.not_mem_nil, or_false] at hc
            refine ⟨by omega, fun hk => ?_⟩
            rcases hc with rfl | rfl | rfl
            · exact n7 hk
            · have := g5' _ hk; omega
            · have := g5' _ hk; omega
          intro w29 e29
          have z28 := c.size; have z29 := e29.size
          refine hJ1 (i + 1) _ _ ⟨rfl, by omega, (ext_chg (e21.trans e27) c g5).trans e29, by omega, ?_, ((hT21.ext e27).chg c fun k hk h5 => by have := gT k hk; have := b5 k h5; omega).ext e29⟩ (by omega)
          refine (congrArg (Own RI w29 a) (fl_congr fun j _ => ?_)).mp (hO'.ext e29)
          by_cases hj : j = i + 1
          · subst hj; rw [if_pos rfl, if_pos (Nat.le_refl _)]
          · rw [if_neg hj]
            by_cases hj2 : j ≤ i
            · rw [if_pos hj2, if_pos (by omega)]
            · rw [if_neg hj2, if_neg (by omega)]
        · rw [if_neg hc]
          refine hJ _ _ ⟨e21, (congrArg (Own RI w21 a) (fl_congr fun j hj => ?_)).mp hO21, hT21⟩
          rw [if_pos (by omega)]
    · rintro _ w64 ⟨e64, hO64, hT64⟩ w65 o65
      exact hk a t w65 (ext_off e64 o65 (by omega)) (hO64.off o65 fun hk => by have := g5' _ hk; omega) (hT64.off o65 fun hk => by have := gT _ hk; omega) g5 (gT.ext e9)
end Go.Sh
