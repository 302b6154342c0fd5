/- The reference of layer 10, and what its laws lean on. -/
import Derived.Test.YtoomennincfkgaaHierApi
import Derived.Test.YtoomennincfkgaaAllDef
set_option maxRecDepth 100000
namespace Go.Sh
open Go.RowKit

theorem onto_okR {rank : List Int} (h : ∀ k : Nat, k < rank.length → (k : Int) ∈ rank) : OkR rank := by
  have hL : ((List.range rank.length).map (fun (n : Nat) => (n : Int))).Nodup := by
    rw [List.nodup_iff_pairwise_ne, List.pairwise_map]
    exact List.pairwise_lt_range.imp fun h e => by omega
  have key : ∀ x, x ∈ rank → (∀ y ∈ (List.range rank.length).map (fun (n : Nat) => (n : Int)), y ∈ rank.erase x) → False := fun x hx hs => by
    have := nodup_sub_len _ _ hL hs
    rw [List.length_erase_of_mem hx] at this
    have hp : 0 < rank.length := List.length_pos_of_mem hx
    simp at this; omega
  constructor
  · intro r hr
    refine Classical.byContradiction fun hn => key r hr fun y hy => ?_
    obtain ⟨n, hn', rfl⟩ := List.mem_map.1 hy
    rw [List.mem_range] at hn'
    exact (List.mem_erase_of_ne (show (n : Int) ≠ r from fun e => hn (by omega))).2 (h n hn')
  · have dup : ∀ (l : List Int), ¬ l.Nodup → ∃ x, x ∈ l ∧ x ∈ l.erase x := by
      intro l
      induction l with
      | nil => intro h; exact absurd List.nodup_nil h
      | cons y l ih =>
        intro hn
        by_cases hy : y ∈ l
        · exact ⟨y, List.mem_cons_self, by simp [hy]⟩
        · obtain ⟨x, hx, hx2⟩ := ih fun hl => hn (List.nodup_cons.2 ⟨hy, hl⟩)
          refine ⟨x, List.mem_cons_of_mem _ hx, ?_⟩
          have hne : ¬ (y == x) = true := fun e => hy (by rw [beq_iff_eq] at e; rw [e]; exact hx)
          rw [List.erase_cons, if_neg hne]
          exact List.mem_cons_of_mem _ hx2
    refine Classical.byContradiction fun hn => ?_
    obtain ⟨x, hx, hx2⟩ := dup rank hn
    refine key x hx fun y hy => ?_
    obtain ⟨n, hn', rfl⟩ := List.mem_map.1 hy
    rw [List.mem_range] at hn'
    by_cases e : (n : Int) = x
    · rw [e]; exact hx2
    · exact (List.mem_erase_of_ne e).2 (h n hn')

section
variable {w : World} {sr sy : SV} {rank : List Int} {ways : List Wy}

theorem rAt_ok {r : Int} {K : Int → World → Prop} (h : View RI w sr rank) (hn : rank.length < 2 ^ 40) (hk : ∀ x w', Ext w w' → (∃ v : Nat, ∃ hv : v < rank.length, rank[v] = r ∧ x = (v : Int)) ∨ (∀ v : Nat, ∀ hv : v < rank.length, rank[v] ≠ r) ∧ x = -1 → K x w') : sh_postroadref10_At sr sy r K w := by
  unfold sh_postroadref10_At
  intro b1 w2 e2 _ _
  have hl := h.len
  refine LoopT.gh (γ := Nat) (fun i (st : Int × Unit) w' => st.1 = i ∧ i ≤ rank.length ∧ Ext w w' ∧ ∀ v : Nat, ∀ hv : v < rank.length, v < i → rank[v] ≠ r) (fun i => rank.length - i) 0 ⟨rfl, Nat.zero_le _, e2, fun v hv h => by omega⟩ ?_
  rintro i ⟨x, _⟩ w5 ⟨hx, hi, e5, hno⟩ J1 hJ1
  simp only at hx; subst hx
  dsimp only
  rw [Bool.cond_decide]
  by_cases hc : (i : Int) < (sr.len : Int)
  · rw [if_pos hc]
    have hi' : i < rank.length := by omega
    refine int_idx (h.ext e5) hi' fun _ q => ⟨_, q, ?_⟩
    by_cases he : rank[i] = r
    · rw [show (rank[i] == r) = true by simpa using he, cond_true]
      exact hk _ _ e5 (.inl ⟨i, hi', he, rfl⟩)
    · rw [show (rank[i] == r) = false by simpa using he, cond_false]
      refine hJ1 (i + 1) _ _ ⟨wsucc (m := 2 ^ 40) (by omega) (by omega), by omega, e5, fun v hv hvi => ?_⟩ (by omega)
      by_cases e : v = i
      · subst e; exact he
      · exact hno v hv (by omega)
  · rw [if_neg hc]
    exact hk _ _ e5 (.inr ⟨fun v hv => hno v hv (by omega), rfl⟩)

theorem rplace_ok {v : Int} {K : Bool → World → Prop} (hl : sr.len = rank.length) (hk : ∀ w', Ext w w' → K (decide (0 ≤ v ∧ v < rank.length)) w') : sh_postroadref10_place sr sy v K w := by
  unfold sh_postroadref10_place
  intro b1 w2 e2 _ _
  have := hk w2 e2
  rw [Bool.cond_decide, hl]
  split
  · rename_i h0
    rw [show decide (0 ≤ v ∧ v < (rank.length : Int)) = decide (v < (rank.length : Int)) from decide_eq_decide.2 ⟨fun h => h.2, fun h => ⟨h0, h⟩⟩] at this
    exact this
  · rename_i h0
    rw [decide_eq_false (fun h => h0 h.1)] at this; exact this
theorem rplace_quiet {v : Int} {K : Bool → Prop} (hl : sr.len = rank.length) (hk : K (decide (0 ≤ v ∧ v < rank.length))) :
    Quiet Bool (fun r => .bool r) (fun K21 w22' => sh_postroadref10_place sr sy v (fun t19 w22 => K21 t19 w22) w22') w K :=
  Quiet.mk _ (fun w' _ _ hK' => rplace_ok hl fun w'' e'' => hK' w'' e'') hk

theorem rFind_ok {u v : Int} {K : Int → World → Prop} (h : View RW w sy ways) (hn : ways.length < 2 ^ 40) (hk : ∀ w', Ext w w' → K (ofN (findW ways u v)) w') : sh_postroadref10_Find sr sy u v K w := by
  unfold sh_postroadref10_Find
  intro b1 w2 e2 _ _
  have hl := h.len
  refine LoopT.gh (γ := Nat) (fun i (st : Int × Unit) w' => st.1 = i ∧ i ≤ ways.length ∧ Ext w w' ∧ findW (ways.take i) u v = none) (fun i => ways.length - i) 0 ⟨rfl, Nat.zero_le _, e2, rfl⟩ ?_
  rintro i ⟨x, _⟩ w5 ⟨hx, hi, e5, hno⟩ J1 hJ1
  simp only at hx; subst hx
  dsimp only
  rw [Bool.cond_decide]
  by_cases hc : (i : Int) < (sy.len : Int)
  · rw [if_pos hc]
    have hi' : i < ways.length := by omega
    have hst := findW_snoc (ways.take i) ways[i] u v
    rw [← take_snoc' hi', hno] at hst
    simp only at hst
    refine Join.cut (fun _ w' => w' = w5 ∧ ¬ (yF ways[i] = u ∧ yT ways[i] = v)) (fun J hJ => ?_) ?_
    · refine way_idx (h.ext e5) hi' fun _ _ a0 _ _ _ _ => ⟨_, a0, ?_⟩
      by_cases h1 : yF ways[i] = u
      · rw [show (yF ways[i] == u) = true by simpa using h1, cond_true]
        refine way_idx (h.ext e5) hi' fun _ _ _ a1 _ _ _ => ⟨_, a1, ?_⟩
        by_cases h2 : yT ways[i] = v
        · rw [show (yT ways[i] == v) = true by simpa using h2, cond_true]
          have hf : findW ways u v = some i := by
            have h3 : ways = ways.take (i + 1) ++ ways.drop (i + 1) := (List.take_append_drop _ _).symm
            rw [if_pos ⟨h1, h2⟩, List.length_take, Nat.min_eq_left hi] at hst
            rw [h3]
            unfold findW at hst ⊢
            rw [List.findIdx?_append, hst]; rfl
          have := hk w5 e5
          rw [hf] at this; exact this
        · rw [show (yT ways[i] == v) = false by simpa using h2, cond_false]
          exact hJ _ _ ⟨rfl, fun hh => h2 hh.2⟩
      · rw [show (yF ways[i] == u) = false by simpa using h1, cond_false]
        exact hJ _ _ ⟨rfl, fun hh => h1 hh.1⟩
    · rintro _ w12 ⟨rfl, hne⟩
      rw [if_neg hne] at hst
      exact hJ1 (i + 1) _ _ ⟨wsucc (m := 2 ^ 40) (by omega) (by omega), by omega, e5, hst⟩ (by omega)
  · rw [if_neg hc]
    have : i = ways.length := by omega
    subst this
    rw [List.take_length] at hno
    have := hk w5 e5
    rw [hno] at this; exact this
theorem rFind_quiet {u v : Int} {K : Int → Prop} (h : View RW w sy ways) (hn : ways.length < 2 ^ 40) (hk : K (ofN (findW ways u v))) :
    Quiet Int (fun r => .int .i64 r) (fun K16 w17' => sh_postroadref10_Find sr sy u v (fun x14 w17 => K16 x14 w17) w17') w K :=
  Quiet.mk _ (fun w' e _ hK' => rFind_ok (h.ext e) hn fun w'' e'' => hK' w'' e'') hk

/-- What the reference asks of a way. -/
def OkWr (rank : List Int) (ways : List Wy) (y : Wy) : Prop :=
  if yM y = -1 then 0 ≤ yA y ∧ yA y < 67108864
  else yA y = -1 ∧ 0 ≤ yM y ∧ yM y < rank.length ∧ rkA rank (yM y) < rkA rank (yF y) ∧ rkA rank (yM y) < rkA rank (yT y) ∧
    ∃ a b, findW ways (yF y) (yM y) = some a ∧ findW ways (yM y) (yT y) = some b ∧ IntKind.i64.wrap (wW ways a + wW ways b) = yW y
theorem okF_iff {n i : Nat} (hi : i < ways.length) : OkF n (ways.take i) ways[i] ↔ findW ways (yF ways[i]) (yT ways[i]) = some i ∧ yF ways[i] ≠ yT ways[i] ∧ 0 ≤ yF ways[i] ∧ 0 ≤ yT ways[i] ∧ yF ways[i] < n ∧ yT ways[i] < n ∧ 0 ≤ yW ways[i] ∧ yW ways[i] ≤ 1152921504606846976 := by
  unfold OkF
  have : findW (ways.take i) (yF ways[i]) (yT ways[i]) = none ↔ findW ways (yF ways[i]) (yT ways[i]) = some i := by
    have hst := findW_snoc (ways.take i) ways[i] (yF ways[i]) (yT ways[i])
    rw [← take_snoc' hi] at hst
    have h3 : ∀ u v, findW ways u v = (findW (ways.take (i + 1)) u v).or ((findW (ways.drop (i + 1)) u v).map (· + (ways.take (i + 1)).length)) := fun u v => by
      have h4 : findW (ways.take (i + 1) ++ ways.drop (i + 1)) u v = findW ways u v := by rw [List.take_append_drop]
      rw [← h4]
      unfold findW; rw [List.findIdx?_append]
    cases hf : findW (ways.take i) (yF ways[i]) (yT ways[i]) with
    | none =>
      rw [hf] at hst
      simp only [and_self, if_true, List.length_take, Nat.min_eq_left (Nat.le_of_lt hi)] at hst
      rw [h3, hst]; simp
    | some j =>
      rw [hf] at hst
      simp only at hst
      rw [h3, hst]
      obtain ⟨hj, _⟩ := findW_some hf
      rw [List.length_take] at hj
      simp only [Option.some_or, Option.some.injEq, reduceCtorEq, false_iff]
      omega
  rw [this]

theorem rright_ok {i : Nat} {K : Bool → World → Prop} (hr : View RI w sr rank) (hy : View RW w sy ways) (hn : ways.length < 2 ^ 40) (hi : i < ways.length)
    (hk : ∀ b w', Ext w w' → (b = true ↔ OkF rank.length (ways.take i) ways[i] ∧ OkWr rank ways ways[i]) → K b w') : sh_postroadref10_right sr sy (i : Int) K w := by
  unfold sh_postroadref10_right
  intro b1 w2 e2 g1 g1'
  have z2 := e2.size
  have hl := hr.len
  refine way_idx (hy.ext e2) hi fun a _ a0 a1 a2 a3 a4 => ⟨_, a0, _, a1, _, a2, _, a3, _, a4, ?_⟩
  rw [okF_iff hi] at hk
  generalize hyy : ways[i] = y at hk
  intro b9 w10 e10 g9 g9' w11 o11
  have z10 := e10.size; have z11 := o11.size
  have e11 : Ext w w11 := ext_off (e2.trans e10) o11 (by omega)
  have no : ¬ ((findW ways (yF y) (yT y) = some i ∧ yF y ≠ yT y ∧ 0 ≤ yF y ∧ 0 ≤ yT y ∧ yF y < (rank.length : Int) ∧ yT y < (rank.length : Int) ∧ 0 ≤ yW y ∧ yW y ≤ 1152921504606846976) ∧ OkWr rank ways y) → ∀ w', Ext w11 w' → K false w' :=
    fun hno w' e => hk false w' (e11.trans e) ⟨fun h => (by cases h), fun h => absurd h hno⟩
  refine rplace_ok hl fun w13 e13 => ⟨kp_ext e13 (by (intro b hb; simp only [List.mem_cons, List.not_mem_nil, or_false] at hb; omega)), ?_⟩
  have z13 := e13.size
  by_cases p1 : ¬ (0 ≤ yF y ∧ yF y < (rank.length : Int))
  · rw [decide_eq_false p1]
    simp only [Bool.not_false, cond_true]
    exact no (fun h => by omega) w13 e13
  rw [Classical.not_not] at p1
  rw [decide_eq_true p1]
  simp only [Bool.not_true, cond_false]
  refine rplace_ok hl fun w15 e15 => ⟨kp_ext e15 (by (intro b hb; simp only [List.mem_cons, List.not_mem_nil, or_false] at hb; omega)), ?_⟩
  have z15 := e15.size
  have e15' := e13.trans e15
  by_cases p2 : ¬ (0 ≤ yT y ∧ yT y < (rank.length : Int))
  · rw [decide_eq_false p2]
    simp only [Bool.not_false, cond_true]
    exact no (fun h => by omega) w15 e15'
  rw [Classical.not_not] at p2
  rw [decide_eq_true p2]
  simp only [Bool.not_true, cond_false]
  by_cases p3 : yF y = yT y
  · rw [show (yF y == yT y) = true by simpa using p3, cond_true]
    exact no (fun h => h.1.2.1 p3) w15 e15'
  rw [show (yF y == yT y) = false by simpa using p3, cond_false, Bool.cond_decide]
  split
  · exact no (fun h => by omega) w15 e15'
  rename_i p4
  rw [Bool.cond_decide]
  split
  · exact no (fun h => by omega) w15 e15'
  rename_i p5
  refine rFind_ok (hy.ext (e11.trans e15')) hn fun w17 e17 => ⟨kp_ext e17 (by (intro b hb; simp only [List.mem_cons, List.not_mem_nil, or_false] at hb; omega)), ?_⟩
  have z17 := e17.size
  have e17' := e15'.trans e17
  by_cases p6 : ¬ findW ways (yF y) (yT y) = some i
  · rw [show (ofN (findW ways (yF y) (yT y)) != (i : Int)) = true by
      rw [bne_iff_ne]
      cases hf : findW ways (yF y) (yT y) with
      | none => simp only [ofN]; omega
      | some j => simp only [ofN]; intro e; exact p6 (by rw [hf]; congr 1; omega), cond_true]
    exact no (fun h => p6 h.1.1) w17 e17'
  rw [Classical.not_not] at p6
  rw [show (ofN (findW ways (yF y) (yT y)) != (i : Int)) = false by rw [p6]; simp [ofN], cond_false]
  have okf : findW ways (yF y) (yT y) = some i ∧ yF y ≠ yT y ∧ 0 ≤ yF y ∧ 0 ≤ yT y ∧ yF y < (rank.length : Int) ∧ yT y < (rank.length : Int) ∧ 0 ≤ yW y ∧ yW y ≤ 1152921504606846976 := ⟨p6, p3, by omega, by omega, by omega, by omega, by omega, by omega⟩
  have hk' : ∀ b w', Ext w11 w' → (b = true ↔ OkWr rank ways y) → K b w' := fun b w' e hb => hk b w' (e11.trans e) ⟨fun h => ⟨okf, hb.1 h⟩, fun h => hb.2 h.2⟩
  have no' : ¬ OkWr rank ways y → ∀ w', Ext w17 w' → K false w' := fun hno w' e => no (fun h => hno h.2) w' (e17'.trans e)
  by_cases hm : yM y = -1
  · have hW : OkWr rank ways y ↔ (0 ≤ yA y ∧ yA y < 67108864) := by unfold OkWr; rw [if_pos hm]
    rw [show (yM y == -1) = true by simpa using hm, cond_true, Bool.cond_decide]
    split
    · exact hk' _ _ e17' (by rw [hW, decide_eq_true_iff]; omega)
    · rename_i ha
      exact no' (fun h => ha (hW.1 h).1) w17 (.refl _)
  have hW : OkWr rank ways y ↔ (yA y = -1 ∧ 0 ≤ yM y ∧ yM y < rank.length ∧ rkA rank (yM y) < rkA rank (yF y) ∧ rkA rank (yM y) < rkA rank (yT y) ∧
    ∃ a b, findW ways (yF y) (yM y) = some a ∧ findW ways (yM y) (yT y) = some b ∧ IntKind.i64.wrap (wW ways a + wW ways b) = yW y) := by unfold OkWr; rw [if_neg hm]
  rw [show (yM y == -1) = false by simpa using hm, cond_false]
  by_cases ha : yA y ≠ -1
  · rw [show (yA y != -1) = true by simpa using ha, cond_true]
    exact no' fun h => ha (hW.1 h).1
  have ha : yA y = -1 := by omega
  rw [show (yA y != -1) = false by simpa using ha, cond_false]
  refine rplace_quiet hl ?_
  by_cases p7 : ¬ (0 ≤ yM y ∧ yM y < (rank.length : Int))
  · rw [decide_eq_false p7]
    simp only [Bool.not_false, cond_true]
    exact no' fun h => p7 ⟨(hW.1 h).2.1, (hW.1 h).2.2.1⟩
  rw [Classical.not_not] at p7
  rw [decide_eq_true p7]
  simp only [Bool.not_true, cond_false]
  obtain ⟨m, hmm⟩ := Int.eq_ofNat_of_zero_le p7.1
  obtain ⟨f, hff⟩ := Int.eq_ofNat_of_zero_le p1.1
  obtain ⟨t, htt⟩ := Int.eq_ofNat_of_zero_le p2.1
  have hr17 := hr.ext (e11.trans e17')
  rw [hmm, hff]
  refine int_idx hr17 (by omega) fun _ q => ⟨_, q, ?_⟩
  refine int_idx hr17 (by omega) fun _ q => ⟨_, q, ?_⟩
  rw [rk_get (show m < rank.length by omega), rk_get (show f < rank.length by omega), ← hmm, ← hff, Bool.cond_decide]
  split
  · rename_i hge; exact no' fun h => by have := (hW.1 h).2.2.2.1; omega
  rename_i hge
  rw [hmm, htt]
  refine int_idx hr17 (by omega) fun _ q => ⟨_, q, ?_⟩
  refine int_idx hr17 (by omega) fun _ q => ⟨_, q, ?_⟩
  rw [rk_get (show m < rank.length by omega), rk_get (show t < rank.length by omega), ← hmm, ← htt]
  intro w33 e33
  have z33 := e33.size
  rw [Bool.cond_decide]
  split
  · rename_i hge2; exact no' (fun h => by have := (hW.1 h).2.2.2.2.1; omega) w33 e33
  rename_i hge2
  have hy33 := hy.ext ((e11.trans e17').trans e33)
  refine rFind_ok hy33 hn fun w35 e35 => ⟨kp_ext e35 (by (intro b hb; simp only [List.mem_cons, List.not_mem_nil, or_false] at hb; omega)), ?_⟩
  have z35 := e35.size
  refine rFind_ok (hy33.ext e35) hn fun w37 e37 => ⟨kp_ext e37 (by (intro b hb; simp only [List.mem_cons, List.not_mem_nil, or_false] at hb; omega)), ?_⟩
  have e3337 := e35.trans e37
  have e1737 := e33.trans e3337
  cases h1 : findW ways (yF y) (yM y) with
  | none =>
    rw [show decide (ofN none ≥ 0) = false from rfl, cond_false]
    intro w44 e44
    exact no' (fun h => by obtain ⟨_, _, _, _, _, a, b, q1, _, _⟩ := hW.1 h; rw [h1] at q1; cases q1) _ (e1737.trans e44)
  | some a =>
    rw [show decide (ofN (some a) ≥ 0) = true from decide_eq_true (by show (a : Int) ≥ 0; omega), cond_true]
    cases h2 : findW ways (yM y) (yT y) with
    | none =>
      rw [show decide (ofN none ≥ 0) = false from rfl, cond_false]
      intro w44 e44
      exact no' (fun h => by obtain ⟨_, _, _, _, _, a, b, _, q2, _⟩ := hW.1 h; rw [h2] at q2; cases q2) _ (e1737.trans e44)
    | some b =>
      rw [show decide (ofN (some b) ≥ 0) = true from decide_eq_true (by show (b : Int) ≥ 0; omega), cond_true]
      rw [show ofN (some a) = (a : Int) from rfl, show ofN (some b) = (b : Int) from rfl]
      obtain ⟨hka, _, _, _⟩ := findW_some h1
      obtain ⟨hkb, _, _, _⟩ := findW_some h2
      have hy37 := hy33.ext e3337
      refine way_idx hy37 hka fun q hq _ _ q2 _ _ => ⟨yW ways[a], ?_, ?_⟩
      · rw [add_add _ hq] at q2 ⊢; rw [addm]; exact q2
      refine way_idx hy37 hkb fun q hq _ _ q2 _ _ => ⟨yW ways[b], ?_, ?_⟩
      · rw [add_add _ hq] at q2 ⊢; rw [addm]; exact q2
      intro w42 e42
      refine hk' _ _ (e17'.trans (e1737.trans e42)) ?_
      rw [beq_iff_eq, hW, wW_get hka, wW_get hkb]
      constructor
      · intro hs; exact ⟨ha, p7.1, p7.2, by omega, by omega, a, b, h1, h2, hs⟩
      · rintro ⟨_, _, _, _, _, a', b', q1, q2, hs⟩
        rw [h1] at q1; rw [h2] at q2
        injection q1 with q1; injection q2 with q2
        subst q1 q2; exact hs

theorem okH_of {rank : List Int} {ways : List Wy} (hl : OkL rank ways) (hr : OkR rank) (hf : OkFs rank.length ways) (hw : ∀ y ∈ ways, OkWr rank ways y) : OkH rank ways := by
  refine ⟨hl.1, hl.2, hr, hf, fun y hy => ?_⟩
  have := hw y hy
  unfold OkWr at this; unfold OkW
  split
  · rename_i h; rw [if_pos h] at this; exact this
  · rename_i h; rw [if_neg h] at this
    obtain ⟨q1, q2, q3, q4, q5, a, b, q6, q7, q8⟩ := this
    refine ⟨q1, q2, q3, q4, q5, a, b, q6, q7, ?_⟩
    obtain ⟨ha, _⟩ := findW_some q6
    obtain ⟨hb, _⟩ := findW_some q7
    have wa := hf a ha; have wb := hf b hb
    unfold OkF at wa wb
    rw [wW_get ha] at wa; rw [wW_get hb] at wb
    rw [w64 (by omega) (by omega)] at q8; exact q8
theorem okH_wr {rank : List Int} {ways : List Wy} (ok : OkH rank ways) {y : Wy} (hy : y ∈ ways) : OkWr rank ways y := by
  have := ok.w y hy
  unfold OkW at this; unfold OkWr
  split
  · rename_i h; rw [if_pos h] at this; exact this
  · rename_i h; rw [if_neg h] at this
    obtain ⟨q1, q2, q3, q4, q5, a, b, q6, q7, q8⟩ := this
    refine ⟨q1, q2, q3, q4, q5, a, b, q6, q7, ?_⟩
    obtain ⟨ha, _⟩ := findW_some q6
    obtain ⟨hb, _⟩ := findW_some q7
    have wa := ok.f a ha; have wb := ok.f b hb
    unfold OkF at wa wb
    rw [wW_get ha] at wa; rw [wW_get hb] at wb
    rw [w64 (by omega) (by omega)]; exact q8

theorem rCheck_ok {K : Int → World → Prop} (hr : View RI w sr rank) (hy : View RW w sy ways) (hk : ∀ w', Ext w w' → K (chkF rank ways) w') : sh_postroadref10_Check sr sy K w := by
  unfold sh_postroadref10_Check
  intro b1 w2 e2 g1 g1'
  have z2 := e2.size
  have lr := hr.len; have ly := hy.len
  have long : ¬ OkL rank ways → K 3 w2 := fun hn => by
    have := hk w2 e2
    rw [(chkF_no (fun ok => hn ok.l)).2.2 hn] at this; exact this
  rw [Bool.cond_decide]
  split
  · exact long fun h => by unfold OkL at h; omega
  rw [Bool.cond_decide]
  split
  · exact long fun h => by unfold OkL at h; omega
  have okl : OkL rank ways := ⟨by omega, by omega⟩
  have bad : ¬ OkH rank ways → ∀ w', Ext w2 w' → K 2 w' := fun hn w' e => by
    have := hk w' (e2.trans e)
    rw [(chkF_no hn).2.1 okl] at this; exact this
  refine Join.cut (fun _ w' => Ext w2 w' ∧ OkR rank) (fun J hJ => ?_) ?_
  · refine LoopT.gh (γ := Nat) (fun i (st : Int × Unit) w' => st.1 = i ∧ i ≤ rank.length ∧ Ext w2 w' ∧ ∀ k : Nat, k < i → (k : Int) ∈ rank) (fun i => rank.length - i) 0 ⟨rfl, Nat.zero_le _, .refl _, fun k hk => by omega⟩ ?_
    rintro i ⟨x, _⟩ w6 ⟨hx, hi, e6, hin⟩ J1 hJ1
    simp only at hx; subst hx
    dsimp only
    have z6 := e6.size
    rw [Bool.cond_decide]
    by_cases hc : (i : Int) < (sr.len : Int)
    · rw [if_pos hc]
      have hi' : i < rank.length := by omega
      refine rAt_ok (hr.ext (e2.trans e6)) (by unfold OkL at okl; omega) fun x w8 e8 hx => ⟨kp_ext e8 (by (intro b hb; simp only [List.mem_cons, List.not_mem_nil, or_false] at hb; omega)), ?_⟩
      rcases hx with ⟨v, hv, he, rfl⟩ | ⟨hno, rfl⟩
      · rw [decide_eq_false (by omega), cond_false]
        refine hJ1 (i + 1) _ _ ⟨wsucc (m := 2 ^ 40) (by unfold OkL at okl; omega) (by omega), by omega, e6.trans e8, fun k hk => ?_⟩ (by omega)
        by_cases e : k = i
        · subst e; rw [← he]; exact List.getElem_mem hv
        · exact hin k (by omega)
      · rw [show decide ((-1 : Int) < 0) = true from rfl, cond_true]
        refine bad (fun ok => ?_) w8 (e6.trans e8)
        obtain ⟨v, hv, he⟩ := okR_onto ok.r hi'
        exact hno v hv he
    · rw [if_neg hc]
      exact hJ _ _ ⟨e6, onto_okR fun k hk => hin k (by omega)⟩
  rintro _ w10 ⟨e10, okr⟩
  refine LoopT.gh (γ := Nat) (fun i (st : Int × Unit) w' => st.1 = i ∧ i ≤ ways.length ∧ Ext w2 w' ∧ ∀ j (hj : j < ways.length), j < i → OkF rank.length (ways.take j) ways[j] ∧ OkWr rank ways ways[j]) (fun i => ways.length - i) 0 ⟨rfl, Nat.zero_le _, e10, fun j _ hj => by omega⟩ ?_
  rintro i ⟨x, _⟩ w13 ⟨hx, hi, e13, hok⟩ J1 hJ1
  simp only at hx; subst hx
  dsimp only
  have z13 := e13.size
  rw [Bool.cond_decide]
  by_cases hc : (i : Int) < (sy.len : Int)
  · rw [if_pos hc]
    have hi' : i < ways.length := by omega
    refine rright_ok (hr.ext (e2.trans e13)) (hy.ext (e2.trans e13)) (by unfold OkL at okl; omega) hi' fun b w15 e15 hb => ⟨kp_ext e15 (by (intro b hb; simp only [List.mem_cons, List.not_mem_nil, or_false] at hb; omega)), ?_⟩
    cases b with
    | false =>
      simp only [Bool.not_false, cond_true]
      refine bad (fun ok => ?_) w15 (e13.trans e15)
      have := hb.2 ⟨ok.f i hi', okH_wr ok (List.getElem_mem hi')⟩; cases this
    | true =>
      simp only [Bool.not_true, cond_false]
      refine hJ1 (i + 1) _ _ ⟨wsucc (m := 2 ^ 40) (by unfold OkL at okl; omega) (by omega), by omega, e13.trans e15, fun j hj hji => ?_⟩ (by omega)
      by_cases e : j = i
      · subst e; exact hb.1 rfl
      · exact hok j hj (by omega)
  · rw [if_neg hc]
    have ok : OkH rank ways := okH_of okl okr (fun j hj => (hok j hj (by omega)).1) fun y hy => by
      obtain ⟨j, hj, rfl⟩ := List.getElem_of_mem hy
      exact (hok j hj (by omega)).2
    have := hk w13 (e2.trans e13)
    rw [chkF_ok ok] at this; exact this
end
end Go.Sh
