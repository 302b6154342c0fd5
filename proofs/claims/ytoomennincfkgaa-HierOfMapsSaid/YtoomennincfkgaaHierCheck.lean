/- hier's check. -/
import Derived.Test.YtoomennincfkgaaHierPure
import Derived.Test.YtoomennincfkgaaAllDef
set_option maxRecDepth 100000
namespace Go.Sh
open Go.RowKit

theorem MapIs.same {ag : Bool} {n b : Nat} {w w' : World} {m : List (List Int × Value)} (h : MapIs ag n w b m) (e : w'.heap[b]? = w.heap[b]?) : MapIs ag n w' b m := by
  obtain ⟨es, c, h1, h2⟩ := h
  exact ⟨es, c, by rw [e]; exact h1, h2⟩
theorem MapIs.lt {ag : Bool} {n b : Nat} {w : World} {m : List (List Int × Value)} (h : MapIs ag n w b m) : b < w.heap.size := by
  obtain ⟨es, c, h1, _⟩ := h
  exact (Array.getElem?_eq_some_iff.1 h1).1
theorem MapIs.grow {ag : Bool} {n b : Nat} {w w' : World} {m : List (List Int × Value)} (h : MapIs ag n w b m) (e : Ext w w') : MapIs ag n w' b m := h.same (e.blk h.lt)
theorem MapIs.nil {ag : Bool} {n b : Nat} {w : World} (h : w.heap[b]? = some (.map #[] 0)) : MapIs ag n w b [] :=
  ⟨#[], 0, h, rfl, fun p hp => by simp at hp, List.nodup_nil, fun e he => by simp at he, List.nodup_nil⟩

section
variable {w : World} {sr sy : SV} {rank : List Int} {ways : List Wy}

theorem nodup_snoc {α : Type} {l : List α} {x : α} : (l ++ [x]).Nodup ↔ l.Nodup ∧ x ∉ l := by
  rw [List.nodup_append]
  constructor
  · rintro ⟨h1, _, h3⟩; exact ⟨h1, fun hx => h3 x hx x (by simp) rfl⟩
  · rintro ⟨h1, h2⟩; exact ⟨h1, by simp, fun a ha b hb e => by simp at hb; subst hb; subst e; exact h2 ha⟩

/-- The places of the ranks. -/
def Placed (rank : List Int) (g : Nat → Int) : Prop := ∀ v (h : v < rank.length), g rank[v].toNat = (v : Int)

theorem placed_ok {K : SV → Bool → World → Prop} (h : View RI w sr rank) (hn : rank.length < 2 ^ 40)
    (h1 : OkR rank → ∀ s g w', Ext w w' → Own RI w' s (fi rank.length g) → Placed rank g → Fsh w s → K s true w') (h2 : ¬ OkR rank → ∀ w', Ext w w' → K ⟨none, 0, 0⟩ false w') : sh_hier_placed sr K w := by
  unfold sh_hier_placed
  have hl := h.len
  rw [hl]
  refine own_mk (R := RI) (bytes := 8) (by omega) (by omega) (by omega) fun s1 w2 e2 g1 hO => ?_
  simp only [Int.toNat_natCast] at hO
  rw [show RI.z = (0 : Int) from rfl, fi_rep] at hO
  have l1 := hO.view.len
  rw [fi_len] at l1
  refine Join.cut (fun _ w' => Ext w w' ∧ Own RI w' s1 (fi rank.length fun _ => -1)) (fun J hJ => ?_) ?_
  · refine LoopT.gh (γ := Nat) (fun i (st : Int × Unit) w' => st.1 = i ∧ i ≤ rank.length ∧ Ext w w' ∧ Own RI w' s1 (fi rank.length fun j => if j < i then -1 else 0)) (fun i => rank.length - i) 0 ⟨rfl, Nat.zero_le _, e2, (congrArg (Own RI w2 s1) (fi_congr fun j _ => by rw [if_neg (by omega)])).mp hO⟩ ?_
    rintro i ⟨x, _⟩ w6 ⟨hx, hi, e6, hO6⟩ J1 hJ1
    simp only at hx; subst hx
    dsimp only
    rw [Bool.cond_decide]
    by_cases hc : (i : Int) < (s1.len : Int)
    · rw [if_pos hc]
      refine fi_wr hO6 (by omega) fun a put => ?_
      refine put w6 _ _ hO6 fun w8 c8 hO8 => ?_
      refine hJ1 (i + 1) _ _ ⟨wsucc (m := 2 ^ 40) (by omega) (by omega), by omega, ext_chg e6 c8 g1, (congrArg (Own RI w8 s1) (fi_congr fun j _ => ?_)).mp hO8⟩ (by omega)
      by_cases hj : j = i
      · subst hj; rw [if_pos rfl, if_pos (by omega)]
      · rw [if_neg hj]
        by_cases hj2 : j < i
        · rw [if_pos hj2, if_pos (by omega)]
        · rw [if_neg hj2, if_neg (by omega)]
    · rw [if_neg hc]
      exact hJ _ _ ⟨e6, (congrArg (Own RI w6 s1) (fi_congr fun j hj => by rw [if_pos (by omega)])).mp hO6⟩
  rintro _ w10 ⟨e10, hO10⟩
  refine Join.cut (fun _ w' => Ext w w' ∧ OkR rank ∧ ∃ g, Own RI w' s1 (fi rank.length g) ∧ Placed rank g) (fun J hJ => ?_) (fun _ w22 ⟨e22, ok, g, hOg, hg⟩ => h1 ok s1 g w22 e22 hOg hg g1)
  refine LoopT.gh (γ := Nat × (Nat → Int)) (fun gh (st : Int × Unit) w' => st.1 = gh.1 ∧ gh.1 ≤ rank.length ∧ Ext w w' ∧ Own RI w' s1 (fi rank.length gh.2) ∧ (∀ r ∈ rank.take gh.1, 0 ≤ r ∧ r < rank.length) ∧ (rank.take gh.1).Nodup ∧
      (∀ v (hv : v < gh.1) (hv2 : v < rank.length), gh.2 rank[v].toNat = (v : Int)) ∧ (∀ r, gh.2 r ≠ -1 → ∃ v, ∃ hv2 : v < rank.length, v < gh.1 ∧ rank[v].toNat = r)) (fun gh => rank.length - gh.1) (0, fun _ => -1)
    ⟨rfl, Nat.zero_le _, e10, hO10, fun r hr => by simp at hr, by simp, fun v hv => by omega, fun r hr => absurd rfl hr⟩ ?_
  rintro ⟨i, g⟩ ⟨x, _⟩ w14 ⟨hx, hi, e14, hO14, hr, hnd, hg1, hg2⟩ J1 hJ1
  simp only at hx hi hO14 hr hnd hg1 hg2; subst hx
  dsimp only
  rw [Bool.cond_decide]
  by_cases hc : (i : Int) < (rank.length : Int)
  · rw [if_pos hc, ← hl]
    have hi' : i < rank.length := by omega
    refine int_idx (h.ext e14) hi' fun a ha => ⟨_, ha, ?_⟩
    have hmem : rank[i] ∈ rank := List.getElem_mem hi'
    rw [Bool.cond_decide]
    split
    · rename_i hneg; exact h2 (fun ok => by have := (ok.1 _ hmem).1; omega) _ e14
    rename_i hneg
    rw [Bool.cond_decide]
    split
    · rename_i hbig; exact h2 (fun ok => by have := (ok.1 _ hmem).2; omega) _ e14
    rename_i hbig
    obtain ⟨r, hr0⟩ := Int.eq_ofNat_of_zero_le (show 0 ≤ rank[i] by omega)
    rw [hr0]
    refine fi_rd hO14.view (by omega) fun a ha => ⟨_, ha, ?_⟩
    by_cases hgr : g r = -1
    · rw [show (g r != -1) = false by simpa using hgr, cond_false]
      refine fi_wr hO14 (by omega) fun a put => ?_
      refine put w14 _ _ hO14 fun w20 c20 hO20 => ?_
      have hnotin : rank[i] ∉ rank.take i := fun hin => by
        obtain ⟨v, hv, hve⟩ := List.getElem_of_mem hin
        rw [List.length_take] at hv
        rw [List.getElem_take] at hve
        have := hg1 v (by omega) (by omega)
        rw [hve, hr0, Int.toNat_natCast, hgr] at this; omega
      refine hJ1 (i + 1, _) _ _ ⟨wsucc (m := 2 ^ 40) (by omega) (by omega), by simp only; omega, ext_chg e14 c20 g1, hO20, ?_, ?_, fun v hv hv2 => ?_, fun r' hr' => ?_⟩ (by simp only; omega)
      · intro x hx
        simp only at hx
        rw [take_snoc' hi'] at hx
        rcases List.mem_append.1 hx with hx | hx
        · exact hr x hx
        · simp only [List.mem_singleton] at hx; subst hx; omega
      · simp only
        rw [take_snoc' hi', nodup_snoc]; exact ⟨hnd, hnotin⟩
      · change (if rank[v].toNat = r then (i : Int) else g rank[v].toNat) = (v : Int)
        have hv : v < i + 1 := hv
        by_cases hvi : v = i
        · subst hvi
          have he : rank[v].toNat = r := by rw [hr0]; simp
          rw [if_pos he]
        · have hlt : v < i := by omega
          have hne : rank[v].toNat ≠ r := fun e => by
            have := hg1 v hlt hv2
            rw [e, hgr] at this; omega
          rw [if_neg hne]; exact hg1 v hlt hv2
      · change (if r' = r then (i : Int) else g r') ≠ -1 at hr'
        show ∃ v, ∃ hv2 : v < rank.length, v < i + 1 ∧ rank[v].toNat = r'
        by_cases hrr : r' = r
        · exact ⟨i, hi', by omega, by rw [hr0, hrr]; simp⟩
        · rw [if_neg hrr] at hr'
          obtain ⟨v, hv2, hv, he⟩ := hg2 r' hr'
          exact ⟨v, hv2, by omega, he⟩
    · rw [show (g r != -1) = true by simpa using hgr, cond_true]
      obtain ⟨v, hv2, hv, he⟩ := hg2 r hgr
      refine h2 (fun ok => ?_) _ e14
      have hrv := (ok.1 _ (List.getElem_mem hv2)).1
      have heq : rank[v] = rank[i] := by rw [hr0]; omega
      have := (List.getElem_inj (h₀ := hv2) (h₁ := hi') ok.2).1 heq
      omega
  · rw [if_neg hc]
    have : i = rank.length := by omega
    subst this
    rw [List.take_length] at hr hnd
    exact hJ _ _ ⟨e14, ⟨hr, hnd⟩, g, hO14, fun v hv => hg1 v hv hv⟩

theorem found_ok {K : Option Nat → Bool → World → Prop} (hlr : sr.len = rank.length) (h : View RW w sy ways) (hn : ways.length < 2 ^ 40)
    (h1 : OkFs rank.length ways → ∀ r mm w', Ext w w' → MapIs true 2 w' r mm → MapOk mm ways → w.heap.size ≤ r → K (some r) true w') (h2 : ¬ OkFs rank.length ways → ∀ w', Ext w w' → K none false w') : sh_hier_found sr sy K w := by
  unfold sh_hier_found
  intro b1 w2 e2 g1 g1'
  have hl := h.len
  have z2 := e2.size
  intro r w4 e4 hr hm
  have z4 := e4.size
  refine Join.cut (fun _ w' => Ext w w' ∧ OkFs rank.length ways ∧ ∃ mm, MapIs true 2 w' r mm ∧ MapOk mm ways) (fun J hJ => ?_) (fun _ w25 ⟨e25, ok, mm, hM, hMo⟩ => h1 ok r mm w25 e25 hM hMo (by omega))
  refine LoopT.gh (γ := Nat) (fun i (st : Int × Unit) w' => st.1 = i ∧ i ≤ ways.length ∧ Ext w w' ∧ w4.heap.size ≤ w'.heap.size ∧ OkFs rank.length (ways.take i) ∧ ∃ mm, MapIs true 2 w' r mm ∧ MapOk mm (ways.take i)) (fun i => ways.length - i) 0
    ⟨rfl, Nat.zero_le _, e2.trans e4, Nat.le_refl _, fun i hi => by simp at hi, [], MapIs.nil hm, MapOk.nil⟩ ?_
  rintro i ⟨x, _⟩ w8 ⟨hx, hi, e8, z8, ok, mm, hM, hMo⟩ J1 hJ1
  simp only at hx; subst hx
  dsimp only
  rw [Bool.cond_decide]
  by_cases hc : (i : Int) < (sy.len : Int)
  · rw [if_pos hc]
    have hi' : i < ways.length := by omega
    refine way_idx (h.ext e8) hi' fun a _ a0 a1 a2 a3 a4 => ⟨_, a0, _, a1, _, a2, _, a3, _, a4, ?_⟩
    generalize hy : ways[i] = y
    intro b15 w16 e16 g15 g15' w17 o17
    have z16 := e16.size; have z17 := o17.size
    have e17 : Ext w w17 := ext_off (e8.trans e16) o17 (by have := e8.size; omega)
    have hM17 : MapIs true 2 w17 r mm := (hM.grow e16).same (o17.block r (by have := hM.lt; omega))
    have bad : ¬ OkF rank.length (ways.take i) y → K none false w17 := fun hno => h2 (fun okf => hno (by rw [← hy]; exact okf i hi')) w17 e17
    have hlk := hMo (yF y) (yT y)
    refine Join.cut (fun _ w' => w' = w17 ∧ OkF rank.length (ways.take i) y) (fun J2 hJ2 => ?_) ?_
    · refine ⟨mm, hM17, (match findW (ways.take i) (yF y) (yT y) with | some k => (k : Int) | none => 0), by rw [hlk]; cases findW (ways.take i) (yF y) (yT y) <;> rfl, ?_⟩
      rw [hlk]
      cases hf : findW (ways.take i) (yF y) (yT y) with
      | some k =>
        simp only [Option.map_some, Option.isSome_some, cond_true]
        exact bad fun o => by rw [o.1] at hf; cases hf
      | none =>
        simp only [Option.map_none, Option.isSome_none, cond_false, min3, max2]
        by_cases c1 : yF y = yT y
        · rw [show (yF y == yT y) = true by simpa using c1, cond_true, cond_true]
          exact bad fun o => o.2.1 c1
        rw [show (yF y == yT y) = false by simpa using c1, cond_false, Bool.cond_decide]
        by_cases c2 : yF y < 0 ∨ yT y < 0 ∨ yW y < 0
        · rw [if_pos c2, decide_eq_true c2, cond_true]
          exact bad fun o => by unfold OkF at o; omega
        rw [if_neg c2, Bool.cond_decide]
        by_cases c3 : yF y ≥ (sr.len : Int) ∨ yT y ≥ (sr.len : Int)
        · rw [if_pos c3, decide_eq_true c3, cond_true]
          exact bad fun o => by unfold OkF at o; omega
        rw [if_neg c3, Bool.cond_decide]
        by_cases c4 : yW y > 1152921504606846976
        · rw [if_pos c4]
          exact bad fun o => by unfold OkF at o; omega
        rw [if_neg c4]
        exact hJ2 _ _ ⟨rfl, hf, c1, by omega, by omega, by omega, by omega, by omega, by omega⟩
    rintro _ w22 ⟨rfl, hok⟩
    refine ⟨r, rfl, mm, hM17, fun w23 o23 hM23 => ⟨?_, ?_⟩⟩
    · intro c hc
      simp only [List.mem_cons, List.not_mem_nil, or_false] at hc
      have := hM.lt
      exact o23.block c (by omega)
    have z23 := o23.size
    refine hJ1 (i + 1) _ _ ⟨wsucc (m := 2 ^ 40) (by omega) (by omega), by omega, ext_off e17 o23 (by omega), by omega, ?_, _, hM23, ?_⟩ (by omega)
    · intro j hj
      rw [List.length_take] at hj
      rw [List.getElem_take, List.take_take, Nat.min_eq_left (by omega)]
      by_cases hji : j = i
      · subst hji; rw [hy]; exact hok
      · have := ok j (by rw [List.length_take]; omega)
        rw [List.getElem_take, List.take_take, Nat.min_eq_left (by omega)] at this
        exact this
    · have := hMo.step hok.1
      rw [List.length_take, Nat.min_eq_left (by omega)] at this
      rw [take_snoc' hi', hy]; exact this
  · rw [if_neg hc]
    have : i = ways.length := by omega
    subst this
    rw [List.take_length] at ok hMo
    exact hJ _ _ ⟨e8, ok, mm, hM, hMo⟩

def gN : Option Nat → Int | none => 0 | some k => (k : Int)
theorem halves_ok {r : Nat} {mm : List (List Int × Value)} {f t wd m ar : Int} {K : Int → Int → Bool → World → Prop} (hM : MapIs true 2 w r mm) (hMo : MapOk mm ways)
    (hk : ∀ w', Ext w w' → K (gN (findW ways f m)) (gN (findW ways m t)) ((findW ways f m).isSome && (findW ways m t).isSome) w') : sh_hier_halves sr sy (some r) f t wd m ar K w := by
  unfold sh_hier_halves
  intro b1 w2 e2 _ _ b3 w4 e4 _ _
  have e := e2.trans e4
  have h1 := hMo f m
  have h2 := hMo m t
  refine ⟨mm, hM.grow e, gN (findW ways f m), by rw [h1]; cases findW ways f m <;> rfl, mm, hM.grow e, gN (findW ways m t), by rw [h2]; cases findW ways m t <;> rfl, ?_⟩
  rw [h1, h2]
  have := hk w4 e
  cases h3 : findW ways f m with
  | none => rw [h3] at this; exact this
  | some k =>
    rw [h3] at this
    simp only [Option.map_some, Option.isSome_some, cond_true, Option.isSome_map, Bool.true_and] at this ⊢
    exact this

theorem wW_get {k : Nat} (h : k < ways.length) : yW ways[k] = wW ways k := by
  unfold wW; rw [List.getD_eq_getElem?_getD, List.getElem?_eq_getElem h]; rfl

theorem right_ok {r : Nat} {mm : List (List Int × Value)} {y : Wy} {K : Bool → World → Prop} (hr : View RI w sr rank) (hy : View RW w sy ways) (hM : MapIs true 2 w r mm) (hMo : MapOk mm ways) (okf : OkFs rank.length ways) (hmem : y ∈ ways)
    (hk : ∀ b w', Ext w w' → (b = true ↔ OkW rank ways y) → K b w') : sh_hier_right sr sy (some r) (yF y) (yT y) (yW y) (yM y) (yA y) K w := by
  unfold sh_hier_right
  intro b1 w2 e2 g1 g1' b3 w4 e4 g3 g3'
  have z2 := e2.size; have z4 := e4.size
  have e := e2.trans e4
  have hl := hr.len
  obtain ⟨i, hi, hyi⟩ := List.getElem_of_mem hmem
  have oky := okf i hi
  rw [hyi] at oky
  obtain ⟨_, _, f0, t0, f1, t1, _, _⟩ := oky
  by_cases hm : yM y = -1
  · rw [show (yM y == -1) = true by simpa using hm, cond_true, Bool.cond_decide]
    have hW : OkW rank ways y ↔ (0 ≤ yA y ∧ yA y < 67108864) := by unfold OkW; rw [if_pos hm]
    split
    · rename_i ha; exact hk _ _ e (by rw [hW, decide_eq_true_iff]; omega)
    · rename_i ha; exact hk _ _ e ⟨fun h => (by cases h), fun h => absurd (hW.1 h).1 (by omega)⟩
  rw [show (yM y == -1) = false by simpa using hm, cond_false]
  have hW : OkW rank ways y ↔ (yA y = -1 ∧ 0 ≤ yM y ∧ yM y < rank.length ∧ rkA rank (yM y) < rkA rank (yF y) ∧ rkA rank (yM y) < rkA rank (yT y) ∧
    ∃ a b, findW ways (yF y) (yM y) = some a ∧ findW ways (yM y) (yT y) = some b ∧ wW ways a + wW ways b = yW y) := by unfold OkW; rw [if_neg hm]
  have no : ¬ OkW rank ways y → ∀ w5, Ext w4 w5 → K false w5 := fun hno w5 e5 => hk _ _ (e.trans e5) ⟨fun h => (by cases h), fun h => absurd h hno⟩
  by_cases ha : yA y ≠ -1
  · rw [show (yA y != -1) = true by simpa using ha, cond_true]
    exact no fun h => ha (hW.1 h).1
  have ha : yA y = -1 := by omega
  rw [show (yA y != -1) = false by simpa using ha, cond_false, Bool.cond_decide]
  split
  · exact no fun h => by have := (hW.1 h).2.1; omega
  rw [Bool.cond_decide]
  split
  · exact no fun h => by have := (hW.1 h).2.2.1; omega
  rename_i hm0 hm1
  obtain ⟨m, hmm⟩ := Int.eq_ofNat_of_zero_le (show 0 ≤ yM y by omega)
  obtain ⟨f, hff⟩ := Int.eq_ofNat_of_zero_le f0
  obtain ⟨t, htt⟩ := Int.eq_ofNat_of_zero_le t0
  have hr4 := hr.ext e
  rw [hmm, hff, htt]
  refine int_idx hr4 (by omega) fun _ q => ⟨_, q, ?_⟩
  refine int_idx hr4 (by omega) fun _ q => ⟨_, q, ?_⟩
  refine int_idx hr4 (by omega) fun _ q => ⟨_, q, ?_⟩
  rw [rk_get (show m < rank.length by omega), rk_get (show f < rank.length by omega), rk_get (show t < rank.length by omega), ← hmm, ← hff, ← htt]
  intro w14 e14
  have z14 := e14.size
  simp only [min2]
  rw [Bool.cond_decide]
  split
  · rename_i hlt
    refine no (fun h => ?_) _ e14
    obtain ⟨_, _, _, h4, h5, _⟩ := hW.1 h
    omega
  rename_i hlt
  have hlt2 : rkA rank (yM y) < rkA rank (yF y) ∧ rkA rank (yM y) < rkA rank (yT y) := by omega
  have e014 := e.trans e14
  refine halves_ok (hM.grow e014) hMo fun w18 e18 => ⟨kp_ext e18 (by (intro b hb; simp only [List.mem_cons, List.not_mem_nil, or_false] at hb; omega)), ?_⟩
  have e018 := e14.trans e18
  cases h1 : findW ways (yF y) (yM y) with
  | none =>
    simp only [Option.isSome_none, Bool.false_and, cond_false]
    intro w24 e24
    exact no (fun h => by obtain ⟨_, _, _, _, _, a, b, q1, _, _⟩ := hW.1 h; rw [h1] at q1; cases q1) _ (e018.trans e24)
  | some a =>
    cases h2 : findW ways (yM y) (yT y) with
    | none =>
      simp only [Option.isSome_none, Bool.and_false, cond_false]
      intro w24 e24
      exact no (fun h => by obtain ⟨_, _, _, _, _, a, b, _, q2, _⟩ := hW.1 h; rw [h2] at q2; cases q2) _ (e018.trans e24)
    | some b =>
      simp only [Option.isSome_some, Bool.and_self, cond_true, gN]
      obtain ⟨hka, _, _, _⟩ := findW_some h1
      obtain ⟨hkb, _, _, _⟩ := findW_some h2
      have hy18 := hy.ext (e.trans e018)
      have wa := okf a hka; have wb := okf b hkb
      unfold OkF at wa wb
      refine way_idx hy18 hka fun q hq _ _ q2 _ _ => ⟨yW ways[a], ?_, ?_⟩
      · rw [add_add _ hq] at q2 ⊢; rw [addm]; exact q2
      refine way_idx hy18 hkb fun q hq _ _ q2 _ _ => ⟨yW ways[b], ?_, ?_⟩
      · rw [add_add _ hq] at q2 ⊢; rw [addm]; exact q2
      intro w23 e23
      refine hk _ _ (e.trans (e018.trans e23)) ?_
      rw [w64 (by omega) (by omega), beq_iff_eq, hW, wW_get hka, wW_get hkb]
      constructor
      · intro hs; exact ⟨ha, by omega, by omega, hlt2.1, hlt2.2, a, b, h1, h2, hs⟩
      · rintro ⟨_, _, _, _, _, a', b', q1, q2, hs⟩
        rw [h1] at q1; rw [h2] at q2
        injection q1 with q1; injection q2 with q2
        subst q1 q2; exact hs

/-- Neither is too long. -/
def OkL (rank : List Int) (ways : List Wy) : Prop := rank.length ≤ 16777216 ∧ ways.length ≤ 67108864

/-- What check has laid. -/
structure ChkM (w0 w : World) (hb : Nat) (sr sy s3 : SV) (r : Nat) (rank : List Int) (ways : List Wy) (g : Nat → Int) (mm : List (List Int × Value)) : Prop where
  hd : Blk w hb [.slice sr.a sr.len sr.cap, .slice sy.a sy.len sy.cap, .slice s3.a s3.len s3.cap, .map (some r), .slice none 0 0, .slice none 0 0]
  at_ : Own RI w s3 (fi rank.length g)
  pl : Placed rank g
  m : MapIs true 2 w r mm
  mo : MapOk mm ways
  ghb : w0.heap.size ≤ hb
  gs : Fsh w0 s3
  gr : w0.heap.size ≤ r
  d3 : ¬ s3.blk hb
  dr : r ≠ hb

theorem check_ok {K : Option Addr → Int → World → Prop} (hr : View RI w sr rank) (hy : View RW w sy ways)
    (h1 : OkH rank ways → ∀ hb s3 r g mm w', Ext w w' → ChkM w w' hb sr sy s3 r rank ways g mm → K (some ⟨hb, 0, none⟩) 0 w')
    (h2 : ¬ OkH rank ways → ∀ c w', Ext w w' → c ≠ 0 → (OkL rank ways → c = 2) → (¬ OkL rank ways → c = 3) → K none c w') : sh_hier_check sr sy K w := by
  unfold sh_hier_check
  intro b1 w2 e2 g1 g1'
  have z2 := e2.size
  have lr := hr.len; have ly := hy.len
  rw [Bool.cond_decide]
  split
  · rename_i c; exact h2 (fun ok => by have := ok.n; omega) 3 _ e2 (by decide) (fun h => by unfold OkL at h; omega) (fun _ => rfl)
  rename_i c1
  rw [Bool.cond_decide]
  split
  · rename_i c; exact h2 (fun ok => by have := ok.k; omega) 3 _ e2 (by decide) (fun h => by unfold OkL at h; omega) (fun _ => rfl)
  rename_i c2
  have okl : OkL rank ways := ⟨by omega, by omega⟩
  have bad : ¬ OkH rank ways → ∀ w', Ext w w' → K none 2 w' := fun hno w' e => h2 hno 2 w' e (by decide) (fun _ => rfl) (fun h => absurd okl h)
  -- behind 'placed' and 'found'
  refine placed_ok (hr.ext e2) (by omega) (fun okr s3 g w5 e5 hO3 hpl f3 => ⟨kp_ext e5 (by (intro b hb; simp only [List.mem_cons, List.not_mem_nil, or_false] at hb; omega)), ?_⟩) (fun hno w5 e5 => ⟨kp_ext e5 (by (intro b hb; simp only [List.mem_cons, List.not_mem_nil, or_false] at hb; omega)), ?_⟩)
  rotate_left
  · have z5 := e5.size
    refine found_ok (rank := rank) lr (hy.ext (e2.trans e5)) (by omega) (fun _ r mm w8 e8 _ _ _ => ⟨kp_ext e8 (by (intro b hb; simp only [List.mem_cons, List.not_mem_nil, or_false] at hb; omega)), ?_⟩) (fun _ w8 e8 => ⟨kp_ext e8 (by (intro b hb; simp only [List.mem_cons, List.not_mem_nil, or_false] at hb; omega)), ?_⟩)
    · simp only [Bool.not_false, cond_true]; exact bad (fun ok => hno ok.r) _ ((e2.trans e5).trans e8)
    · simp only [Bool.not_false, cond_true]; exact bad (fun ok => hno ok.r) _ ((e2.trans e5).trans e8)
  have z5 := e5.size
  refine found_ok (rank := rank) lr (hy.ext (e2.trans e5)) (by omega) (fun okf r mm w8 e8 hM hMo gr => ⟨kp_ext e8 (by (intro b hb; simp only [List.mem_cons, List.not_mem_nil, or_false] at hb; omega)), ?_⟩) (fun hno w8 e8 => ⟨kp_ext e8 (by (intro b hb; simp only [List.mem_cons, List.not_mem_nil, or_false] at hb; omega)), ?_⟩)
  rotate_left
  · simp only [Bool.not_true, cond_false, Bool.not_false, cond_true]; exact bad (fun ok => hno ok.f) _ ((e2.trans e5).trans e8)
  simp only [Bool.not_true, cond_false]
  have z8 := e8.size
  have e8' := (e2.trans e5).trans e8
  refine Join.cut (fun _ w' => Ext w8 w' ∧ ∀ y ∈ ways, OkW rank ways y) (fun J hJ => ?_) ?_
  · refine LoopT.gh (γ := Nat) (fun i (st : Int × Unit) w' => st.1 = i ∧ i ≤ ways.length ∧ Ext w8 w' ∧ ∀ y ∈ ways.take i, OkW rank ways y) (fun i => ways.length - i) 0 ⟨rfl, Nat.zero_le _, .refl _, fun y hy => by simp at hy⟩ ?_
    rintro i ⟨x, _⟩ w12 ⟨hx, hi, e12, hok⟩ J1 hJ1
    simp only at hx; subst hx
    dsimp only
    have z12 := e12.size
    rw [Bool.cond_decide]
    by_cases hc : (i : Int) < (sy.len : Int)
    · rw [if_pos hc]
      have hi' : i < ways.length := by omega
      refine way_idx (hy.ext (e8'.trans e12)) hi' fun a _ a0 a1 a2 a3 a4 => ⟨_, a0, _, a1, _, a2, _, a3, _, a4, ?_⟩
      intro b19 w20 e20 g19 g19' w21 o21
      have z20 := e20.size; have z21 := o21.size
      have e21 : Ext w8 w21 := ext_off (e12.trans e20) o21 (by omega)
      have e21' := e8'.trans e21
      refine right_ok (hr.ext e21') (hy.ext e21') (hM.grow e21) hMo okf (List.getElem_mem hi') fun b w23 e23 hb => ⟨kp_ext e23 (by (intro b hb; simp only [List.mem_cons, List.not_mem_nil, or_false] at hb; omega)), ?_⟩
      cases b with
      | false =>
        simp only [Bool.not_false, cond_true]
        refine bad (fun ok => ?_) _ (e21'.trans e23)
        have := hb.2 (ok.w _ (List.getElem_mem hi')); cases this
      | true =>
        simp only [Bool.not_true, cond_false]
        refine hJ1 (i + 1) _ _ ⟨wsucc (m := 2 ^ 40) (by omega) (by omega), by omega, e21.trans e23, fun y hyt => ?_⟩ (by omega)
        rw [take_snoc' hi'] at hyt
        rcases List.mem_append.1 hyt with hyt | hyt
        · exact hok y hyt
        · simp only [List.mem_singleton] at hyt; subst hyt; exact hb.1 rfl
    · rw [if_neg hc]
      have : i = ways.length := by omega
      subst this
      rw [List.take_length] at hok
      exact hJ _ _ ⟨e12, hok⟩
  rintro _ w25 ⟨e25, hok⟩ b26 w27 e27 g26 g26' hB
  have z25 := e25.size; have z27 := e27.size
  have l3 : ∀ k, s3.blk k → k < w5.heap.size := fun k hk => hO3.lt hk
  have lr' := hM.lt
  exact h1 ⟨okl.1, okl.2, okr, okf, hok⟩ b26 s3 r g mm w27 ((e8'.trans e25).trans e27) ⟨hB, ((hO3.ext e8).ext e25).ext e27, hpl, (hM.grow e25).grow e27, hMo, by omega, f3.ext e2, by omega, fun hk => by have := l3 _ hk; omega, by omega⟩
end
end Go.Sh
