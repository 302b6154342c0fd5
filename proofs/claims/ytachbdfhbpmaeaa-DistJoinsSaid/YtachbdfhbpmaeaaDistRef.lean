/- The reference of layer 7, and what its laws lean on. -/
import Derived.Test.YtachbdfhbpmaeaaDistApi
set_option maxRecDepth 100000
namespace Go.Sh
open Go.RowKit

section
variable {CV : CVT} {w : World} {N : Int} {s : SV} {arcs : List Arc}

theorem check5_iff {K : Int → World → Prop} (h : View RD w s arcs) (hk : ∀ c w', Ext w w' → (c = 0 ↔ OkMap N arcs) → K c w') : sh_postroadref05_Check N s K w := check5_ok h hk

theorem Small2_ok {n0 a0 : Int} {K : Bool → World → Prop} (hk : ∀ w', Ext w w' → K (decide ((s.len : Int) ≤ a0 ∧ (N ≤ n0 ∨ N > 16777216))) w') : sh_postroadref06_Small N s n0 a0 K w := by
  unfold sh_postroadref06_Small
  intro b1 w2 e2 _ _
  have := hk w2 e2
  rw [Bool.cond_decide]
  split
  · rename_i h1
    rw [Bool.cond_decide]
    split
    · rename_i h2; rw [decide_eq_true ⟨h1, .inl h2⟩] at this; exact this
    · rename_i h2
      have e : decide ((s.len : Int) ≤ a0 ∧ (N ≤ n0 ∨ N > 16777216)) = decide (N > 16777216) := decide_eq_decide.2 ⟨fun h => h.2.resolve_left h2, fun h => ⟨h1, .inr h⟩⟩
      rw [e] at this; exact this
  · rename_i h1; rw [decide_eq_false (fun h => h1 h.1)] at this; exact this
theorem Right2_ok {n0 a0 : Int} {K : Bool → World → Prop} (h : View RD w s arcs) (hk : ∀ b w', Ext w w' → (b = true ↔ ((s.len : Int) ≤ a0 ∧ (N ≤ n0 ∨ N > 16777216)) ∧ OkMap N arcs) → K b w') : sh_postroadref06_Right N s n0 a0 K w := by
  unfold sh_postroadref06_Right
  intro b1 w2 e2 g1 g1'
  refine Small2_ok fun w4 e4 => ⟨kp1 e4 (by omega), ?_⟩
  have z4 := e4.size
  by_cases hs : (s.len : Int) ≤ a0 ∧ (N ≤ n0 ∨ N > 16777216)
  · rw [decide_eq_true hs, cond_true]
    refine check5_ok (h.ext (e2.trans e4)) fun c w6 e6 hc => ⟨kp1 e6 (by omega), hk _ _ ((e2.trans e4).trans e6) ?_⟩
    rw [beq_iff_eq, hc]
    exact ⟨fun h => ⟨hs, h⟩, fun h => h.2⟩
  · rw [decide_eq_false hs, cond_false]
    exact hk _ _ (e2.trans e4) ⟨fun h => (by cases h), fun h => absurd h.1 hs⟩
theorem Right7_ok {n0 a0 : Int} {K : Bool → World → Prop} (h : View RD w s arcs) (hk : ∀ b w', Ext w w' → (b = true ↔ ((s.len : Int) ≤ a0 ∧ (N ≤ n0 ∨ N > 16777216)) ∧ OkMap N arcs) → K b w') : sh_postroadref07_Right N s n0 a0 K w := by
  unfold sh_postroadref07_Right
  intro b1 w2 e2 g1 g1'
  exact Right2_ok (h.ext e2) fun b w4 e4 hb => ⟨kp1 e4 (by omega), hk b w4 (e2.trans e4) hb⟩
theorem Of7_ok {n0 : Int} {as : List Arc} {K : Int → SV → World → Prop} (h : View RD w s as)
    (hk : ∀ n t w' arcs, Ext w w' → 1 ≤ n → n ≤ 12 → OkMap n arcs → arcs.length ≤ 40 → Own RD w' t arcs → Fsh w t → K n t w') : sh_postroadref07_Of n0 s K w := by
  unfold sh_postroadref07_Of
  intro b1 w2 e2 g1 g1'
  refine Of_ok (h.ext e2) fun n t w' arcs e h1 h2 h3 h4 h5 h6 => ⟨kp1 e (by omega), fun w6 o6 => ?_⟩
  exact hk n t w6 arcs (ext_off (e2.trans e) o6 (by omega)) h1 h2 h3 h4 (h5.off o6 fun hk => by have := h6 _ hk; omega) (h6.ext e2)

/-- The sum of all arcs. -/
noncomputable def totF (N : Int) (arcs : List Arc) : Int := by classical exact if OkMap N arcs then totW arcs else -1
theorem totW_take (ok : OkMap N arcs) {i : Nat} (hi : i < arcs.length) : totW (arcs.take (i + 1)) = totW (arcs.take i) + arcs[i].2.2 ∧ 0 ≤ totW (arcs.take i) ∧ totW (arcs.take i) < 2 ^ 58 ∧ 0 ≤ arcs[i].2.2 ∧ arcs[i].2.2 ≤ 2147483648 := by
  have h1 : ∀ a ∈ arcs.take i, 0 ≤ a.2.2 ∧ a.2.2 ≤ 2147483648 := fun a ha => by
    have := ok.arc a (List.mem_of_mem_take ha)
    exact ⟨this.2.2.2.2.1, this.2.2.2.2.2⟩
  have h2 := totW_le h1
  have h3 : (arcs.take i).length ≤ i := by rw [List.length_take]; omega
  have h4 := ok.len
  have h5 := ok.arc _ (List.getElem_mem hi)
  rw [take_snoc' hi, totW_snoc]
  refine ⟨rfl, by omega, by omega, h5.2.2.2.2.1, h5.2.2.2.2.2⟩
theorem Total_ok (hcv : DistCV CV) {K : Int → World → Prop} (h : View RD w s arcs) (hk : ∀ w', Ext w w' → K (totF N arcs) w') : sh_dist_Total CV N s K w := by
  unfold sh_dist_Total
  intro b1 w2 e2 g1 g1'
  have hl := h.len
  refine GNew_ok hcv.g (h.ext e2) (fun ok p w4 F e4 hG _ => ⟨kp1 e4 (by omega), ?_⟩) (fun no w4 e4 => ⟨kp1 e4 (by omega), ?_⟩)
  · rw [hG.some, cond_false]
    have h4 := h.ext (e2.trans e4)
    have hn := ok.len
    refine LoopT.gh (γ := Nat) (fun i (st : Int × Int × Unit) w' => st.1 = totW (arcs.take i) ∧ st.2.1 = i ∧ i ≤ arcs.length ∧ Ext w4 w') (fun i => arcs.length - i) 0 ⟨rfl, rfl, Nat.zero_le _, .refl _⟩ ?_
    rintro i ⟨x, y, _⟩ w7 ⟨hx, hy, hi, e7⟩ J1 hJ1
    simp only at hx hy; subst hx hy
    dsimp only
    rw [Bool.cond_decide]
    by_cases hc : (i : Int) < (s.len : Int)
    · rw [if_pos hc]
      have hi' : i < arcs.length := by omega
      refine do_idx (h4.ext e7) hi' fun _ a0 a1 a2 => ⟨_, a0, _, a1, _, a2, ?_⟩
      intro b12 w13 e13 g12 _ w14 o14
      have z7 := e7.size
      obtain ⟨q1, q2, q3, q4, q5⟩ := totW_take ok hi'
      exact hJ1 (i + 1) _ _ ⟨by rw [q1, w64 (by omega) (by omega)], wsucc (m := 2 ^ 40) (by omega) (by omega), by omega, ext_off (e7.trans e13) o14 (by omega)⟩ (by omega)
    · rw [if_neg hc]
      have : i = arcs.length := by omega
      subst this
      have := hk w7 ((e2.trans e4).trans e7)
      unfold totF at this; rw [if_pos ok] at this
      rw [List.take_length]; exact this
  · simp only [Option.isNone_none, cond_true]
    have := hk w4 (e2.trans e4)
    unfold totF at this; rw [if_neg no] at this; exact this
theorem rTotal_ok {K : Int → World → Prop} (h : View RD w s arcs) (hk : ∀ w', Ext w w' → K (totF N arcs) w') : sh_postroadref07_Total N s K w := by
  unfold sh_postroadref07_Total
  intro b1 w2 e2 g1 g1'
  have hl := h.len
  refine check5_ok (h.ext e2) fun c w4 e4 hcc => ⟨kp1 e4 (by omega), ?_⟩
  by_cases ok : OkMap N arcs
  · rw [hcc.2 ok, bne_self_eq_false, cond_false]
    have h4 := h.ext (e2.trans e4)
    have hn := ok.len
    refine LoopT.gh (γ := Nat) (fun i (st : Int × Int × Unit) w' => st.1 = totW (arcs.take i) ∧ st.2.1 = i ∧ i ≤ arcs.length ∧ w' = w4) (fun i => arcs.length - i) 0 ⟨rfl, rfl, Nat.zero_le _, rfl⟩ ?_
    rintro i ⟨x, y, _⟩ w7 ⟨hx, hy, hi, rfl⟩ J1 hJ1
    simp only at hx hy; subst hx hy
    dsimp only
    rw [Bool.cond_decide]
    by_cases hc : (i : Int) < (s.len : Int)
    · rw [if_pos hc]
      have hi' : i < arcs.length := by omega
      refine do_idx h4 hi' fun _ _ _ a2 => ⟨_, a2, ?_⟩
      obtain ⟨q1, q2, q3, q4, q5⟩ := totW_take ok hi'
      exact hJ1 (i + 1) _ _ ⟨by rw [q1, w64 (by omega) (by omega)], wsucc (m := 2 ^ 40) (by omega) (by omega), by omega, rfl⟩ (by omega)
    · rw [if_neg hc]
      have : i = arcs.length := by omega
      subst this
      have := hk w7 (e2.trans e4)
      unfold totF at this; rw [if_pos ok] at this
      rw [List.take_length]; exact this
  · rw [show (c != 0) = true by simpa using fun e => ok (hcc.1 e), cond_true]
    have := hk w4 (e2.trans e4)
    unfold totF at this; rw [if_neg ok] at this; exact this
theorem rTotal_quiet {K : Int → Prop} (h : View RD w s arcs) (hk : K (totF N arcs)) : Quiet Int (fun r => .int .i64 r) (fun K1 w1 => sh_postroadref07_Total N s (fun x w2 => K1 x w2) w1) w K :=
  Quiet.mk _ (fun _ e _ hK => rTotal_ok (h.ext e) fun w'' e'' => hK w'' e'') hk

/-- Where arcs lead, and how long they are. -/
def walkF (arcs : List Arc) : Int → Int → List Int → Option (Int × Int)
  | s, d, [] => some (s, d)
  | s, d, k :: l => if 0 ≤ k ∧ k < (arcs.length : Int) ∧ (arcA arcs k.toNat).1 = s then walkF arcs (arcA arcs k.toNat).2.1 (d + (arcA arcs k.toNat).2.2) l else none
noncomputable def walkR (N : Int) (arcs : List Arc) (s : Int) (l : List Int) : Option (Int × Int) := by
  classical exact if OkMap N arcs ∧ 0 ≤ s ∧ s < N then walkF arcs s 0 l else none
theorem walkF_snoc (arcs : List Arc) : ∀ (l : List Int) (s d : Int) (k : Int), walkF arcs s d (l ++ [k]) = match walkF arcs s d l with
    | some (s', d') => if 0 ≤ k ∧ k < (arcs.length : Int) ∧ (arcA arcs k.toNat).1 = s' then some ((arcA arcs k.toNat).2.1, d' + (arcA arcs k.toNat).2.2) else none
    | none => none
  | [], s, d, k => rfl
  | j :: l, s, d, k => by
    simp only [List.cons_append, walkF]
    split
    · exact walkF_snoc arcs l _ _ k
    · rfl
theorem walkF_app (arcs : List Arc) : ∀ (l m : List Int) (s d : Int), walkF arcs s d (l ++ m) = match walkF arcs s d l with
    | some (s', d') => walkF arcs s' d' m
    | none => none
  | [], m, s, d => rfl
  | j :: l, m, s, d => by
    simp only [List.cons_append, walkF]
    split
    · exact walkF_app arcs l m _ _
    · rfl
theorem walkF_take (arcs : List Arc) {l : List Int} {i : Nat} (_hi : i < l.length) {s d : Int} (h : walkF arcs s d (l.take (i + 1)) = none) : walkF arcs s d l = none := by
  have : l = l.take (i + 1) ++ l.drop (i + 1) := (List.take_append_drop _ _).symm
  rw [this, walkF_app, h]
theorem walkF_wk (ok : OkMap N arcs) : ∀ (l : List Int) (s d s' d' : Int), 0 ≤ s → s < N → walkF arcs s d l = some (s', d') → 0 ≤ s' ∧ s' < N ∧ d ≤ d' ∧ d' ≤ d + 2147483648 * (l.length : Int) ∧ Wk (EA arcs) s.toNat s'.toNat (d' - d)
  | [], s, d, s', d', h0, h1, h => by
    simp only [walkF, Option.some.injEq, Prod.mk.injEq] at h
    obtain ⟨rfl, rfl⟩ := h
    exact ⟨h0, h1, Int.le_refl _, by simp, by rw [Int.sub_self]; exact .nil⟩
  | k :: l, s, d, s', d', h0, h1, h => by
    simp only [walkF] at h
    split at h
    · rename_i hk
      have hkl : k.toNat < arcs.length := by omega
      have oka := ok.at hkl
      unfold OkArc at oka
      obtain ⟨q1, q2, q3, q4, q5⟩ := walkF_wk ok l _ _ _ _ (by omega) (by omega) h
      refine ⟨q1, q2, by omega, by simp only [List.length_cons]; omega, ?_⟩
      have e : EA arcs s.toNat (arcA arcs k.toNat).2.1.toNat (arcA arcs k.toNat).2.2 := by
        have := EA_of ok hkl
        unfold frA toA wtA at this
        rw [hk.2.2] at this; exact this
      exact (Wk.cons e q5).of_eq (by omega)
    · cases h
/-- A walk's arcs. -/
theorem wk_walkF (ok : OkMap N arcs) {u v : Nat} {x : Int} (h : Wk (EA arcs) u v x) : ∃ l : List Int, ∀ d, walkF arcs (u : Int) d l = some ((v : Int), d + x) := by
  induction h with
  | nil => exact ⟨[], fun d => by simp [walkF]⟩
  | snoc _ e ih =>
    obtain ⟨l, hl⟩ := ih
    obtain ⟨k, hk, q1, q2, q3, _⟩ := EA_arc ok e
    refine ⟨l ++ [(k : Int)], fun d => ?_⟩
    rw [walkF_snoc, hl d]
    simp only
    have h1 := (ok.fr hk).1; have h2 := (ok.to hk).1
    unfold wtA at q3
    rw [if_pos ⟨by omega, by omega, by rw [Int.toNat_natCast, h1, q1]⟩, Int.toNat_natCast, h2, q2, q3, Int.add_assoc]

theorem Walk_ok (hcv : DistCV CV) {t : SV} {l : List Int} {u : Int} {K : Int → Int → Bool → World → Prop} (h : View RD w s arcs) (ht : View RI w t l) (hn : l.length < 2 ^ 30)
    (h1 : ∀ v d, walkR N arcs u l = some (v, d) → ∀ w', Ext w w' → K v d true w') (h2 : walkR N arcs u l = none → ∀ w', Ext w w' → K 0 0 false w') : sh_dist_Walk CV N s u t K w := by
  unfold sh_dist_Walk
  intro b1 w2 e2 g1 g1'
  have hl := h.len; have hlt := ht.len
  refine GNew_ok hcv.g (h.ext e2) (fun ok p w4 F e4 hG _ => ⟨kp1 e4 (by omega), ?_⟩) (fun no w4 e4 => ⟨kp1 e4 (by omega), ?_⟩)
  · rw [hG.some, cond_false]
    have e04 := e2.trans e4
    rw [Bool.cond_decide]
    split
    · exact h2 (by unfold walkR; rw [if_neg (fun h => by omega)]) _ e04
    rw [Bool.cond_decide]
    split
    · exact h2 (by unfold walkR; rw [if_neg (fun h => by omega)]) _ e04
    have hW : walkR N arcs u l = walkF arcs u 0 l := by unfold walkR; rw [if_pos ⟨ok, by omega, by omega⟩]
    rw [hW] at h1 h2
    refine Join.cut (fun (x : Int × Int × Unit) w' => Ext w4 w' ∧ walkF arcs u 0 l = some (x.1, x.2.1)) (fun J hJ => ?_) (fun x w' ⟨e, hx⟩ => h1 _ _ hx _ (e04.trans e))
    refine LoopT.gh (γ := Nat) (fun i (st : Int × Int × Int × Unit) w' => walkF arcs u 0 (l.take i) = some (st.1, st.2.1) ∧ st.2.2.1 = i ∧ i ≤ l.length ∧ Ext w4 w') (fun i => l.length - i) 0 ⟨rfl, rfl, Nat.zero_le _, .refl _⟩ ?_
    rintro i ⟨v, d, x, _⟩ w8 ⟨hv, hx, hi, e8⟩ J1 hJ1
    simp only at hv hx; subst hx
    dsimp only
    rw [Bool.cond_decide]
    by_cases hc : (i : Int) < (t.len : Int)
    · rw [if_pos hc]
      have hi' : i < l.length := by omega
      have e08 := e04.trans e8
      refine int_idx (ht.ext e08) hi' fun _ q => ⟨_, q, ?_⟩
      have hst := walkF_snoc arcs (l.take i) u 0 l[i]
      rw [← take_snoc' hi', hv] at hst
      simp only at hst
      rw [Bool.cond_decide]
      split
      · rw [if_neg (fun h => by omega)] at hst; exact h2 (walkF_take arcs hi' hst) _ e08
      rw [Bool.cond_decide]
      split
      · rw [if_neg (fun h => by omega)] at hst; exact h2 (walkF_take arcs hi' hst) _ e08
      obtain ⟨k, hk⟩ := Int.eq_ofNat_of_zero_le (show 0 ≤ l[i] by omega)
      rw [hk] at hst ⊢
      rw [Int.toNat_natCast] at hst
      have hkl : k < arcs.length := by omega
      refine do_idx (h.ext e08) hkl fun _ a0 _ _ => ⟨_, a0, ?_⟩
      rw [arcA_get hkl]
      by_cases hf : (arcA arcs k).1 = v
      · rw [show ((arcA arcs k).1 != v) = false by simpa using hf, cond_false]
        rw [if_pos ⟨by omega, by omega, hf⟩] at hst
        refine do_idx (h.ext e08) hkl fun _ _ a1 _ => ⟨_, a1, ?_⟩
        refine do_idx (h.ext e08) hkl fun _ _ _ a2 => ⟨_, a2, ?_⟩
        rw [arcA_get hkl]
        intro w17 e17
        obtain ⟨_, _, q3, q4, _⟩ := walkF_wk ok _ _ _ _ _ (show 0 ≤ u by omega) (by omega) hv
        have oka := ok.at hkl; unfold OkArc at oka
        have hli : (l.take i).length ≤ l.length := by rw [List.length_take]; omega
        exact hJ1 (i + 1) _ _ ⟨by rw [hst, w64 (by omega) (by omega)], wsucc (m := 2 ^ 40) (by omega) (by omega), by omega, e8.trans e17⟩ (by omega)
      · rw [show ((arcA arcs k).1 != v) = true by simpa using hf, cond_true]
        rw [if_neg (fun h => hf h.2.2)] at hst
        exact h2 (walkF_take arcs hi' hst) _ e08
    · rw [if_neg hc]
      have : i = l.length := by omega
      subst this
      rw [List.take_length] at hv
      exact hJ _ _ ⟨e8, hv⟩
  · simp only [Option.isNone_none, cond_true]
    exact h2 (by unfold walkR; rw [if_neg (fun h => no h.1)]) _ (e2.trans e4)
theorem rWalk_ok {t : SV} {l : List Int} {u : Int} {K : Int → Int → Bool → World → Prop} (h : View RD w s arcs) (ht : View RI w t l) (hn : l.length < 2 ^ 30)
    (h1 : ∀ v d, walkR N arcs u l = some (v, d) → ∀ w', Ext w w' → K v d true w') (h2 : walkR N arcs u l = none → ∀ w', Ext w w' → K 0 0 false w') : sh_postroadref07_Walk N s u t K w := by
  unfold sh_postroadref07_Walk
  intro b1 w2 e2 g1 g1'
  have hl := h.len; have hlt := ht.len
  refine check5_ok (h.ext e2) fun c w4 e4 hcc => ⟨kp1 e4 (by omega), ?_⟩
  have e04 := e2.trans e4
  by_cases ok : OkMap N arcs
  · rw [hcc.2 ok, bne_self_eq_false, cond_false]
    rw [Bool.cond_decide]
    split
    · exact h2 (by unfold walkR; rw [if_neg (fun h => by omega)]) _ e04
    rw [Bool.cond_decide]
    split
    · exact h2 (by unfold walkR; rw [if_neg (fun h => by omega)]) _ e04
    have hW : walkR N arcs u l = walkF arcs u 0 l := by unfold walkR; rw [if_pos ⟨ok, by omega, by omega⟩]
    rw [hW] at h1 h2
    refine Join.cut (fun (x : Int × Int × Unit) w' => w' = w4 ∧ walkF arcs u 0 l = some (x.1, x.2.1)) (fun J hJ => ?_) (fun x w' ⟨e, hx⟩ => h1 _ _ hx _ (by subst e; exact e04))
    refine LoopT.gh (γ := Nat) (fun i (st : Int × Int × Int × Unit) w' => walkF arcs u 0 (l.take i) = some (st.1, st.2.1) ∧ st.2.2.1 = i ∧ i ≤ l.length ∧ w' = w4) (fun i => l.length - i) 0 ⟨rfl, rfl, Nat.zero_le _, rfl⟩ ?_
    rintro i ⟨v, d, x, _⟩ w8 ⟨hv, hx, hi, rfl⟩ J1 hJ1
    simp only at hv hx; subst hx
    dsimp only
    rw [Bool.cond_decide]
    by_cases hc : (i : Int) < (t.len : Int)
    · rw [if_pos hc]
      have hi' : i < l.length := by omega
      refine int_idx (ht.ext e04) hi' fun _ q => ⟨_, q, ?_⟩
      have hst := walkF_snoc arcs (l.take i) u 0 l[i]
      rw [← take_snoc' hi', hv] at hst
      simp only at hst
      rw [Bool.cond_decide]
      split
      · rw [if_neg (fun h => by omega)] at hst; exact h2 (walkF_take arcs hi' hst) _ e04
      rw [Bool.cond_decide]
      split
      · rw [if_neg (fun h => by omega)] at hst; exact h2 (walkF_take arcs hi' hst) _ e04
      obtain ⟨k, hk⟩ := Int.eq_ofNat_of_zero_le (show 0 ≤ l[i] by omega)
      rw [hk] at hst ⊢
      rw [Int.toNat_natCast] at hst
      have hkl : k < arcs.length := by omega
      refine do_idx (h.ext e04) hkl fun _ a0 _ _ => ⟨_, a0, ?_⟩
      rw [arcA_get hkl]
      by_cases hf : (arcA arcs k).1 = v
      · rw [show ((arcA arcs k).1 != v) = false by simpa using hf, cond_false]
        rw [if_pos ⟨by omega, by omega, hf⟩] at hst
        refine do_idx (h.ext e04) hkl fun _ _ _ a2 => ⟨_, a2, ?_⟩
        refine do_idx (h.ext e04) hkl fun _ _ a1 _ => ⟨_, a1, ?_⟩
        rw [arcA_get hkl]
        obtain ⟨_, _, q3, q4, _⟩ := walkF_wk ok _ _ _ _ _ (show 0 ≤ u by omega) (by omega) hv
        have oka := ok.at hkl; unfold OkArc at oka
        have hli : (l.take i).length ≤ l.length := by rw [List.length_take]; omega
        exact hJ1 (i + 1) _ _ ⟨by rw [hst, w64 (by omega) (by omega)], wsucc (m := 2 ^ 40) (by omega) (by omega), by omega, rfl⟩ (by omega)
      · rw [show ((arcA arcs k).1 != v) = true by simpa using hf, cond_true]
        rw [if_neg (fun h => hf h.2.2)] at hst
        exact h2 (walkF_take arcs hi' hst) _ e04
    · rw [if_neg hc]
      have : i = l.length := by omega
      subst this
      rw [List.take_length] at hv
      exact hJ _ _ ⟨rfl, hv⟩
  · rw [show (c != 0) = true by simpa using fun e => ok (hcc.1 e), cond_true]
    exact h2 (by unfold walkR; rw [if_neg (fun h => ok h.1)]) _ e04
end
end Go.Sh
