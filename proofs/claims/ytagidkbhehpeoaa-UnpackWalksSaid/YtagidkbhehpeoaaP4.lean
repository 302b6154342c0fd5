/- DistRef, UnPure, HierCheck, HierPut, HierRows, HierNew, HierApi, HierRef, HierRef2, HierTwo, SpClimb, RefMap, SpRows, RefLeft, RefNext, RefNear, SpRef, SpKnown, RefNeed, RefTake, RefBuild, RefBuild2, HierOfMaps: merged into one text. -/
import Derived.Test.YtagidkbhehpeoaaP3
import Derived.Test.YtagidkbhehpeoaaP2
/- The reference of layer 7, and what its laws lean on. -/
set_option maxRecDepth 100000
namespace Go.Sh
open Go.RowKit

section
variable {CV : CVT} {w : World} {N : Int} {s : SV} {arcs : List Arc}

/-- Where arcs lead, and how long they are. -/
def walkF (arcs : List Arc) : Int → Int → List Int → Option (Int × Int)
  | s, d, [] => some (s, d)
  | s, d, k :: l => if 0 ≤ k ∧ k < (arcs.length : Int) ∧ (arcA arcs k.toNat).1 = s then walkF arcs (arcA arcs k.toNat).2.1 (d + (arcA arcs k.toNat).2.2) l else none
noncomputable def walkR (N : Int) (arcs : List Arc) (s : Int) (l : List Int) : Option (Int × Int) := by
  classical exact if OkMap N arcs ∧ 0 ≤ s ∧ s < N then walkF arcs s 0 l else none
theorem walkF_snoc (arcs : List Arc) : ∀ (l : List Int) (s d : Int) (k : Int), walkF arcs s d (l ++ [k]) = match walkF arcs s d l with
    | some (s', d') => if 0 ≤ k ∧ k < (arcs.length : Int) ∧ (arcA arcs k.toNat).1 = s' then some ((arcA arcs k.toNat).2.1, d' + (arcA arcs k.toNat).2.2) else none
    | none => none
  | [], s, d, k => rfl
  | j :: l, s, d, k => by
    simp only [List.cons_append, walkF]
    split
    · exact walkF_snoc arcs l _ _ k
    · rfl
theorem walkF_app (arcs : List Arc) : ∀ (l m : List Int) (s d : Int), walkF arcs s d (l ++ m) = match walkF arcs s d l with
    | some (s', d') => walkF arcs s' d' m
    | none => none
  | [], m, s, d => rfl
  | j :: l, m, s, d => by
    simp only [List.cons_append, walkF]
    split
    · exact walkF_app arcs l m _ _
    · rfl
theorem walkF_take (arcs : List Arc) {l : List Int} {i : Nat} (_hi : i < l.length) {s d : Int} (h : walkF arcs s d (l.take (i + 1)) = none) : walkF arcs s d l = none := by
  have : l = l.take (i + 1) ++ l.drop (i + 1) := (List.take_append_drop _ _).symm
  rw [this, walkF_app, h]
theorem walkF_wk (ok : OkMap N arcs) : ∀ (l : List Int) (s d s' d' : Int), 0 ≤ s → s < N → walkF arcs s d l = some (s', d') → 0 ≤ s' ∧ s' < N ∧ d ≤ d' ∧ d' ≤ d + 2147483648 * (l.length : Int) ∧ Wk (EA arcs) s.toNat s'.toNat (d' - d)
  | [], s, d, s', d', h0, h1, h => by
    simp only [walkF, Option.some.injEq, Prod.mk.injEq] at h
    obtain ⟨rfl, rfl⟩ := h
    exact ⟨h0, h1, Int.le_refl _, by simp, by rw [Int.sub_self]; exact .nil⟩
  | k :: l, s, d, s', d', h0, h1, h => by
    simp only [walkF] at h
    split at h
    · rename_i hk
      have hkl : k.toNat < arcs.length := by omega
      have oka := ok.at hkl
      unfold OkArc at oka
      obtain ⟨q1, q2, q3, q4, q5⟩ := walkF_wk ok l _ _ _ _ (by omega) (by omega) h
      refine ⟨q1, q2, by omega, by simp only [List.length_cons]; omega, ?_⟩
      have e : EA arcs s.toNat (arcA arcs k.toNat).2.1.toNat (arcA arcs k.toNat).2.2 := by
        have := EA_of ok hkl
        unfold frA toA wtA at this
        rw [hk.2.2] at this; exact this
      exact (Wk.cons e q5).of_eq (by omega)
    · cases h
theorem rWalk_ok {t : SV} {l : List Int} {u : Int} {K : Int → Int → Bool → World → Prop} (h : View RD w s arcs) (ht : View RI w t l) (hn : l.length < 2 ^ 30)
    (h1 : ∀ v d, walkR N arcs u l = some (v, d) → ∀ w', Ext w w' → K v d true w') (h2 : walkR N arcs u l = none → ∀ w', Ext w w' → K 0 0 false w') : sh_postroadref07_Walk N s u t K w := by
  unfold sh_postroadref07_Walk
  intro b1 w2 e2 g1 g1'
  have hl := h.len; have hlt := ht.len
  refine check5_ok (h.ext e2) fun c w4 e4 hcc => ⟨kp1 e4 (by omega), ?_⟩
  have e04 := e2.trans e4
  by_cases ok : OkMap N arcs
  · rw [hcc.2 ok, bne_self_eq_false, cond_false]
    rw [Bool.cond_decide]
    split
    · exact h2 (by unfold walkR; rw [if_neg (fun h => by omega)]) _ e04
    rw [Bool.cond_decide]
    split
    · exact h2 (by unfold walkR; rw [if_neg (fun h => by omega)]) _ e04
    have hW : walkR N arcs u l = walkF arcs u 0 l := by unfold walkR; rw [if_pos ⟨ok, by omega, by omega⟩]
    rw [hW] at h1 h2
    refine Join.cut (fun (x : Int × Int × Unit) w' => w' = w4 ∧ walkF arcs u 0 l = some (x.1, x.2.1)) (fun J hJ => ?_) (fun x w' ⟨e, hx⟩ => h1 _ _ hx _ (by subst e; exact e04))
    refine LoopT.gh (γ := Nat) (fun i (st : Int × Int × Int × Unit) w' => walkF arcs u 0 (l.take i) = some (st.1, st.2.1) ∧ st.2.2.1 = i ∧ i ≤ l.length ∧ w' = w4) (fun i => l.length - i) 0 ⟨rfl, rfl, Nat.zero_le _, rfl⟩ ?_
    rintro i ⟨v, d, x, _⟩ w8 ⟨hv, hx, hi, rfl⟩ J1 hJ1
    simp only at hv hx; subst hx
    dsimp only
    rw [Bool.cond_decide]
    by_cases hc : (i : Int) < (t.len : Int)
    · rw [if_pos hc]
      have hi' : i < l.length := by omega
      refine int_idx (ht.ext e04) hi' fun _ q => ⟨_, q, ?_⟩
      have hst := walkF_snoc arcs (l.take i) u 0 l[i]
      rw [← take_snoc' hi', hv] at hst
      simp only at hst
      rw [Bool.cond_decide]
      split
      · rw [if_neg (fun h => by omega)] at hst; exact h2 (walkF_take arcs hi' hst) _ e04
      rw [Bool.cond_decide]
      split
      · rw [if_neg (fun h => by omega)] at hst; exact h2 (walkF_take arcs hi' hst) _ e04
      obtain ⟨k, hk⟩ := Int.eq_ofNat_of_zero_le (show 0 ≤ l[i] by omega)
      rw [hk] at hst ⊢
      rw [Int.toNat_natCast] at hst
      have hkl : k < arcs.length := by omega
      refine do_idx (h.ext e04) hkl fun _ a0 _ _ => ⟨_, a0, ?_⟩
      rw [arcA_get hkl]
      by_cases hf : (arcA arcs k).1 = v
      · rw [show ((arcA arcs k).1 != v) = false by simpa using hf, cond_false]
        rw [if_pos ⟨by omega, by omega, hf⟩] at hst
        refine do_idx (h.ext e04) hkl fun _ _ _ a2 => ⟨_, a2, ?_⟩
        refine do_idx (h.ext e04) hkl fun _ _ a1 _ => ⟨_, a1, ?_⟩
        rw [arcA_get hkl]
        obtain ⟨_, _, q3, q4, _⟩ := walkF_wk ok _ _ _ _ _ (show 0 ≤ u by omega) (by omega) hv
        have oka := ok.at hkl; unfold OkArc at oka
        have hli : (l.take i).length ≤ l.length := by rw [List.length_take]; omega
        exact hJ1 (i + 1) _ _ ⟨by rw [hst, w64 (by omega) (by omega)], wsucc (m := 2 ^ 40) (by omega) (by omega), by omega, rfl⟩ (by omega)
      · rw [show ((arcA arcs k).1 != v) = true by simpa using hf, cond_true]
        rw [if_neg (fun h => hf h.2.2)] at hst
        exact h2 (walkF_take arcs hi' hst) _ e04
    · rw [if_neg hc]
      have : i = l.length := by omega
      subst this
      rw [List.take_length] at hv
      exact hJ _ _ ⟨rfl, hv⟩
  · rw [show (c != 0) = true by simpa using fun e => ok (hcc.1 e), cond_true]
    exact h2 (by unfold walkR; rw [if_neg (fun h => ok h.1)]) _ e04
end
end Go.Sh

/- What a way opens to, and how deep; in plain lists. -/
set_option maxRecDepth 100000
namespace Go.Sh
open Go.RowKit

/-- A way opens to these arcs, so deep, by so many openings. -/
inductive Opn (ways : List Wy) : Nat → List Int → Nat → Nat → Prop
  | arc {k : Nat} (hk : k < ways.length) (hm : yM ways[k] = -1) : Opn ways k [yA ways[k]] 1 1
  | mid {k a b : Nat} {l m : List Int} {d e s t : Nat} (hk : k < ways.length) (hm : yM ways[k] ≠ -1) (ha : findW ways (yF ways[k]) (yM ways[k]) = some a) (hb : findW ways (yM ways[k]) (yT ways[k]) = some b)
      (h1 : Opn ways a l d s) (h2 : Opn ways b m e t) : Opn ways k (l ++ m) (1 + max d e) (1 + s + t)
section
variable {rank : List Int} {ways : List Wy} {k : Nat} {l l' : List Int} {d d' s s' : Nat}
theorem Opn.lt (h : Opn ways k l d s) : k < ways.length := by cases h <;> assumption
theorem Opn.det (h : Opn ways k l d s) : ∀ {l' d' s'}, Opn ways k l' d' s' → l = l' ∧ d = d' ∧ s = s' := by
  induction h with
  | arc hk hm =>
    intro l' d' s' g
    cases g with
    | arc _ _ => exact ⟨rfl, rfl, rfl⟩
    | mid _ hm' _ _ _ _ => exact absurd hm hm'
  | mid hk hm ha hb h1 h2 i1 i2 =>
    intro l' d' s' g
    cases g with
    | arc _ hm' => exact absurd hm' hm
    | mid _ _ ga gb g1 g2 =>
      rw [ha] at ga; rw [hb] at gb
      injection ga with ga; injection gb with gb
      subst ga gb
      obtain ⟨rfl, rfl, rfl⟩ := i1 g1
      obtain ⟨rfl, rfl, rfl⟩ := i2 g2
      exact ⟨rfl, rfl, rfl⟩
theorem Opn.bd (h : Opn ways k l d s) : 1 ≤ l.length ∧ l.length ≤ s ∧ s + 1 ≤ 2 ^ d ∧ 1 ≤ d := by
  induction h with
  | arc hk hm => simp
  | @mid k a b l m d e s t hk hm ha hb h1 h2 i1 i2 =>
    obtain ⟨p1, p2, p3, p4⟩ := i1
    obtain ⟨q1, q2, q3, q4⟩ := i2
    refine ⟨by simp; omega, by simp; omega, ?_, by omega⟩
    have a1 : 2 ^ d ≤ 2 ^ max d e := Nat.pow_le_pow_right (by decide) (Nat.le_max_left _ _)
    have a2 : 2 ^ e ≤ 2 ^ max d e := Nat.pow_le_pow_right (by decide) (Nat.le_max_right _ _)
    rw [Nat.pow_add]; omega
theorem okW_mid (ok : OkH rank ways) (hk : k < ways.length) (hm : yM ways[k] ≠ -1) : 0 ≤ yM ways[k] ∧ yM ways[k] < rank.length ∧ rkA rank (yM ways[k]) < rkA rank (yF ways[k]) ∧ rkA rank (yM ways[k]) < rkA rank (yT ways[k]) ∧
    ∃ a b, findW ways (yF ways[k]) (yM ways[k]) = some a ∧ findW ways (yM ways[k]) (yT ways[k]) = some b ∧ wW ways a + wW ways b = yW ways[k] := by
  have := ok.w _ (List.getElem_mem hk)
  unfold OkW at this
  rw [if_neg hm] at this
  exact this.2
theorem rk_ge (ok : OkH rank ways) {v : Int} (h0 : 0 ≤ v) (h1 : v < rank.length) : 0 ≤ rkA rank v ∧ rkA rank v < rank.length := by
  obtain ⟨u, rfl⟩ := Int.eq_ofNat_of_zero_le h0
  have hu : u < rank.length := by omega
  rw [← rk_get hu]
  exact ok.r.1 _ (List.getElem_mem hu)
theorem Opn.ex' (ok : OkH rank ways) : ∀ (r : Nat) (k : Nat) (hk : k < ways.length), (rkA rank (yF ways[k]) ≤ r ∨ rkA rank (yT ways[k]) ≤ r) → ∃ l d s, Opn ways k l d s ∧ d ≤ r + 1 := by
  intro r
  induction r with
  | zero =>
    intro k hk hr
    by_cases hm : yM ways[k] = -1
    · exact ⟨_, _, _, .arc hk hm, by omega⟩
    · exfalso
      obtain ⟨m0, m1, m2, m3, _⟩ := okW_mid ok hk hm
      have := rk_ge ok m0 m1; omega
  | succ r ih =>
    intro k hk hr
    by_cases hm : yM ways[k] = -1
    · exact ⟨_, _, _, .arc hk hm, by omega⟩
    · obtain ⟨m0, m1, m2, m3, a, b, ha, hb, _⟩ := okW_mid ok hk hm
      obtain ⟨la, fa, ta, _⟩ := findW_some ha
      obtain ⟨lb, fb, tb, _⟩ := findW_some hb
      obtain ⟨l, d, s, h1, d1⟩ := ih a la (.inr (by rw [ta]; omega))
      obtain ⟨m, e, t, h2, d2⟩ := ih b lb (.inl (by rw [fb]; omega))
      exact ⟨_, _, _, .mid hk hm ha hb h1 h2, by omega⟩
theorem Opn.ex (ok : OkH rank ways) (hk : k < ways.length) : ∃ l d s, Opn ways k l d s ∧ d ≤ rank.length := by
  have hf := ok.f k hk
  unfold OkF at hf
  have := rk_ge ok (v := yF ways[k]) hf.2.2.1 (by omega)
  obtain ⟨l, d, s, h, hd⟩ := Opn.ex' ok (rkA rank (yF ways[k])).toNat k hk (.inl (by omega))
  exact ⟨l, d, s, h, by omega⟩
/-- What a way opens to; nothing, if there is none. -/
noncomputable def opnF (ways : List Wy) (k : Int) : List Int := by
  classical exact if h : 0 ≤ k ∧ ∃ l d s, Opn ways k.toNat l d s then h.2.choose else []
noncomputable def deepF (ways : List Wy) (k : Int) : Int := by
  classical exact if h : 0 ≤ k ∧ ∃ d l s, Opn ways k.toNat l d s then ((h.2.choose : Nat) : Int) else 0
theorem opnF_of (h : Opn ways k l d s) : opnF ways (k : Int) = l := by
  unfold opnF
  have hx : 0 ≤ (k : Int) ∧ ∃ l d s, Opn ways (k : Int).toNat l d s := ⟨by omega, l, d, s, h⟩
  rw [dif_pos hx]
  obtain ⟨d', s', h'⟩ := hx.2.choose_spec
  exact (Opn.det h' h).1
theorem deepF_of (h : Opn ways k l d s) : deepF ways (k : Int) = (d : Int) := by
  unfold deepF
  have hx : 0 ≤ (k : Int) ∧ ∃ d l s, Opn ways (k : Int).toNat l d s := ⟨by omega, d, l, s, h⟩
  rw [dif_pos hx]
  obtain ⟨l', s', h'⟩ := hx.2.choose_spec
  rw [(Opn.det h' h).2.1]
theorem opnF_no {k : Int} (h : ¬ (0 ≤ k ∧ k < (ways.length : Int))) : opnF ways k = [] := by
  unfold opnF
  rw [dif_neg]
  rintro ⟨h0, l, d, s, ho⟩
  exact h ⟨h0, by have := ho.lt; omega⟩
theorem deepF_no {k : Int} (h : ¬ (0 ≤ k ∧ k < (ways.length : Int))) : deepF ways k = 0 := by
  unfold deepF
  rw [dif_neg]
  rintro ⟨h0, d, l, s, ho⟩
  exact h ⟨h0, by have := ho.lt; omega⟩

/-- Of a map's hierarchy a way opens to a walk of the map. -/
theorem Opn.walk {n : Nat} {arcs : List Arc} (hM : MapH n arcs rank ways) (h : Opn ways k l d s) : ∀ (hk : k < ways.length) (x : Int), walkF arcs (yF ways[k]) x l = some (yT ways[k], x + yW ways[k]) := by
  induction h with
  | @arc k hk hm =>
    intro _ x
    obtain ⟨i, hi, ha⟩ := hM.st _ (List.getElem_mem hk) hm
    obtain ⟨hil, hie⟩ := List.getElem?_eq_some_iff.1 ha
    have e : arcA arcs i = (yF ways[k], yT ways[k], yW ways[k]) := by
      unfold arcA
      rw [List.getD_eq_getElem?_getD, ha]; rfl
    rw [hi]
    unfold walkF walkF
    rw [Int.toNat_natCast, e, if_pos ⟨by omega, by omega, rfl⟩]
  | @mid k a b l m d e s t hk hm ha hb h1 h2 i1 i2 =>
    intro _ x
    obtain ⟨_, _, _, _, a', b', ha', hb', hw⟩ := okW_mid hM.ok hk hm
    rw [ha] at ha'; rw [hb] at hb'
    injection ha' with ha'; injection hb' with hb'
    subst ha' hb'
    obtain ⟨la, fa, ta, _⟩ := findW_some ha
    obtain ⟨lb, fb, tb, _⟩ := findW_some hb
    have e1 := i1 la x
    rw [fa, ta] at e1
    have e2 := i2 lb (x + yW ways[a])
    rw [fb, tb] at e2
    rw [walkF_app, e1]
    simp only
    rw [e2]
    have wa : wW ways a = yW ways[a] := by unfold wW; rw [List.getD_eq_getElem?_getD, List.getElem?_eq_getElem la]; rfl
    have wb : wW ways b = yW ways[b] := by unfold wW; rw [List.getD_eq_getElem?_getD, List.getElem?_eq_getElem lb]; rfl
    rw [← hw, wa, wb, Int.add_assoc]
end
end Go.Sh

/- hier's check. -/
set_option maxRecDepth 100000
namespace Go.Sh
open Go.RowKit

theorem MapIs.same {ag : Bool} {n b : Nat} {w w' : World} {m : List (List Int × Value)} (h : MapIs ag n w b m) (e : w'.heap[b]? = w.heap[b]?) : MapIs ag n w' b m := by
  obtain ⟨es, c, h1, h2⟩ := h
  exact ⟨es, c, by rw [e]; exact h1, h2⟩
theorem MapIs.lt {ag : Bool} {n b : Nat} {w : World} {m : List (List Int × Value)} (h : MapIs ag n w b m) : b < w.heap.size := by
  obtain ⟨es, c, h1, _⟩ := h
  exact (Array.getElem?_eq_some_iff.1 h1).1
theorem MapIs.grow {ag : Bool} {n b : Nat} {w w' : World} {m : List (List Int × Value)} (h : MapIs ag n w b m) (e : Ext w w') : MapIs ag n w' b m := h.same (e.blk h.lt)
theorem MapIs.nil {ag : Bool} {n b : Nat} {w : World} (h : w.heap[b]? = some (.map #[] 0)) : MapIs ag n w b [] :=
  ⟨#[], 0, h, rfl, fun p hp => by simp at hp, List.nodup_nil, fun e he => by simp at he, List.nodup_nil⟩

section
variable {w : World} {sr sy : SV} {rank : List Int} {ways : List Wy}

theorem nodup_snoc {α : Type} {l : List α} {x : α} : (l ++ [x]).Nodup ↔ l.Nodup ∧ x ∉ l := by
  rw [List.nodup_append]
  constructor
  · rintro ⟨h1, _, h3⟩; exact ⟨h1, fun hx => h3 x hx x (by simp) rfl⟩
  · rintro ⟨h1, h2⟩; exact ⟨h1, by simp, fun a ha b hb e => by simp at hb; subst hb; subst e; exact h2 ha⟩

/-- The places of the ranks. -/
def Placed (rank : List Int) (g : Nat → Int) : Prop := ∀ v (h : v < rank.length), g rank[v].toNat = (v : Int)

theorem placed_ok {K : SV → Bool → World → Prop} (h : View RI w sr rank) (hn : rank.length < 2 ^ 40)
    (h1 : OkR rank → ∀ s g w', Ext w w' → Own RI w' s (fi rank.length g) → Placed rank g → Fsh w s → K s true w') (h2 : ¬ OkR rank → ∀ w', Ext w w' → K ⟨none, 0, 0⟩ false w') : sh_hier_placed sr K w := by
  unfold sh_hier_placed
  have hl := h.len
  rw [hl]
  refine own_mk (R := RI) (bytes := 8) (by omega) (by omega) (by omega) fun s1 w2 e2 g1 hO => ?_
  simp only [Int.toNat_natCast] at hO
  rw [show RI.z = (0 : Int) from rfl, fi_rep] at hO
  have l1 := hO.view.len
  rw [fi_len] at l1
  refine Join.cut (fun _ w' => Ext w w' ∧ Own RI w' s1 (fi rank.length fun _ => -1)) (fun J hJ => ?_) ?_
  · refine LoopT.gh (γ := Nat) (fun i (st : Int × Unit) w' => st.1 = i ∧ i ≤ rank.length ∧ Ext w w' ∧ Own RI w' s1 (fi rank.length fun j => if j < i then -1 else 0)) (fun i => rank.length - i) 0 ⟨rfl, Nat.zero_le _, e2, (congrArg (Own RI w2 s1) (fi_congr fun j _ => by rw [if_neg (by omega)])).mp hO⟩ ?_
    rintro i ⟨x, _⟩ w6 ⟨hx, hi, e6, hO6⟩ J1 hJ1
    simp only at hx; subst hx
    dsimp only
    rw [Bool.cond_decide]
    by_cases hc : (i : Int) < (s1.len : Int)
    · rw [if_pos hc]
      refine fi_wr hO6 (by omega) fun a put => ?_
      refine put w6 _ _ hO6 fun w8 c8 hO8 => ?_
      refine hJ1 (i + 1) _ _ ⟨wsucc (m := 2 ^ 40) (by omega) (by omega), by omega, ext_chg e6 c8 g1, (congrArg (Own RI w8 s1) (fi_congr fun j _ => ?_)).mp hO8⟩ (by omega)
      by_cases hj : j = i
      · subst hj; rw [if_pos rfl, if_pos (by omega)]
      · rw [if_neg hj]
        by_cases hj2 : j < i
        · rw [if_pos hj2, if_pos (by omega)]
        · rw [if_neg hj2, if_neg (by omega)]
    · rw [if_neg hc]
      exact hJ _ _ ⟨e6, (congrArg (Own RI w6 s1) (fi_congr fun j hj => by rw [if_pos (by omega)])).mp hO6⟩
  rintro _ w10 ⟨e10, hO10⟩
  refine Join.cut (fun _ w' => Ext w w' ∧ OkR rank ∧ ∃ g, Own RI w' s1 (fi rank.length g) ∧ Placed rank g) (fun J hJ => ?_) (fun _ w22 ⟨e22, ok, g, hOg, hg⟩ => h1 ok s1 g w22 e22 hOg hg g1)
  refine LoopT.gh (γ := Nat × (Nat → Int)) (fun gh (st : Int × Unit) w' => st.1 = gh.1 ∧ gh.1 ≤ rank.length ∧ Ext w w' ∧ Own RI w' s1 (fi rank.length gh.2) ∧ (∀ r ∈ rank.take gh.1, 0 ≤ r ∧ r < rank.length) ∧ (rank.take gh.1).Nodup ∧
      (∀ v (hv : v < gh.1) (hv2 : v < rank.length), gh.2 rank[v].toNat = (v : Int)) ∧ (∀ r, gh.2 r ≠ -1 → ∃ v, ∃ hv2 : v < rank.length, v < gh.1 ∧ rank[v].toNat = r)) (fun gh => rank.length - gh.1) (0, fun _ => -1)
    ⟨rfl, Nat.zero_le _, e10, hO10, fun r hr => by simp at hr, by simp, fun v hv => by omega, fun r hr => absurd rfl hr⟩ ?_
  rintro ⟨i, g⟩ ⟨x, _⟩ w14 ⟨hx, hi, e14, hO14, hr, hnd, hg1, hg2⟩ J1 hJ1
  simp only at hx hi hO14 hr hnd hg1 hg2; subst hx
  dsimp only
  rw [Bool.cond_decide]
  by_cases hc : (i : Int) < (rank.length : Int)
  · rw [if_pos hc, ← hl]
    have hi' : i < rank.length := by omega
    refine int_idx (h.ext e14) hi' fun a ha => ⟨_, ha, ?_⟩
    have hmem : rank[i] ∈ rank := List.getElem_mem hi'
    rw [Bool.cond_decide]
    split
    · rename_i hneg; exact h2 (fun ok => by have := (ok.1 _ hmem).1; omega) _ e14
    rename_i hneg
    rw [Bool.cond_decide]
    split
    · rename_i hbig; exact h2 (fun ok => by have := (ok.1 _ hmem).2; omega) _ e14
    rename_i hbig
    obtain ⟨r, hr0⟩ := Int.eq_ofNat_of_zero_le (show 0 ≤ rank[i] by omega)
    rw [hr0]
    refine fi_rd hO14.view (by omega) fun a ha => ⟨_, ha, ?_⟩
    by_cases hgr : g r = -1
    · rw [show (g r != -1) = false by simpa using hgr, cond_false]
      refine fi_wr hO14 (by omega) fun a put => ?_
      refine put w14 _ _ hO14 fun w20 c20 hO20 => ?_
      have hnotin : rank[i] ∉ rank.take i := fun hin => by
        obtain ⟨v, hv, hve⟩ := List.getElem_of_mem hin
        rw [List.length_take] at hv
        rw [List.getElem_take] at hve
        have := hg1 v (by omega) (by omega)
        rw [hve, hr0, Int.toNat_natCast, hgr] at this; omega
      refine hJ1 (i + 1, _) _ _ ⟨wsucc (m := 2 ^ 40) (by omega) (by omega), by simp only; omega, ext_chg e14 c20 g1, hO20, ?_, ?_, fun v hv hv2 => ?_, fun r' hr' => ?_⟩ (by simp only; omega)
      · intro x hx
        simp only at hx
        rw [take_snoc' hi'] at hx
        rcases List.mem_append.1 hx with hx | hx
        · exact hr x hx
        · simp only [List.mem_singleton] at hx; subst hx; omega
      · simp only
        rw [take_snoc' hi', nodup_snoc]; exact ⟨hnd, hnotin⟩
      · change (if rank[v].toNat = r then (i : Int) else g rank[v].toNat) = (v : Int)
        have hv : v < i + 1 := hv
        by_cases hvi : v = i
        · subst hvi
          have he : rank[v].toNat = r := by rw [hr0]; simp
          rw [if_pos he]
        · have hlt : v < i := by omega
          have hne : rank[v].toNat ≠ r := fun e => by
            have := hg1 v hlt hv2
            rw [e, hgr] at this; omega
          rw [if_neg hne]; exact hg1 v hlt hv2
      · change (if r' = r then (i : Int) else g r') ≠ -1 at hr'
        show ∃ v, ∃ hv2 : v < rank.length, v < i + 1 ∧ rank[v].toNat = r'
        by_cases hrr : r' = r
        · exact ⟨i, hi', by omega, by rw [hr0, hrr]; simp⟩
        · rw [if_neg hrr] at hr'
          obtain ⟨v, hv2, hv, he⟩ := hg2 r' hr'
          exact ⟨v, hv2, by omega, he⟩
    · rw [show (g r != -1) = true by simpa using hgr, cond_true]
      obtain ⟨v, hv2, hv, he⟩ := hg2 r hgr
      refine h2 (fun ok => ?_) _ e14
      have hrv := (ok.1 _ (List.getElem_mem hv2)).1
      have heq : rank[v] = rank[i] := by rw [hr0]; omega
      have := (List.getElem_inj (h₀ := hv2) (h₁ := hi') ok.2).1 heq
      omega
  · rw [if_neg hc]
    have : i = rank.length := by omega
    subst this
    rw [List.take_length] at hr hnd
    exact hJ _ _ ⟨e14, ⟨hr, hnd⟩, g, hO14, fun v hv => hg1 v hv hv⟩

theorem found_ok {K : Option Nat → Bool → World → Prop} (hlr : sr.len = rank.length) (h : View RW w sy ways) (hn : ways.length < 2 ^ 40)
    (h1 : OkFs rank.length ways → ∀ r mm w', Ext w w' → MapIs true 2 w' r mm → MapOk mm ways → w.heap.size ≤ r → K (some r) true w') (h2 : ¬ OkFs rank.length ways → ∀ w', Ext w w' → K none false w') : sh_hier_found sr sy K w := by
  unfold sh_hier_found
  intro b1 w2 e2 g1 g1'
  have hl := h.len
  have z2 := e2.size
  intro r w4 e4 hr hm
  have z4 := e4.size
  refine Join.cut (fun _ w' => Ext w w' ∧ OkFs rank.length ways ∧ ∃ mm, MapIs true 2 w' r mm ∧ MapOk mm ways) (fun J hJ => ?_) (fun _ w25 ⟨e25, ok, mm, hM, hMo⟩ => h1 ok r mm w25 e25 hM hMo (by omega))
  refine LoopT.gh (γ := Nat) (fun i (st : Int × Unit) w' => st.1 = i ∧ i ≤ ways.length ∧ Ext w w' ∧ w4.heap.size ≤ w'.heap.size ∧ OkFs rank.length (ways.take i) ∧ ∃ mm, MapIs true 2 w' r mm ∧ MapOk mm (ways.take i)) (fun i => ways.length - i) 0
    ⟨rfl, Nat.zero_le _, e2.trans e4, Nat.le_refl _, fun i hi => by simp at hi, [], MapIs.nil hm, MapOk.nil⟩ ?_
  rintro i ⟨x, _⟩ w8 ⟨hx, hi, e8, z8, ok, mm, hM, hMo⟩ J1 hJ1
  simp only at hx; subst hx
  dsimp only
  rw [Bool.cond_decide]
  by_cases hc : (i : Int) < (sy.len : Int)
  · rw [if_pos hc]
    have hi' : i < ways.length := by omega
    refine way_idx (h.ext e8) hi' fun a _ a0 a1 a2 a3 a4 => ⟨_, a0, _, a1, _, a2, _, a3, _, a4, ?_⟩
    generalize hy : ways[i] = y
    intro b15 w16 e16 g15 g15' w17 o17
    have z16 := e16.size; have z17 := o17.size
    have e17 : Ext w w17 := ext_off (e8.trans e16) o17 (by have := e8.size; omega)
    have hM17 : MapIs true 2 w17 r mm := (hM.grow e16).same (o17.block r (by have := hM.lt; omega))
    have bad : ¬ OkF rank.length (ways.take i) y → K none false w17 := fun hno => h2 (fun okf => hno (by rw [← hy]; exact okf i hi')) w17 e17
    have hlk := hMo (yF y) (yT y)
    refine Join.cut (fun _ w' => w' = w17 ∧ OkF rank.length (ways.take i) y) (fun J2 hJ2 => ?_) ?_
    · refine ⟨mm, hM17, (match findW (ways.take i) (yF y) (yT y) with | some k => (k : Int) | none => 0), by rw [hlk]; cases findW (ways.take i) (yF y) (yT y) <;> rfl, ?_⟩
      rw [hlk]
      cases hf : findW (ways.take i) (yF y) (yT y) with
      | some k =>
        simp only [Option.map_some, Option.isSome_some, cond_true]
        exact bad fun o => by rw [o.1] at hf; cases hf
      | none =>
        simp only [Option.map_none, Option.isSome_none, cond_false, min3, max2]
        by_cases c1 : yF y = yT y
        · rw [show (yF y == yT y) = true by simpa using c1, cond_true, cond_true]
          exact bad fun o => o.2.1 c1
        rw [show (yF y == yT y) = false by simpa using c1, cond_false, Bool.cond_decide]
        by_cases c2 : yF y < 0 ∨ yT y < 0 ∨ yW y < 0
        · rw [if_pos c2, decide_eq_true c2, cond_true]
          exact bad fun o => by unfold OkF at o; omega
        rw [if_neg c2, Bool.cond_decide]
        by_cases c3 : yF y ≥ (sr.len : Int) ∨ yT y ≥ (sr.len : Int)
        · rw [if_pos c3, decide_eq_true c3, cond_true]
          exact bad fun o => by unfold OkF at o; omega
        rw [if_neg c3, Bool.cond_decide]
        by_cases c4 : yW y > 1152921504606846976
        · rw [if_pos c4]
          exact bad fun o => by unfold OkF at o; omega
        rw [if_neg c4]
        exact hJ2 _ _ ⟨rfl, hf, c1, by omega, by omega, by omega, by omega, by omega, by omega⟩
    rintro _ w22 ⟨rfl, hok⟩
    refine ⟨r, rfl, mm, hM17, fun w23 o23 hM23 => ⟨?_, ?_⟩⟩
    · intro c hc
      simp only [List.mem_cons, List.not_mem_nil, or_false] at hc
      have := hM.lt
      exact o23.block c (by omega)
    have z23 := o23.size
    refine hJ1 (i + 1) _ _ ⟨wsucc (m := 2 ^ 40) (by omega) (by omega), by omega, ext_off e17 o23 (by omega), by omega, ?_, _, hM23, ?_⟩ (by omega)
    · intro j hj
      rw [List.length_take] at hj
      rw [List.getElem_take, List.take_take, Nat.min_eq_left (by omega)]
      by_cases hji : j = i
      · subst hji; rw [hy]; exact hok
      · have := ok j (by rw [List.length_take]; omega)
        rw [List.getElem_take, List.take_take, Nat.min_eq_left (by omega)] at this
        exact this
    · have := hMo.step hok.1
      rw [List.length_take, Nat.min_eq_left (by omega)] at this
      rw [take_snoc' hi', hy]; exact this
  · rw [if_neg hc]
    have : i = ways.length := by omega
    subst this
    rw [List.take_length] at ok hMo
    exact hJ _ _ ⟨e8, ok, mm, hM, hMo⟩

def gN : Option Nat → Int | none => 0 | some k => (k : Int)
theorem halves_ok {r : Nat} {mm : List (List Int × Value)} {f t wd m ar : Int} {K : Int → Int → Bool → World → Prop} (hM : MapIs true 2 w r mm) (hMo : MapOk mm ways)
    (hk : ∀ w', Ext w w' → K (gN (findW ways f m)) (gN (findW ways m t)) ((findW ways f m).isSome && (findW ways m t).isSome) w') : sh_hier_halves sr sy (some r) f t wd m ar K w := by
  unfold sh_hier_halves
  intro b1 w2 e2 _ _ b3 w4 e4 _ _
  have e := e2.trans e4
  have h1 := hMo f m
  have h2 := hMo m t
  refine ⟨mm, hM.grow e, gN (findW ways f m), by rw [h1]; cases findW ways f m <;> rfl, mm, hM.grow e, gN (findW ways m t), by rw [h2]; cases findW ways m t <;> rfl, ?_⟩
  rw [h1, h2]
  have := hk w4 e
  cases h3 : findW ways f m with
  | none => rw [h3] at this; exact this
  | some k =>
    rw [h3] at this
    simp only [Option.map_some, Option.isSome_some, cond_true, Option.isSome_map, Bool.true_and] at this ⊢
    exact this

theorem wW_get {k : Nat} (h : k < ways.length) : yW ways[k] = wW ways k := by
  unfold wW; rw [List.getD_eq_getElem?_getD, List.getElem?_eq_getElem h]; rfl

theorem right_ok {r : Nat} {mm : List (List Int × Value)} {y : Wy} {K : Bool → World → Prop} (hr : View RI w sr rank) (hy : View RW w sy ways) (hM : MapIs true 2 w r mm) (hMo : MapOk mm ways) (okf : OkFs rank.length ways) (hmem : y ∈ ways)
    (hk : ∀ b w', Ext w w' → (b = true ↔ OkW rank ways y) → K b w') : sh_hier_right sr sy (some r) (yF y) (yT y) (yW y) (yM y) (yA y) K w := by
  unfold sh_hier_right
  intro b1 w2 e2 g1 g1' b3 w4 e4 g3 g3'
  have z2 := e2.size; have z4 := e4.size
  have e := e2.trans e4
  have hl := hr.len
  obtain ⟨i, hi, hyi⟩ := List.getElem_of_mem hmem
  have oky := okf i hi
  rw [hyi] at oky
  obtain ⟨_, _, f0, t0, f1, t1, _, _⟩ := oky
  by_cases hm : yM y = -1
  · rw [show (yM y == -1) = true by simpa using hm, cond_true, Bool.cond_decide]
    have hW : OkW rank ways y ↔ (0 ≤ yA y ∧ yA y < 67108864) := by unfold OkW; rw [if_pos hm]
    split
    · rename_i ha; exact hk _ _ e (by rw [hW, decide_eq_true_iff]; omega)
    · rename_i ha; exact hk _ _ e ⟨fun h => (by cases h), fun h => absurd (hW.1 h).1 (by omega)⟩
  rw [show (yM y == -1) = false by simpa using hm, cond_false]
  have hW : OkW rank ways y ↔ (yA y = -1 ∧ 0 ≤ yM y ∧ yM y < rank.length ∧ rkA rank (yM y) < rkA rank (yF y) ∧ rkA rank (yM y) < rkA rank (yT y) ∧
    ∃ a b, findW ways (yF y) (yM y) = some a ∧ findW ways (yM y) (yT y) = some b ∧ wW ways a + wW ways b = yW y) := by unfold OkW; rw [if_neg hm]
  have no : ¬ OkW rank ways y → ∀ w5, Ext w4 w5 → K false w5 := fun hno w5 e5 => hk _ _ (e.trans e5) ⟨fun h => (by cases h), fun h => absurd h hno⟩
  by_cases ha : yA y ≠ -1
  · rw [show (yA y != -1) = true by simpa using ha, cond_true]
    exact no fun h => ha (hW.1 h).1
  have ha : yA y = -1 := by omega
  rw [show (yA y != -1) = false by simpa using ha, cond_false, Bool.cond_decide]
  split
  · exact no fun h => by have := (hW.1 h).2.1; omega
  rw [Bool.cond_decide]
  split
  · exact no fun h => by have := (hW.1 h).2.2.1; omega
  rename_i hm0 hm1
  obtain ⟨m, hmm⟩ := Int.eq_ofNat_of_zero_le (show 0 ≤ yM y by omega)
  obtain ⟨f, hff⟩ := Int.eq_ofNat_of_zero_le f0
  obtain ⟨t, htt⟩ := Int.eq_ofNat_of_zero_le t0
  have hr4 := hr.ext e
  rw [hmm, hff, htt]
  refine int_idx hr4 (by omega) fun _ q => ⟨_, q, ?_⟩
  refine int_idx hr4 (by omega) fun _ q => ⟨_, q, ?_⟩
  refine int_idx hr4 (by omega) fun _ q => ⟨_, q, ?_⟩
  rw [rk_get (show m < rank.length by omega), rk_get (show f < rank.length by omega), rk_get (show t < rank.length by omega), ← hmm, ← hff, ← htt]
  intro w14 e14
  have z14 := e14.size
  simp only [min2]
  rw [Bool.cond_decide]
  split
  · rename_i hlt
    refine no (fun h => ?_) _ e14
    obtain ⟨_, _, _, h4, h5, _⟩ := hW.1 h
    omega
  rename_i hlt
  have hlt2 : rkA rank (yM y) < rkA rank (yF y) ∧ rkA rank (yM y) < rkA rank (yT y) := by omega
  have e014 := e.trans e14
  refine halves_ok (hM.grow e014) hMo fun w18 e18 => ⟨kp_ext e18 (by (intro b hb; simp only [List.mem_cons, List.not_mem_nil, or_false] at hb; omega)), ?_⟩
  have e018 := e14.trans e18
  cases h1 : findW ways (yF y) (yM y) with
  | none =>
    simp only [Option.isSome_none, Bool.false_and, cond_false]
    intro w24 e24
    exact no (fun h => by obtain ⟨_, _, _, _, _, a, b, q1, _, _⟩ := hW.1 h; rw [h1] at q1; cases q1) _ (e018.trans e24)
  | some a =>
    cases h2 : findW ways (yM y) (yT y) with
    | none =>
      simp only [Option.isSome_none, Bool.and_false, cond_false]
      intro w24 e24
      exact no (fun h => by obtain ⟨_, _, _, _, _, a, b, _, q2, _⟩ := hW.1 h; rw [h2] at q2; cases q2) _ (e018.trans e24)
    | some b =>
      simp only [Option.isSome_some, Bool.and_self, cond_true, gN]
      obtain ⟨hka, _, _, _⟩ := findW_some h1
      obtain ⟨hkb, _, _, _⟩ := findW_some h2
      have hy18 := hy.ext (e.trans e018)
      have wa := okf a hka; have wb := okf b hkb
      unfold OkF at wa wb
      refine way_idx hy18 hka fun q hq _ _ q2 _ _ => ⟨yW ways[a], ?_, ?_⟩
      · rw [add_add _ hq] at q2 ⊢; rw [addm]; exact q2
      refine way_idx hy18 hkb fun q hq _ _ q2 _ _ => ⟨yW ways[b], ?_, ?_⟩
      · rw [add_add _ hq] at q2 ⊢; rw [addm]; exact q2
      intro w23 e23
      refine hk _ _ (e.trans (e018.trans e23)) ?_
      rw [w64 (by omega) (by omega), beq_iff_eq, hW, wW_get hka, wW_get hkb]
      constructor
      · intro hs; exact ⟨ha, by omega, by omega, hlt2.1, hlt2.2, a, b, h1, h2, hs⟩
      · rintro ⟨_, _, _, _, _, a', b', q1, q2, hs⟩
        rw [h1] at q1; rw [h2] at q2
        injection q1 with q1; injection q2 with q2
        subst q1 q2; exact hs

/-- Neither is too long. -/
def OkL (rank : List Int) (ways : List Wy) : Prop := rank.length ≤ 16777216 ∧ ways.length ≤ 67108864

/-- What check has laid. -/
structure ChkM (w0 w : World) (hb : Nat) (sr sy s3 : SV) (r : Nat) (rank : List Int) (ways : List Wy) (g : Nat → Int) (mm : List (List Int × Value)) : Prop where
  hd : Blk w hb [.slice sr.a sr.len sr.cap, .slice sy.a sy.len sy.cap, .slice s3.a s3.len s3.cap, .map (some r), .slice none 0 0, .slice none 0 0]
  at_ : Own RI w s3 (fi rank.length g)
  pl : Placed rank g
  m : MapIs true 2 w r mm
  mo : MapOk mm ways
  ghb : w0.heap.size ≤ hb
  gs : Fsh w0 s3
  gr : w0.heap.size ≤ r
  d3 : ¬ s3.blk hb
  dr : r ≠ hb

theorem check_ok {K : Option Addr → Int → World → Prop} (hr : View RI w sr rank) (hy : View RW w sy ways)
    (h1 : OkH rank ways → ∀ hb s3 r g mm w', Ext w w' → ChkM w w' hb sr sy s3 r rank ways g mm → K (some ⟨hb, 0, none⟩) 0 w')
    (h2 : ¬ OkH rank ways → ∀ c w', Ext w w' → c ≠ 0 → (OkL rank ways → c = 2) → (¬ OkL rank ways → c = 3) → K none c w') : sh_hier_check sr sy K w := by
  unfold sh_hier_check
  intro b1 w2 e2 g1 g1'
  have z2 := e2.size
  have lr := hr.len; have ly := hy.len
  rw [Bool.cond_decide]
  split
  · rename_i c; exact h2 (fun ok => by have := ok.n; omega) 3 _ e2 (by decide) (fun h => by unfold OkL at h; omega) (fun _ => rfl)
  rename_i c1
  rw [Bool.cond_decide]
  split
  · rename_i c; exact h2 (fun ok => by have := ok.k; omega) 3 _ e2 (by decide) (fun h => by unfold OkL at h; omega) (fun _ => rfl)
  rename_i c2
  have okl : OkL rank ways := ⟨by omega, by omega⟩
  have bad : ¬ OkH rank ways → ∀ w', Ext w w' → K none 2 w' := fun hno w' e => h2 hno 2 w' e (by decide) (fun _ => rfl) (fun h => absurd okl h)
  -- behind 'placed' and 'found'
  refine placed_ok (hr.ext e2) (by omega) (fun okr s3 g w5 e5 hO3 hpl f3 => ⟨kp_ext e5 (by (intro b hb; simp only [List.mem_cons, List.not_mem_nil, or_false] at hb; omega)), ?_⟩) (fun hno w5 e5 => ⟨kp_ext e5 (by (intro b hb; simp only [List.mem_cons, List.not_mem_nil, or_false] at hb; omega)), ?_⟩)
  rotate_left
  · have z5 := e5.size
    refine found_ok (rank := rank) lr (hy.ext (e2.trans e5)) (by omega) (fun _ r mm w8 e8 _ _ _ => ⟨kp_ext e8 (by (intro b hb; simp only [List.mem_cons, List.not_mem_nil, or_false] at hb; omega)), ?_⟩) (fun _ w8 e8 => ⟨kp_ext e8 (by (intro b hb; simp only [List.mem_cons, List.not_mem_nil, or_false] at hb; omega)), ?_⟩)
    · simp only [Bool.not_false, cond_true]; exact bad (fun ok => hno ok.r) _ ((e2.trans e5).trans e8)
    · simp only [Bool.not_false, cond_true]; exact bad (fun ok => hno ok.r) _ ((e2.trans e5).trans e8)
  have z5 := e5.size
  refine found_ok (rank := rank) lr (hy.ext (e2.trans e5)) (by omega) (fun okf r mm w8 e8 hM hMo gr => ⟨kp_ext e8 (by (intro b hb; simp only [List.mem_cons, List.not_mem_nil, or_false] at hb; omega)), ?_⟩) (fun hno w8 e8 => ⟨kp_ext e8 (by (intro b hb; simp only [List.mem_cons, List.not_mem_nil, or_false] at hb; omega)), ?_⟩)
  rotate_left
  · simp only [Bool.not_true, cond_false, Bool.not_false, cond_true]; exact bad (fun ok => hno ok.f) _ ((e2.trans e5).trans e8)
  simp only [Bool.not_true, cond_false]
  have z8 := e8.size
  have e8' := (e2.trans e5).trans e8
  refine Join.cut (fun _ w' => Ext w8 w' ∧ ∀ y ∈ ways, OkW rank ways y) (fun J hJ => ?_) ?_
  · refine LoopT.gh (γ := Nat) (fun i (st : Int × Unit) w' => st.1 = i ∧ i ≤ ways.length ∧ Ext w8 w' ∧ ∀ y ∈ ways.take i, OkW rank ways y) (fun i => ways.length - i) 0 ⟨rfl, Nat.zero_le _, .refl _, fun y hy => by simp at hy⟩ ?_
    rintro i ⟨x, _⟩ w12 ⟨hx, hi, e12, hok⟩ J1 hJ1
    simp only at hx; subst hx
    dsimp only
    have z12 := e12.size
    rw [Bool.cond_decide]
    by_cases hc : (i : Int) < (sy.len : Int)
    · rw [if_pos hc]
      have hi' : i < ways.length := by omega
      refine way_idx (hy.ext (e8'.trans e12)) hi' fun a _ a0 a1 a2 a3 a4 => ⟨_, a0, _, a1, _, a2, _, a3, _, a4, ?_⟩
      intro b19 w20 e20 g19 g19' w21 o21
      have z20 := e20.size; have z21 := o21.size
      have e21 : Ext w8 w21 := ext_off (e12.trans e20) o21 (by omega)
      have e21' := e8'.trans e21
      refine right_ok (hr.ext e21') (hy.ext e21') (hM.grow e21) hMo okf (List.getElem_mem hi') fun b w23 e23 hb => ⟨kp_ext e23 (by (intro b hb; simp only [List.mem_cons, List.not_mem_nil, or_false] at hb; omega)), ?_⟩
      cases b with
      | false =>
        simp only [Bool.not_false, cond_true]
        refine bad (fun ok => ?_) _ (e21'.trans e23)
        have := hb.2 (ok.w _ (List.getElem_mem hi')); cases this
      | true =>
        simp only [Bool.not_true, cond_false]
        refine hJ1 (i + 1) _ _ ⟨wsucc (m := 2 ^ 40) (by omega) (by omega), by omega, e21.trans e23, fun y hyt => ?_⟩ (by omega)
        rw [take_snoc' hi'] at hyt
        rcases List.mem_append.1 hyt with hyt | hyt
        · exact hok y hyt
        · simp only [List.mem_singleton] at hyt; subst hyt; exact hb.1 rfl
    · rw [if_neg hc]
      have : i = ways.length := by omega
      subst this
      rw [List.take_length] at hok
      exact hJ _ _ ⟨e12, hok⟩
  rintro _ w25 ⟨e25, hok⟩ b26 w27 e27 g26 g26' hB
  have z25 := e25.size; have z27 := e27.size
  have l3 : ∀ k, s3.blk k → k < w5.heap.size := fun k hk => hO3.lt hk
  have lr' := hM.lt
  exact h1 ⟨okl.1, okl.2, okr, okf, hok⟩ b26 s3 r g mm w27 ((e8'.trans e25).trans e27) ⟨hB, ((hO3.ext e8).ext e25).ext e27, hpl, (hM.grow e25).grow e27, hMo, by omega, f3.ext e2, by omega, fun hk => by have := l3 _ hk; omega, by omega⟩
end
end Go.Sh

/- hier's put: an edge into a row, by its other end. -/
set_option maxRecDepth 100000
namespace Go.Sh
open Go.RowKit

/-- s[lo:] of an owned slice. -/
theorem Own.tail {α : Type} {R : Rc α} {w : World} {s : SV} {xs : List α} (h : Own R w s xs) {lo : Nat} (h1 : lo ≤ xs.length) {K : SV → Prop}
    (hk : ∀ t : SV, View R w t (xs.drop lo) → (∀ b, s.a = some ⟨b, 0, none⟩ → (∃ c, t.a = some ⟨b, c, none⟩) ∧ (lo < xs.length → t.a = some ⟨b, lo * R.sz, none⟩)) → K t) : semSlice R.sz s.a s.len s.cap (some (lo : Int)) none K := by
  obtain ⟨rest, hl, hc, hs⟩ := h
  unfold semSlice
  simp only [Option.getD_some, Option.getD_none, Int.toNat_natCast]
  refine ⟨by omega, fun x hx => (by cases hx), by omega, by omega, hk _ ?_ ?_⟩
  · refine ⟨by simp; omega, ?_, ?_⟩
    · rintro _ p hp
      rcases hs with ⟨ha, _, _⟩ | ⟨b, ha, hB⟩
      · simp only [ha, Option.map_none, ite_self] at hp; cases hp
      · simp only [ha, Option.map_some, addm] at hp
        split at hp <;> (cases hp; rfl)
    · intro i x hx
      have hi' : i < xs.length - lo := by have := (List.getElem?_eq_some_iff.1 hx).1; simp at this; omega
      rw [List.getElem?_drop] at hx
      rcases hs with ⟨ha, hx0, _⟩ | ⟨b, ha, hB⟩
      · subst hx0; simp at hx
      · refine ⟨⟨b, lo * R.sz, none⟩, ?_, fun j v hv => ?_⟩
        · simp only [ha, Option.map_some, addm, Nat.zero_add]
          rw [if_neg (by omega)]
        · have hj : j < R.sz := by rw [← R.len x]; exact (List.getElem?_eq_some_iff.1 hv).1
          have := R.flat_get (xs ++ rest) (lo + i) j x (by rw [List.getElem?_append_left (by omega)]; exact hx) hj
          simp only
          rw [cell_blk hB, show lo * R.sz + i * R.sz + j = (lo + i) * R.sz + j by rw [Nat.add_mul], this]; exact hv
  · intro b hb
    constructor
    · by_cases hcc : s.cap = lo
      · rw [if_pos hcc]; exact ⟨0, hb⟩
      · rw [if_neg hcc, hb]; simp only [Option.map_some, addm]; exact ⟨_, rfl⟩
    · intro hlo
      rw [if_neg (by omega), hb]
      simp only [Option.map_some, addm, Nat.zero_add]

/-- copy(s[k+1:], s[k:]) -/
theorem own_shift {α : Type} {R : Rc α} {w : World} {s : SV} {ys : List α} (h : Own R w s ys) {k : Nat} (hk : k < ys.length) {K : World → World → Prop}
    (hK : ∀ w1 w', Ext w w1 → Chg s.blk w1 w' → Own R w' s (ys.take (k + 1) ++ (ys.drop k).take (ys.length - k - 1)) → K w1 w') :
    semSlice R.sz s.a s.len s.cap (some ((k + 1 : Nat) : Int)) none (fun s16 => semSlice R.sz s.a s.len s.cap (some (k : Int)) none (fun s17 => ∀ w1, Ext w w1 → Cpy R.sz s16 s17 w1 (K w1))) := by
  refine h.tail (by omega) fun t16 v16 a16 => ?_
  refine h.tail (by omega) fun t17 v17 a17 => ?_
  intro w1 e1
  have h1 := h.ext e1
  obtain ⟨rest, hl, hc, hs⟩ := h1
  rcases hs with ⟨_, hx0, _⟩ | ⟨b, ha, hB⟩
  · subst hx0; simp at hk
  have l16 := v16.len; have l17 := v17.len
  rw [List.length_drop] at l16 l17
  have hp17 := (a17 b ha).2 hk
  obtain ⟨c16, hp16⟩ := (a16 b ha).1
  have hsrc := (v17.ext e1).cells
  refine ⟨R.flat ((ys.drop k).take (ys.length - k - 1)), ?_, ?_, ?_, fun w' hnil hoff => ?_⟩
  · rw [R.flat_len, List.length_take, List.length_drop, l16, l17]; congr 1; omega
  · rcases hsrc with hn | ⟨p, hp, hcell⟩
    · left
      have : ys.drop k = [] := by
        cases hd : ys.drop k with
        | nil => rfl
        | cons x l => rw [hd, Rc.flat_cons] at hn; have h3 := R.len x; have h4 := R.pos; rw [(List.append_eq_nil_iff.1 hn).1] at h3; simp at h3; omega
      rw [this]; simp [Rc.flat]
    · refine .inr ⟨p, hp, fun j v hv => hcell j v ?_⟩
      have hd : R.flat (ys.drop k) = R.flat ((ys.drop k).take (ys.length - k - 1)) ++ R.flat ((ys.drop k).drop (ys.length - k - 1)) := by rw [← R.flat_append, List.take_append_drop]
      rw [hd, List.getElem?_append_left (List.getElem?_eq_some_iff.1 hv).1]; exact hv
  · by_cases he : k + 1 < ys.length
    · right
      have hp16' := (a16 b ha).2 he
      refine ⟨_, hp16', rfl, flat_one _, fun j hj => ?_, fun j hj => frozen_blk hB _⟩
      rw [R.flat_len, List.length_take, List.length_drop] at hj
      rw [cell_blk hB, List.getElem?_eq_getElem]; rfl
      rw [R.flat_len, List.length_append]
      have h3 : ((k + 1) + min (ys.length - k - 1) (ys.length - k)) * R.sz ≤ (ys.length + rest.length) * R.sz := Nat.mul_le_mul_right _ (by omega)
      have h4 : ((k + 1) + min (ys.length - k - 1) (ys.length - k)) * R.sz = (k + 1) * R.sz + min (ys.length - k - 1) (ys.length - k) * R.sz := Nat.add_mul _ _ _
      show (k + 1) * R.sz + j < _
      omega
    · left
      rw [show ys.length - k - 1 = 0 by omega]; simp [Rc.flat]
  · obtain ⟨o, hc1, hc2, hcs⟩ := hoff _ hp16
    simp only at o hc1 hc2 hcs
    obtain ⟨cs', hB', hl'⟩ := hcs _ hB
    refine hK w1 w' e1 (.of_off o ⟨_, ha, rfl⟩) ⟨rest, ?_, ?_, .inr ⟨b, ha, ?_⟩⟩
    · rw [hl, List.length_append, List.length_take, List.length_take, List.length_drop]; omega
    · rw [hc, List.length_append, List.length_take, List.length_take, List.length_drop]; omega
    · by_cases he : k + 1 < ys.length
      · have hp16' := (a16 b ha).2 he
        rw [hp16] at hp16'
        have hcc : c16 = (k + 1) * R.sz := by injection hp16' with h; injection h
        subst hcc
        have : cs' = R.flat (ys.take (k + 1) ++ (ys.drop k).take (ys.length - k - 1) ++ rest) := by
          apply List.ext_getElem?
          intro i
          rw [← cell_blk hB', List.append_assoc, R.flat_append, R.flat_append]
          have ht : (R.flat (ys.take (k + 1))).length = (k + 1) * R.sz := by rw [R.flat_len, List.length_take, Nat.min_eq_left (by omega)]
          have hm : (R.flat ((ys.drop k).take (ys.length - k - 1))).length = (ys.length - k - 1) * R.sz := by rw [R.flat_len, List.length_take, List.length_drop]; congr 1; omega
          have hsum : (k + 1) * R.sz + (ys.length - k - 1) * R.sz = ys.length * R.sz := by rw [← Nat.add_mul]; congr 1; omega
          by_cases hi : (k + 1) * R.sz ≤ i ∧ i < ys.length * R.sz
          · have := hc1 (i - (k + 1) * R.sz) _ (List.getElem?_eq_getElem (by rw [hm]; omega))
            rw [show (k + 1) * R.sz + (i - (k + 1) * R.sz) = i by omega] at this
            rw [this, List.getElem?_append_right (by omega), ht, List.getElem?_append_left (by rw [hm]; omega), List.getElem?_eq_getElem (by rw [hm]; omega)]
          · rw [hc2 i (by rw [hm]; omega), cell_blk hB, R.flat_append ys rest]
            by_cases hi2 : i < (k + 1) * R.sz
            · have hy : R.flat ys = R.flat (ys.take (k + 1)) ++ R.flat (ys.drop (k + 1)) := by rw [← R.flat_append, List.take_append_drop]
              rw [List.getElem?_append_left (show i < (R.flat ys).length by rw [R.flat_len]; omega), List.getElem?_append_left (l₁ := R.flat (ys.take (k + 1))) (by omega), hy, List.getElem?_append_left (l₁ := R.flat (ys.take (k + 1))) (by omega)]
            · have hi3 : ys.length * R.sz ≤ i := by omega
              rw [List.getElem?_append_right (show (R.flat ys).length ≤ i by rw [R.flat_len]; exact hi3), List.getElem?_append_right (l₁ := R.flat (ys.take (k + 1))) (by omega), List.getElem?_append_right (by omega), R.flat_len]
              congr 1; omega
        subst this; exact hB'
      · have hz : ys.length - k - 1 = 0 := by omega
        rw [hz] at hnil ⊢
        have hw := hnil (by simp [Rc.flat])
        subst hw
        rw [List.take_zero, List.append_nil, List.take_of_length_le (by omega)]; exact hB

/-- An edge in a row that rises. -/
def insE (e : Int × Int × Int) (l : List (Int × Int × Int)) : List (Int × Int × Int) := l.takeWhile (fun x => decide (x.1 < e.1)) ++ e :: l.dropWhile (fun x => decide (x.1 < e.1))
theorem insE_len (e : Int × Int × Int) (l : List (Int × Int × Int)) : (insE e l).length = l.length + 1 := by
  unfold insE
  have this : (l.takeWhile (fun x => decide (x.1 < e.1)) ++ l.dropWhile (fun x => decide (x.1 < e.1))).length = l.length := by rw [List.takeWhile_append_dropWhile]
  rw [List.length_append] at this
  simp only [List.length_append, List.length_cons]; omega
theorem insE_at {e : Int × Int × Int} : ∀ {l : List (Int × Int × Int)} {k : Nat}, k ≤ l.length → (∀ j (hj : j < l.length), j < k → l[j].1 < e.1) → (∀ h : k < l.length, ¬ l[k].1 < e.1) → insE e l = l.take k ++ e :: l.drop k
  | [], k, hk, _, _ => by simp [insE]
  | x :: l, 0, hk, _, h2 => by
    have := h2 (by simp)
    simp only [List.getElem_cons_zero] at this
    simp [insE, List.takeWhile_cons, List.dropWhile_cons, this]
  | x :: l, k + 1, hk, h1, h2 => by
    have h0 := h1 0 (by simp) (by omega)
    simp only [List.getElem_cons_zero] at h0
    have ih := insE_at (e := e) (l := l) (k := k) (by simpa using hk) (fun j hj hjk => by
      have := h1 (j + 1) (by simp; omega) (by omega); simpa using this) (fun h => by have := h2 (by simp; omega); simpa using this)
    unfold insE at ih ⊢
    simp [List.takeWhile_cons, List.dropWhile_cons, h0, ih]
theorem insE_mem {e x : Int × Int × Int} {l : List (Int × Int × Int)} : x ∈ insE e l ↔ x = e ∨ x ∈ l := by
  have : x ∈ l ↔ x ∈ l.takeWhile (fun x => decide (x.1 < e.1)) ∨ x ∈ l.dropWhile (fun x => decide (x.1 < e.1)) := by
    rw [← List.mem_append, List.takeWhile_append_dropWhile]
  rw [this]; unfold insE
  simp only [List.mem_append, List.mem_cons]
  constructor
  · rintro (h | h | h)
    · exact .inr (.inl h)
    · exact .inl h
    · exact .inr (.inr h)
  · rintro (h | h | h)
    · exact .inr (.inl h)
    · exact .inl h
    · exact .inr (.inr h)
def Rise (l : List (Int × Int × Int)) : Prop := l.Pairwise fun a b => a.1 < b.1
theorem insE_rise {e : Int × Int × Int} {l : List (Int × Int × Int)} (h : Rise l) (hn : ∀ x ∈ l, x.1 ≠ e.1) : Rise (insE e l) := by
  induction l with
  | nil => simp [insE, Rise]
  | cons x l ih =>
    have hp := List.pairwise_cons.1 h
    have hx := hn x List.mem_cons_self
    by_cases hlt : x.1 < e.1
    · have e1 : insE e (x :: l) = x :: insE e l := by simp [insE, List.takeWhile_cons, List.dropWhile_cons, hlt]
      rw [e1]
      refine List.pairwise_cons.2 ⟨fun y hy => ?_, ih hp.2 fun y hy => hn y (List.mem_cons_of_mem _ hy)⟩
      rcases insE_mem.1 hy with rfl | hy
      · exact hlt
      · exact hp.1 y hy
    · have e1 : insE e (x :: l) = e :: x :: l := by simp [insE, List.takeWhile_cons, List.dropWhile_cons, hlt]
      rw [e1]
      refine List.pairwise_cons.2 ⟨fun y hy => ?_, h⟩
      rcases List.mem_cons.1 hy with rfl | hy
      · omega
      · have := hp.1 y hy; omega

theorem put_ok {w : World} {l0 : SV} {xs : List (Int × Int × Int)} {V W A : Int} {K : SV → World → Prop} (h : Own RD w l0 xs) (hr : Rise xs) (hn : xs.length < 2 ^ 40)
    (hk : ∀ s w', Chg l0.blk w w' → (∀ k, s.blk k → l0.blk k ∨ w.heap.size ≤ k) → Own RD w' s (insE (V, W, A) xs) → K s w') : sh_hier_put l0 V W A K w := by
  unfold sh_hier_put
  intro b1 w2 e2 g1 g1'
  have z2 := e2.size
  have hl := h.view.len
  refine Join.cut (fun (x : Int × Unit) w' => Ext w2 w' ∧ ∃ k : Nat, x.1 = (k : Int) ∧ k ≤ xs.length ∧ insE (V, W, A) xs = xs.take k ++ (V, W, A) :: xs.drop k) (fun J hJ => ?_) ?_
  · refine LoopT.gh (γ := Nat) (fun k (st : Int × Unit) w' => st.1 = k ∧ k ≤ xs.length ∧ Ext w2 w' ∧ ∀ h : k < xs.length, ¬ xs[k].1 < V) (fun k => k) xs.length ⟨by simp only; omega, Nat.le_refl _, .refl _, fun h => by omega⟩ ?_
    rintro k ⟨x, _⟩ w6 ⟨hx, hk', e6, hge⟩ J1 hJ1
    simp only at hx; subst hx
    dsimp only
    rw [Bool.cond_decide]
    by_cases hc : (k : Int) > 0
    · rw [if_pos hc, show IntKind.i64.wrap ((k : Int) - 1) = ((k - 1 : Nat) : Int) by rw [w64 (by omega) (by omega)]; omega]
      have hi : k - 1 < xs.length := by omega
      refine do_idx ((h.ext e2).ext e6).view hi fun _ a0 _ _ => ⟨_, a0, ?_⟩
      intro w9 e9
      rw [Bool.cond_decide]
      by_cases hlt : xs[k - 1].1 < V
      · rw [if_pos hlt]
        refine hJ _ _ ⟨e6.trans e9, k, rfl, hk', insE_at hk' (fun j hj hjk => ?_) hge⟩
        by_cases e : j = k - 1
        · subst e; exact hlt
        · have := List.pairwise_iff_getElem.1 hr j (k - 1) hj hi (by omega); simp only; omega
      · rw [if_neg hlt]
        exact hJ1 (k - 1) _ _ ⟨rfl, by omega, e6.trans e9, fun _ => hlt⟩ (by omega)
    · rw [if_neg hc]
      exact hJ _ _ ⟨e6, k, rfl, hk', insE_at hk' (fun j hj hjk => by omega) hge⟩
  · rintro ⟨_, _⟩ w11 ⟨e11, k, rfl, hk', hins⟩
    intro b12 w13 e13 g12 hB
    have z11 := e11.size; have z13 := e13.size
    have h13 := ((h.ext e2).ext e11).ext e13
    refine Own.app (R := RD) h13 (View.one (R := RD) (x := (V, W, A)) hB) (by simp only [List.length_cons, List.length_nil]; omega) (by simp only [List.length_cons, List.length_nil]; omega) fun s14 w15 c15 hs hO => ?_
    have z15 := c15.size
    have nb : ¬ l0.blk b1 := fun hk => by have := h.lt hk; omega
    refine ⟨kp_chg c15 fun c hc => by simp only [List.mem_cons, List.not_mem_nil, or_false] at hc; subst hc; exact ⟨by omega, nb⟩, ?_⟩
    have nb14 : ¬ s14.blk b1 := fun hk => by rcases hs _ hk with h' | h'; exact nb h'; omega
    have hlen : (xs ++ [(V, W, A)]).length = xs.length + 1 := by simp
    simp only
    rw [wsucc (m := 2 ^ 41) (by omega) (by omega)]
    have hsz : (xs ++ [(V, W, A)]).take (k + 1) ++ ((xs ++ [(V, W, A)]).drop k).take ((xs ++ [(V, W, A)]).length - k - 1) = (xs ++ [(V, W, A)]).take (k + 1) ++ xs.drop k := by
      congr 1
      rw [List.drop_append_of_le_length hk', hlen, List.take_append_of_le_length (by rw [List.length_drop]; omega), List.take_of_length_le (by rw [List.length_drop]; omega)]
    refine own_shift (R := RD) hO (k := k) (by omega) (K := fun w18 w19 => Keeps [b1] w18 w19 ∧ ∀ w20, Ext w19 w20 → Idx s14.a s14.len (k : Int) 3 fun a21 => stL w20 a21 [.int .i64 V, .int .i64 W, .int .i64 A] 0 fun w22 => Keeps [b1] w20 w22 ∧ K s14 w22) fun w18 w19 e18 c19 hO19 => ?_
    have z18 := e18.size; have z19 := c19.size
    refine ⟨kp_chg c19 fun c hc => by simp only [List.mem_cons, List.not_mem_nil, or_false] at hc; subst hc; exact ⟨by omega, nb14⟩, fun w20 e20 => ?_⟩
    have z20 := e20.size
    rw [hsz] at hO19
    have hO20 := hO19.ext e20
    have hlt : k < ((xs ++ [(V, W, A)]).take (k + 1) ++ xs.drop k).length := by simp; omega
    refine own_wr (R := RD) hO20 hlt fun b hb hput => ?_
    refine hput (V, W, A) w20 _ hO20 fun w22 o22 hO22 => ⟨kp_chg (.of_off (F := s14.blk) o22 ⟨_, hb, rfl⟩) fun c hc => by simp only [List.mem_cons, List.not_mem_nil, or_false] at hc; subst hc; exact ⟨by omega, nb14⟩, ?_⟩
    have hfin : ((xs ++ [(V, W, A)]).take (k + 1) ++ xs.drop k).set k (V, W, A) = insE (V, W, A) xs := by
      rw [hins, List.set_append_left _ _ (by simp; omega)]
      have : ((xs ++ [(V, W, A)]).take (k + 1)).set k (V, W, A) = xs.take k ++ [(V, W, A)] := by
        apply List.ext_getElem?
        intro j
        rw [List.getElem?_set]
        by_cases hj : k = j
        · subst hj
          rw [if_pos rfl, if_pos (by simp; omega), List.getElem?_append_right (by simp; omega)]
          rw [List.length_take, Nat.min_eq_left hk']; simp
        · rw [if_neg hj, List.getElem?_take]
          by_cases hjk : j < k
          · rw [if_pos (by omega), List.getElem?_append_left (by omega), List.getElem?_append_left (by rw [List.length_take]; omega), List.getElem?_take, if_pos hjk]
          · rw [if_neg (by omega), List.getElem?_eq_none (by simp; omega)]
      rw [this]; simp
    rw [hfin] at hO22
    refine hk s14 w22 ?_ ?_ hO22
    · have c0 : Chg l0.blk w w15 := (Chg.of_ext (F := l0.blk) ((e2.trans e11).trans e13)).trans c15 fun _ _ h => h
      refine (((c0.trans (.of_ext (F := fun _ => False) e18) fun _ _ h => h.elim).trans c19 fun i hi hb => ?_).trans (.of_ext (F := fun _ => False) e20) fun _ _ h => h.elim).trans (.of_off (F := s14.blk) o22 ⟨_, hb, rfl⟩) fun i hi hb => ?_
      · rcases hs i hb with h' | h'
        · exact h'
        · omega
      · rcases hs i hb with h' | h'
        · exact h'
        · omega
    · intro i hi
      rcases hs i hi with h' | h'
      · exact .inl h'
      · right; omega
end Go.Sh

/- Rows of edges: a slice of slices. -/
set_option maxRecDepth 100000
namespace Go.Sh
open Go.RowKit

abbrev Edg := Int × Int × Int
structure Rows (w : World) (s : SV) (svs : List SV) (L : List (List Edg)) : Prop where
  so : Own RS w s svs
  len : svs.length = L.length
  row : ∀ v (h1 : v < svs.length) (h2 : v < L.length), Own RD w svs[v] L[v]
  dj : ∀ u v (hu : u < svs.length) (hv : v < svs.length), u ≠ v → ∀ k, svs[u].blk k → ¬ svs[v].blk k
  ds : ∀ v (hv : v < svs.length) k, svs[v].blk k → ¬ s.blk k
def rowsF (s : SV) (svs : List SV) (k : Nat) : Prop := s.blk k ∨ ∃ v, ∃ h : v < svs.length, svs[v].blk k

section
variable {w w' : World} {s : SV} {svs : List SV} {L : List (List Edg)}
theorem Rows.chg {G : Nat → Prop} (h : Rows w s svs L) (c : Chg G w w') (hd : ∀ k, rowsF s svs k → ¬ G k) : Rows w' s svs L :=
  ⟨h.so.chg c fun k hk => hd k (.inl hk), h.len, fun v h1 h2 => (h.row v h1 h2).chg c fun k hk => hd k (.inr ⟨v, h1, hk⟩), h.dj, h.ds⟩
theorem Rows.ext (h : Rows w s svs L) (e : Ext w w') : Rows w' s svs L := h.chg (G := fun _ => False) (.of_ext e) fun _ _ h => h
theorem Rows.lt (h : Rows w s svs L) {k : Nat} (hk : rowsF s svs k) : k < w.heap.size := by
  rcases hk with hk | ⟨v, hv, hk⟩
  · exact h.so.lt hk
  · exact (h.row v hv (by rw [← h.len]; exact hv)).lt hk
theorem Rows.nil {n : Nat} (h : Own RS w s (List.replicate n ⟨none, 0, 0⟩)) : Rows w s (List.replicate n ⟨none, 0, 0⟩) (List.replicate n []) := by
  refine ⟨h, by simp, fun v h1 h2 => ?_, fun u v hu hv _ k hk => ?_, fun v hv k hk => ?_⟩
  · simp only [List.getElem_replicate]; exact Own.nil
  · simp only [List.getElem_replicate] at hk; obtain ⟨p, hp, _⟩ := hk; cases hp
  · simp only [List.getElem_replicate] at hk; obtain ⟨p, hp, _⟩ := hk; cases hp
theorem rowsF_nil {n : Nat} {k : Nat} : rowsF s (List.replicate n ⟨none, 0, 0⟩) k ↔ s.blk k := by
  constructor
  · rintro (h | ⟨v, hv, hk⟩)
    · exact h
    · simp only [List.getElem_replicate] at hk; obtain ⟨p, hp, _⟩ := hk; cases hp
  · exact .inl

/-- A row that has grown is put back. -/
theorem Rows.store {w1 w2 : World} (h : Rows w s svs L) {v : Nat} (hv : v < svs.length) {s' : SV} {l' : List Edg} (c : Chg svs[v].blk w w1) (hs : ∀ k, s'.blk k → svs[v].blk k ∨ w.heap.size ≤ k) (hO : Own RD w1 s' l') (e : Ext w1 w2) {K : World → Prop}
    (hk : ∀ w3, Chg s.blk w2 w3 → Rows w3 s (svs.set v s') (L.set v l') → (∀ k, rowsF s (svs.set v s') k → rowsF s svs k ∨ w.heap.size ≤ k) → K w3) : Idx s.a s.len (v : Int) 1 (fun a => stL w2 a [.slice s'.a s'.len s'.cap] 0 K) := by
  have hs2 : Own RS w2 s svs := (h.so.chg c fun k h1 h2 => h.ds v hv k h2 h1).ext e
  refine own_wr (R := RS) hs2 hv fun b hb hput => ?_
  refine hput s' w2 _ hs2 fun w3 o hO3 => ?_
  have co : Chg s.blk w2 w3 := .of_off o ⟨_, hb, rfl⟩
  have nS : ∀ k, s'.blk k → ¬ s.blk k := fun k h1 h2 => by
    rcases hs k h1 with h' | h'
    · exact h.ds v hv k h' h2
    · have := h.so.lt h2; omega
  have hlen := h.len
  refine hk w3 co ⟨hO3, by simpa using hlen, fun u h1 h2 => ?_, fun u t hu ht hne k h1 h2 => ?_, fun u hu k h1 => ?_⟩ fun k hk => ?_
  · simp only [List.length_set] at h1 h2
    by_cases huv : v = u
    · subst huv
      simp only [List.getElem_set_self]
      exact (hO.ext e).chg co nS
    · simp only [List.getElem_set_ne huv]
      exact (((h.row u h1 h2).chg c fun k h3 h4 => h.dj u v h1 hv (Ne.symm huv) k h3 h4).ext e).chg co fun k h3 h4 => h.ds u h1 k h3 h4
  · simp only [List.length_set] at hu ht
    rw [List.getElem_set] at h1 h2
    split at h1
    · rename_i e1; subst e1
      rw [if_neg hne] at h2
      rcases hs k h1 with h' | h'
      · exact h.dj v t hv ht hne k h' h2
      · have := (h.row t ht (by omega)).lt h2; omega
    · rename_i e1
      split at h2
      · rename_i e2; subst e2
        rcases hs k h2 with h' | h'
        · exact h.dj v u hv hu e1 k h' h1
        · have := (h.row u hu (by omega)).lt h1; omega
      · exact h.dj u t hu ht hne k h1 h2
  · simp only [List.length_set] at hu
    rw [List.getElem_set] at h1
    split at h1
    · exact nS k h1
    · exact h.ds u hu k h1
  · rcases hk with hk | ⟨u, hu, hk⟩
    · exact .inl (.inl hk)
    · simp only [List.length_set] at hu
      rw [List.getElem_set] at hk
      split at hk
      · rcases hs k hk with h' | h'
        · exact .inl (.inr ⟨v, hv, h'⟩)
        · exact .inr h'
      · exact .inl (.inr ⟨u, hu, hk⟩)
end

/-- The ways up from v, and down to it, of the first i ways. -/
def wyA (ways : List Wy) (i : Nat) : Wy := ways.getD i (0, 0, 0, 0, 0)
theorem wyA_get {ways : List Wy} {i : Nat} (h : i < ways.length) : ways[i] = wyA ways i := by unfold wyA; rw [List.getD_eq_getElem?_getD, List.getElem?_eq_getElem h]; rfl
def IsUp (rank : List Int) (y : Wy) : Prop := rkA rank (yF y) < rkA rank (yT y)
instance (rank : List Int) (y : Wy) : Decidable (IsUp rank y) := by unfold IsUp; infer_instance
def upP (rank : List Int) (ways : List Wy) (v : Int) : Nat → List Edg
  | 0 => []
  | i + 1 => if yF (wyA ways i) = v ∧ IsUp rank (wyA ways i) then insE (yT (wyA ways i), yW (wyA ways i), (i : Int)) (upP rank ways v i) else upP rank ways v i
def dnP (rank : List Int) (ways : List Wy) (v : Int) : Nat → List Edg
  | 0 => []
  | i + 1 => if yT (wyA ways i) = v ∧ ¬ IsUp rank (wyA ways i) then insE (yF (wyA ways i), yW (wyA ways i), (i : Int)) (dnP rank ways v i) else dnP rank ways v i
theorem upP_mem {rank : List Int} {ways : List Wy} {v : Int} {e : Edg} : ∀ {i : Nat}, e ∈ upP rank ways v i ↔ ∃ k, k < i ∧ yF (wyA ways k) = v ∧ IsUp rank (wyA ways k) ∧ e = (yT (wyA ways k), yW (wyA ways k), (k : Int))
  | 0 => by simp [upP]
  | i + 1 => by
    unfold upP
    split
    · rename_i h
      rw [insE_mem, upP_mem]
      constructor
      · rintro (rfl | ⟨k, hk, h1⟩)
        · exact ⟨i, by omega, h.1, h.2, rfl⟩
        · exact ⟨k, by omega, h1⟩
      · rintro ⟨k, hk, h1⟩
        by_cases e : k = i
        · subst e; exact .inl h1.2.2
        · exact .inr ⟨k, by omega, h1⟩
    · rename_i h
      rw [upP_mem]
      constructor
      · rintro ⟨k, hk, h1⟩; exact ⟨k, by omega, h1⟩
      · rintro ⟨k, hk, h1⟩
        by_cases e : k = i
        · subst e; exact absurd ⟨h1.1, h1.2.1⟩ h
        · exact ⟨k, by omega, h1⟩
theorem dnP_mem {rank : List Int} {ways : List Wy} {v : Int} {e : Edg} : ∀ {i : Nat}, e ∈ dnP rank ways v i ↔ ∃ k, k < i ∧ yT (wyA ways k) = v ∧ ¬ IsUp rank (wyA ways k) ∧ e = (yF (wyA ways k), yW (wyA ways k), (k : Int))
  | 0 => by simp [dnP]
  | i + 1 => by
    unfold dnP
    split
    · rename_i h
      rw [insE_mem, dnP_mem]
      constructor
      · rintro (rfl | ⟨k, hk, h1⟩)
        · exact ⟨i, by omega, h.1, h.2, rfl⟩
        · exact ⟨k, by omega, h1⟩
      · rintro ⟨k, hk, h1⟩
        by_cases e : k = i
        · subst e; exact .inl h1.2.2
        · exact .inr ⟨k, by omega, h1⟩
    · rename_i h
      rw [dnP_mem]
      constructor
      · rintro ⟨k, hk, h1⟩; exact ⟨k, by omega, h1⟩
      · rintro ⟨k, hk, h1⟩
        by_cases e : k = i
        · subst e; exact absurd ⟨h1.1, h1.2.1⟩ h
        · exact ⟨k, by omega, h1⟩
theorem upP_rise {rank : List Int} {ways : List Wy} {n : Nat} (ok : OkFs n ways) (v : Int) : ∀ {i : Nat}, i ≤ ways.length → Rise (upP rank ways v i)
  | 0, _ => List.Pairwise.nil
  | i + 1, hi => by
    unfold upP
    split
    · rename_i h
      refine insE_rise (upP_rise ok v (by omega)) fun x hx heq => ?_
      obtain ⟨k, hk, h1, _, rfl⟩ := upP_mem.1 hx
      have := ok.uniq (j := k) (k := i) (by omega) (by omega) (by rw [wyA_get, wyA_get, h1, h.1]) (by rw [wyA_get, wyA_get]; exact heq)
      omega
    · exact upP_rise ok v (by omega)
theorem dnP_rise {rank : List Int} {ways : List Wy} {n : Nat} (ok : OkFs n ways) (v : Int) : ∀ {i : Nat}, i ≤ ways.length → Rise (dnP rank ways v i)
  | 0, _ => List.Pairwise.nil
  | i + 1, hi => by
    unfold dnP
    split
    · rename_i h
      refine insE_rise (dnP_rise ok v (by omega)) fun x hx heq => ?_
      obtain ⟨k, hk, h1, _, rfl⟩ := dnP_mem.1 hx
      have := ok.uniq (j := k) (k := i) (by omega) (by omega) (by rw [wyA_get, wyA_get]; exact heq) (by rw [wyA_get, wyA_get, h1, h.1])
      omega
    · exact dnP_rise ok v (by omega)
theorem upP_len (rank : List Int) (ways : List Wy) (v : Int) : ∀ i, (upP rank ways v i).length ≤ i
  | 0 => by simp [upP]
  | i + 1 => by
    have := upP_len rank ways v i
    unfold upP; split
    · rw [insE_len]; omega
    · omega
theorem dnP_len (rank : List Int) (ways : List Wy) (v : Int) : ∀ i, (dnP rank ways v i).length ≤ i
  | 0 => by simp [dnP]
  | i + 1 => by
    have := dnP_len rank ways v i
    unfold dnP; split
    · rw [insE_len]; omega
    · omega
def upsL (rank : List Int) (ways : List Wy) (i : Nat) : List (List Edg) := (List.range rank.length).map fun (v : Nat) => upP rank ways (v : Int) i
def dnsL (rank : List Int) (ways : List Wy) (i : Nat) : List (List Edg) := (List.range rank.length).map fun (v : Nat) => dnP rank ways (v : Int) i
theorem upsL_len (rank : List Int) (ways : List Wy) (i : Nat) : (upsL rank ways i).length = rank.length := by simp [upsL]
theorem dnsL_len (rank : List Int) (ways : List Wy) (i : Nat) : (dnsL rank ways i).length = rank.length := by simp [dnsL]
theorem upsL_get {rank : List Int} {ways : List Wy} {i v : Nat} (h : v < (upsL rank ways i).length) : (upsL rank ways i)[v] = upP rank ways (v : Int) i := by simp [upsL]
theorem dnsL_get {rank : List Int} {ways : List Wy} {i v : Nat} (h : v < (dnsL rank ways i).length) : (dnsL rank ways i)[v] = dnP rank ways (v : Int) i := by simp [dnsL]
theorem upsL_step {rank : List Int} {ways : List Wy} {i f : Nat} (hf : yF (wyA ways i) = (f : Int)) (hu : IsUp rank (wyA ways i)) :
    (upsL rank ways i).set f (insE (yT (wyA ways i), yW (wyA ways i), (i : Int)) (upP rank ways (f : Int) i)) = upsL rank ways (i + 1) := by
  apply List.ext_getElem
  · simp [upsL]
  · intro j h1 h2
    rw [List.getElem_set]
    by_cases e : f = j
    · subst e; rw [if_pos rfl, upsL_get]; simp only [upP]; rw [if_pos ⟨hf, hu⟩]
    · rw [if_neg e, upsL_get, upsL_get]; simp only [upP]; rw [if_neg (fun h => e (by have := hf.symm.trans h.1; omega))]
theorem dnsL_step {rank : List Int} {ways : List Wy} {i t : Nat} (ht : yT (wyA ways i) = (t : Int)) (hu : ¬ IsUp rank (wyA ways i)) :
    (dnsL rank ways i).set t (insE (yF (wyA ways i), yW (wyA ways i), (i : Int)) (dnP rank ways (t : Int) i)) = dnsL rank ways (i + 1) := by
  apply List.ext_getElem
  · simp [dnsL]
  · intro j h1 h2
    rw [List.getElem_set]
    by_cases e : t = j
    · subst e; rw [if_pos rfl, dnsL_get]; simp only [dnP]; rw [if_pos ⟨ht, hu⟩]
    · rw [if_neg e, dnsL_get, dnsL_get]; simp only [dnP]; rw [if_neg (fun h => e (by have := ht.symm.trans h.1; omega))]
theorem upsL_same {rank : List Int} {ways : List Wy} {i : Nat} (hu : ¬ IsUp rank (wyA ways i)) : upsL rank ways (i + 1) = upsL rank ways i := by
  unfold upsL; exact List.map_congr_left fun v _ => by simp only [upP]; rw [if_neg (fun h => hu h.2)]
theorem dnsL_same {rank : List Int} {ways : List Wy} {i : Nat} (hu : IsUp rank (wyA ways i)) : dnsL rank ways (i + 1) = dnsL rank ways i := by
  unfold dnsL; exact List.map_congr_left fun v _ => by simp only [dnP]; rw [if_neg (fun h => h.2 hu)]
theorem upsL_nil (rank : List Int) (ways : List Wy) : upsL rank ways 0 = List.replicate rank.length [] := by
  apply List.ext_getElem <;> simp [upsL, upP]
theorem dnsL_nil (rank : List Int) (ways : List Wy) : dnsL rank ways 0 = List.replicate rank.length [] := by
  apply List.ext_getElem <;> simp [dnsL, dnP]
end Go.Sh

/- A hierarchy in memory; New. -/
set_option maxRecDepth 100000
namespace Go.Sh
open Go.RowKit

structure HierM (w : World) (hb : Nat) (sr sy s3 su sd : SV) (r : Nat) (rank : List Int) (ways : List Wy) (g : Nat → Int) (mm : List (List Int × Value)) (us ds : List SV) (i : Nat) : Prop where
  hd : Blk w hb [.slice sr.a sr.len sr.cap, .slice sy.a sy.len sy.cap, .slice s3.a s3.len s3.cap, .map (some r), .slice su.a su.len su.cap, .slice sd.a sd.len sd.cap]
  rk : Own RI w sr rank
  wy : Own RW w sy ways
  at_ : Own RI w s3 (fi rank.length g)
  m : MapIs true 2 w r mm
  up : Rows w su us (upsL rank ways i)
  dn : Rows w sd ds (dnsL rank ways i)
def hierF (hb : Nat) (sr sy s3 su sd : SV) (r : Nat) (us ds : List SV) (k : Nat) : Prop := k = hb ∨ sr.blk k ∨ sy.blk k ∨ s3.blk k ∨ k = r ∨ rowsF su us k ∨ rowsF sd ds k

theorem HierM.chg {w w' : World} {hb : Nat} {sr sy s3 su sd : SV} {r : Nat} {rank : List Int} {ways : List Wy} {g : Nat → Int} {mm : List (List Int × Value)} {us ds : List SV} {i : Nat} {G : Nat → Prop} (h : HierM w hb sr sy s3 su sd r rank ways g mm us ds i) (c : Chg G w w') (hd : ∀ k, hierF hb sr sy s3 su sd r us ds k → ¬ G k) : HierM w' hb sr sy s3 su sd r rank ways g mm us ds i :=
  ⟨c.blk h.hd (hd _ (.inl rfl)), h.rk.chg c fun k hk => hd k (.inr (.inl hk)), h.wy.chg c fun k hk => hd k (.inr (.inr (.inl hk))), h.at_.chg c fun k hk => hd k (.inr (.inr (.inr (.inl hk)))),
    h.m.same (c.block r h.m.lt (hd _ (.inr (.inr (.inr (.inr (.inl rfl))))))), h.up.chg c fun k hk => hd k (.inr (.inr (.inr (.inr (.inr (.inl hk)))))), h.dn.chg c fun k hk => hd k (.inr (.inr (.inr (.inr (.inr (.inr hk))))))⟩
theorem HierM.lt {w : World} {hb : Nat} {sr sy s3 su sd : SV} {r : Nat} {rank : List Int} {ways : List Wy} {g : Nat → Int} {mm : List (List Int × Value)} {us ds : List SV} {i : Nat} (h : HierM w hb sr sy s3 su sd r rank ways g mm us ds i) {k : Nat} (hk : hierF hb sr sy s3 su sd r us ds k) : k < w.heap.size := by
  rcases hk with rfl | hk | hk | hk | rfl | hk | hk
  · exact blk_lt h.hd
  · exact h.rk.lt hk
  · exact h.wy.lt hk
  · exact h.at_.lt hk
  · exact h.m.lt
  · exact h.up.lt hk
  · exact h.dn.lt hk

/-- A hierarchy; F: its blocks. -/
def HierA (w : World) (p : Option Addr) (rank : List Int) (ways : List Wy) (F : Nat → Prop) : Prop :=
  OkH rank ways ∧ ∃ hb sr sy s3 su sd r g mm us ds, p = some ⟨hb, 0, none⟩ ∧ Placed rank g ∧ MapOk mm ways ∧ HierM w hb sr sy s3 su sd r rank ways g mm us ds ways.length ∧ F = hierF hb sr sy s3 su sd r us ds
section
variable {w w' : World} {p : Option Addr} {rank : List Int} {ways : List Wy} {F : Nat → Prop}
theorem HierA.ok (h : HierA w p rank ways F) : OkH rank ways := h.1
theorem HierA.chg {G : Nat → Prop} (h : HierA w p rank ways F) (c : Chg G w w') (hd : ∀ k, F k → ¬ G k) : HierA w' p rank ways F := by
  obtain ⟨ok, hb, sr, sy, s3, su, sd, r, g, mm, us, ds, hp, hpl, hmo, hM, rfl⟩ := h
  exact ⟨ok, hb, sr, sy, s3, su, sd, r, g, mm, us, ds, hp, hpl, hmo, hM.chg c hd, rfl⟩
theorem HierA.ext (h : HierA w p rank ways F) (e : Ext w w') : HierA w' p rank ways F := h.chg (G := fun _ => False) (.of_ext e) fun _ _ h => h
theorem HierA.lt (h : HierA w p rank ways F) {k : Nat} (hk : F k) : k < w.heap.size := by
  obtain ⟨ok, hb, sr, sy, s3, su, sd, r, g, mm, us, ds, hp, hpl, hmo, hM, rfl⟩ := h
  exact hM.lt hk
end

theorem HNew_ok {w : World} {sr0 sy0 : SV} {rank : List Int} {ways : List Wy} {K : Option Addr → World → Prop} (hr : View RI w sr0 rank) (hy : View RW w sy0 ways) (hn : rank.length < 2 ^ 40) (hm : ways.length < 2 ^ 40)
    (hk : OkH rank ways → ∀ p w' F, Ext w w' → HierA w' p rank ways F → (∀ k, F k → w.heap.size ≤ k) → K p w') (hno : ¬ OkH rank ways → ∀ w', Ext w w' → K none w') : sh_hier_New sr0 sy0 K w := by
  unfold sh_hier_New
  intro b1 w2 e2 g1 g1'
  have z2 := e2.size
  have lr0 := hr.len; have ly0 := hy.len
  refine Own.app (R := RI) Own.nil (hr.ext e2) (by simp only [List.length_nil]; omega) (by simp only [List.length_nil]; omega) fun sr w4 c4 hsr hR => ?_
  rw [List.nil_append] at hR
  have e4 : Ext w2 w4 := c4.ext fun k _ ⟨q, hq, _⟩ => by cases hq
  have fr : Fsh w2 sr := fun k hk => by
    rcases hsr k hk with ⟨q, hq, _⟩ | h'
    · cases hq
    · exact h'
  have z4 := e4.size
  refine ⟨kp_ext e4 (by (intro b hb; simp only [List.mem_cons, List.not_mem_nil, or_false] at hb; omega)), fun w5 o5 => ?_⟩
  have z5 := o5.size
  have e5 : Ext w w5 := ext_off (e2.trans e4) o5 g1
  have nr1 : ¬ sr.blk b1 := fun hk => by have := fr _ hk; omega
  have hR5 := hR.off o5 nr1
  refine Own.app (R := RW) Own.nil (hy.ext e5) (by simp only [List.length_nil]; omega) (by simp only [List.length_nil]; omega) fun sy w7 c7 hsy hY => ?_
  rw [List.nil_append] at hY
  have e7 : Ext w5 w7 := c7.ext fun k _ ⟨q, hq, _⟩ => by cases hq
  have fy : Fsh w5 sy := fun k hk => by
    rcases hsy k hk with ⟨q, hq, _⟩ | h'
    · cases hq
    · exact h'
  have z7 := e7.size
  refine ⟨kp_ext e7 (by (intro b hb; simp only [List.mem_cons, List.not_mem_nil, or_false] at hb; omega)), fun w8 o8 => ?_⟩
  have z8 := o8.size
  have e8 : Ext w w8 := ext_off (e5.trans e7) o8 g1
  have ny1 : ¬ sy.blk b1 := fun hk => by have := fy _ hk; omega
  have hR8 := (hR5.ext e7).off o8 nr1
  have hY8 := hY.off o8 ny1
  refine check_ok hR8.view hY8.view (fun ok hb s3 r g mm w11 e11 C => ⟨kp_ext e11 (by (intro b hb; simp only [List.mem_cons, List.not_mem_nil, or_false] at hb; omega)), ?_⟩) (fun no c w11 e11 hc _ _ => ⟨kp_ext e11 (by (intro b hb; simp only [List.mem_cons, List.not_mem_nil, or_false] at hb; omega)), ?_⟩)
  rotate_left
  · rw [show (c != 0) = true by simpa using hc, cond_true]; exact hno no w11 (e8.trans e11)
  rw [bne_self_eq_false, cond_false]
  have hk := hk ok
  intro w12 e12
  have z11 := e11.size; have z12 := e12.size
  have hbl : hb < w11.heap.size := blk_lt C.hd
  have rl := C.m.lt
  have br : ∀ k, sr.blk k → k < w8.heap.size := fun k hk => hR8.lt hk
  have by_ : ∀ k, sy.blk k → k < w8.heap.size := fun k hk => hY8.lt hk
  have b3 : ∀ k, s3.blk k → k < w11.heap.size := fun k hk => C.at_.lt hk
  have lsr := hR8.view.len
  have lsy := hY8.view.len
  have hokn := ok.n; have hokk := ok.k
  refine own_mk (R := RS) (bytes := 24) (by omega) (by omega) (by omega) fun su w14 e14 gu hU => ?_
  simp only [Int.toNat_natCast] at hU
  rw [lsr] at hU
  have z14 := e14.size
  refine ⟨_, rfl, fun w16 e16 => ?_⟩
  have z16 := e16.size
  have e1116 := (e12.trans e14).trans e16
  rw [addm]
  refine stL_blk (b := hb) (o := 0 + 4) [.slice su.a su.len su.cap] 0 w16 _ _ (e1116.blkE C.hd) (by simp) fun w17 o17 hB17 => ?_
  have z17 := o17.size
  refine ⟨⟨by omega, fun b hz => o17.block b (fun e => ?_)⟩, fun c hc => by simp only [List.mem_cons, List.not_mem_nil, or_false] at hc; subst hc; exact o17.block _ (by have := C.ghb; omega), ?_⟩
  · rcases hz with (h | h) | h
    · exact h
    · omega
    · omega
  refine ⟨by omega, Int.le_refl _, by omega, by omega, fun b18 w19 e19 hz18 hB18 => ?_⟩
  have z19 := e19.size
  have hl18 : b18 < w19.heap.size := blk_lt hB18
  have bu : ∀ k, su.blk k → k < w14.heap.size := fun k hk => hU.lt hk
  have g18 : w11.heap.size ≤ b18 ∧ ¬ su.blk b18 := by
    rcases hz18 with ((h | h) | h) | h
    · exact h.elim
    · exact ⟨h.1, fun hk => by have := gu _ hk; omega⟩
    · exact ⟨by omega, fun hk => by have := bu _ hk; omega⟩
    · exact ⟨by omega, fun hk => by have := bu _ hk; omega⟩
  have hD : Own RS w19 ⟨some ⟨b18, 0, none⟩, sr.len, sr.len⟩ (List.replicate rank.length ⟨none, 0, 0⟩) := by
    refine ⟨[], by simp [lsr], by simp [lsr], .inr ⟨b18, rfl, ?_⟩⟩
    rw [List.append_nil, show (⟨none, 0, 0⟩ : SV) = RS.z from rfl, ← RS.zeros]
    have hB := hB18
    simp only [Int.toNat_natCast] at hB
    rw [lsr] at hB
    exact hB
  have f18 : ∀ k, (⟨some ⟨b18, 0, none⟩, sr.len, sr.len⟩ : SV).blk k → k = b18 := fun k ⟨p, hp, hq⟩ => by cases hp; exact hq.symm
  refine ⟨_, rfl, fun w21 e21 => ?_⟩
  have z21 := e21.size
  simp only [Int.toNat_natCast]
  generalize hsd : (⟨some ⟨b18, 0, none⟩, sr.len, sr.len⟩ : SV) = sd at hD f18
  have hsda : (some ⟨b18, 0, none⟩ : Option Addr) = sd.a ∧ sr.len = sd.len ∧ sr.len = sd.cap := by subst hsd; exact ⟨rfl, rfl, rfl⟩
  rw [addm]
  have hst : ([.slice (some ⟨b18, 0, none⟩) sr.len sr.len] : List Value) = [.slice sd.a sd.len sd.cap] := by rw [← hsda.1, ← hsda.2.1, ← hsda.2.2]
  rw [hst]
  refine stL_blk (b := hb) (o := 0 + 5) [.slice sd.a sd.len sd.cap] 0 w21 _ _ ((e19.trans e21).blkE hB17) (by simp [setL]) fun w22 o22 hB22 => ?_
  have z22 := o22.size
  refine ⟨fun c hc => by simp only [List.mem_cons, List.not_mem_nil, or_false] at hc; subst hc; exact o22.block _ (by have := C.ghb; omega), ?_⟩
  intro w23 e23
  have z23 := e23.size
  -- the start
  have cA : Chg (fun k => k = hb) w11 w23 := ((((Chg.of_ext (F := fun k => k = hb) e1116).trans (.of_off (F := fun k => k = hb) o17 rfl) fun _ _ h => h).trans (.of_ext (F := fun _ => False) (e19.trans e21)) fun _ _ h => h.elim).trans (.of_off (F := fun k => k = hb) o22 rfl) fun _ _ h => h).trans (.of_ext (F := fun _ => False) e23) fun _ _ h => h.elim
  have nhb : ∀ k, sr.blk k ∨ sy.blk k ∨ s3.blk k → k ≠ hb := fun k hk e => by
    have := C.ghb
    rcases hk with h | h | h
    · have := br k h; omega
    · have := by_ k h; omega
    · exact C.d3 (e ▸ h)
  have nu : ¬ su.blk hb := fun hk => by have := gu _ hk; omega
  have nd : ¬ sd.blk hb := fun hk => by have := f18 _ hk; omega
  have M0 : HierM w23 hb sr sy s3 su sd r rank ways g mm (List.replicate rank.length ⟨none, 0, 0⟩) (List.replicate rank.length ⟨none, 0, 0⟩) 0 := by
    refine ⟨by have := e23.blkE hB22; simpa [setL] using this, (hR8.ext e11).chg cA fun k hk => nhb k (.inl hk), (hY8.ext e11).chg cA fun k hk => nhb k (.inr (.inl hk)), C.at_.chg cA fun k hk => nhb k (.inr (.inr hk)), C.m.same (cA.block r rl C.dr), ?_, ?_⟩
    · rw [upsL_nil]; exact .nil ((((hU.ext e16).off o17 nu).ext (e19.trans e21)).off o22 nu |>.ext e23)
    · rw [dnsL_nil]; exact .nil (((hD.ext e21).off o22 nd).ext e23)
  have e23' : Ext w w23 := ext_chg (e8.trans e11) cA fun k hk => by have := C.ghb; have := e8.size; omega
  have ly : (sy.len : Int) = ways.length := by omega
  have base : w.heap.size ≤ w11.heap.size := by have := e8.size; omega
  refine LoopT.gh (γ := Nat × List SV × List SV) (fun gh (st : Int × Unit) w' => st.1 = gh.1 ∧ gh.1 ≤ ways.length ∧ Ext w w' ∧ w23.heap.size ≤ w'.heap.size ∧ HierM w' hb sr sy s3 su sd r rank ways g mm gh.2.1 gh.2.2 gh.1 ∧ (∀ k, rowsF su gh.2.1 k → w11.heap.size ≤ k) ∧ (∀ k, rowsF sd gh.2.2 k → w11.heap.size ≤ k) ∧ (∀ k, rowsF su gh.2.1 k → ¬ rowsF sd gh.2.2 k)) (fun gh => ways.length - gh.1) (0, List.replicate rank.length ⟨none, 0, 0⟩, List.replicate rank.length ⟨none, 0, 0⟩)
    ⟨rfl, Nat.zero_le _, e23', Nat.le_refl _, M0, fun k hk => by rw [rowsF_nil] at hk; have := gu k hk; omega, fun k hk => by rw [rowsF_nil] at hk; rw [f18 k hk]; exact g18.1, fun k h1 h2 => by rw [rowsF_nil] at h1 h2; rw [f18 k h2] at h1; exact g18.2 h1⟩ ?_
  rintro ⟨i, us, ds⟩ ⟨x, _⟩ w26 ⟨hx, hi, e26, z26, M, fu, fd, dud⟩ J1 hJ1
  simp only at hx hi M fu fd dud; subst hx
  dsimp only
  rw [Bool.cond_decide]
  by_cases hc : (i : Int) < (sy.len : Int)
  · rw [if_pos hc]
    have hi' : i < ways.length := by omega
    refine way_idx M.wy.view hi' fun a _ a0 a1 a2 a3 a4 => ⟨_, a0, _, a1, _, a2, _, a3, _, a4, ?_⟩
    rw [wyA_get hi']
    have oky := ok.f i hi'
    rw [wyA_get hi'] at oky
    generalize hyy : wyA ways i = y at oky ⊢
    obtain ⟨_, hne, f0, t0, f1, t1, _, _⟩ := oky
    obtain ⟨f, hf⟩ := Int.eq_ofNat_of_zero_le f0
    obtain ⟨t, ht⟩ := Int.eq_ofNat_of_zero_le t0
    rw [hf, ht]
    intro b33 w34 e34 g33 g33' w35 o35
    have z34 := e34.size; have z35 := o35.size
    have nF : ¬ hierF hb sr sy s3 su sd r us ds b33 := fun hk => by have := M.lt hk; omega
    have M35 := (M.chg (G := fun _ => False) (.of_ext e34) fun _ _ h => h).chg (G := fun k => k = b33) (.of_off o35 rfl) fun k hk e => nF (e ▸ hk)
    have e35 : Ext w w35 := ext_off (e26.trans e34) o35 (by have := e26.size; omega)
    refine int_idx M35.rk.view (by omega) fun _ q => ⟨_, q, ?_⟩
    refine int_idx M35.rk.view (by omega) fun _ q => ⟨_, q, ?_⟩
    rw [rk_get (show f < rank.length by omega), rk_get (show t < rank.length by omega), ← hf, ← ht]
    intro w40 e40
    have z40 := e40.size
    have M40 := M35.chg (G := fun _ => False) (.of_ext e40) fun _ _ h => h
    have e40' := e35.trans e40
    have lus : us.length = rank.length := by rw [M40.up.len, upsL_len]
    have lds : ds.length = rank.length := by rw [M40.dn.len, dnsL_len]
    have nrow : ∀ k, w11.heap.size ≤ k → k = hb ∨ sr.blk k ∨ sy.blk k ∨ s3.blk k ∨ k = r → False := fun k hk h => by
      rcases h with h | h | h | h | h
      · omega
      · have := br k h; omega
      · have := by_ k h; omega
      · have := b3 k h; omega
      · omega
    have bx : ∀ c, c ∈ [b33, b1] → c < w40.heap.size ∧ (¬ rowsF su us c ∧ ¬ rowsF sd ds c) := fun c hc => by
      simp only [List.mem_cons, List.not_mem_nil, or_false] at hc
      rcases hc with rfl | rfl
      · exact ⟨by omega, fun h => nF (.inr (.inr (.inr (.inr (.inr (.inl h)))))), fun h => nF (.inr (.inr (.inr (.inr (.inr (.inr h))))))⟩
      · exact ⟨by omega, fun h => by have := fu _ h; omega, fun h => by have := fd _ h; omega⟩
    rw [Bool.cond_decide]
    by_cases hup : rkA rank (yF y) < rkA rank (yT y)
    · rw [if_pos hup]
      refine ⟨_, rfl, su, by rw [addm, cell_blk M40.hd]; rfl, _, rfl, su, by rw [addm, cell_blk M40.hd]; rfl, ?_⟩
      rw [hf]
      have hv : f < us.length := by omega
      refine slot_idx M40.up.so.view hv fun q hq => ⟨_, hq, fun w49 e49 => ?_⟩
      have z49 := e49.size
      have M49 := M40.chg (G := fun _ => False) (.of_ext e49) fun _ _ h => h
      have hrow := M49.up.row f hv (by rw [upsL_len]; omega)
      rw [upsL_get] at hrow
      have hpl := upP_len rank ways (f : Int) i
      refine put_ok hrow (upP_rise ok.f _ (by omega)) (by omega) fun s48 w50 c50 hs48 hO50 => ⟨kp_chg c50 fun c hc => ⟨by have := (bx c hc).1; omega, fun hk => (bx c hc).2.1 (.inr ⟨f, hv, hk⟩)⟩, ?_⟩
      have z50 := c50.size
      have gF : ∀ k, us[f].blk k → w11.heap.size ≤ k := fun k hk => fu k (.inr ⟨f, hv, hk⟩)
      have hd50 := c50.blk M49.hd fun hk => by have := gF _ hk; omega
      refine ⟨⟨su, by rw [addm, cell_blk hd50]; rfl, rfl⟩, ?_⟩
      -- the store at the end
      have hst := fun w52 (e52 : Ext w50 w52) (K' : World → Prop) (hK' : ∀ w53, Chg su.blk w52 w53 → Rows w53 su (us.set f s48) ((upsL rank ways i).set f (insE (yT y, yW y, (i : Int)) (upP rank ways (f : Int) i))) → (∀ k, rowsF su (us.set f s48) k → rowsF su us k ∨ w49.heap.size ≤ k) → K' w53) =>
        Rows.store M49.up hv c50 hs48 (w2 := w52) hO50 e52 (K := K') hK'
      have hgoal : ∀ w52, Ext w50 w52 → Idx su.a su.len (f : Int) 1 (fun a51 => stL w52 a51 [.slice s48.a s48.len s48.cap] 0 (fun w53 => Keeps [b33, b1] w52 w53 ∧ ∀ w54, Ext w53 w54 → J1 (IntKind.i64.wrap ((i : Int) + 1), ()) w54)) := fun w52 e52 => by
        have z52 := e52.size
        refine hst w52 e52 _ fun w53 c53 R53 hF53 => ⟨kp_chg c53 fun c hc => ⟨by have := (bx c hc).1; omega, fun hk => (bx c hc).2.1 (.inl hk)⟩, fun w54 e54 => ?_⟩
        have z53 := c53.size; have z54 := e54.size
        have cc : Chg (fun k => rowsF su us k) w49 w54 := ((((c50.mono (G := fun k => rowsF su us k) fun k _ hk => .inr ⟨f, hv, hk⟩).trans (.of_ext (F := fun _ => False) e52) fun _ _ h => h.elim).trans c53 fun k _ hk => .inl hk).trans (.of_ext (F := fun _ => False) e54) fun _ _ h => h.elim)
        have nn : ∀ k, k = hb ∨ sr.blk k ∨ sy.blk k ∨ s3.blk k ∨ k = r → ¬ rowsF su us k := fun k hk hr => nrow k (fu k hr) hk
        have R54 := R53.ext e54
        rw [← hyy] at R54
        rw [upsL_step (by rw [hyy]; exact hf) (by unfold IsUp; rw [hyy]; exact hup)] at R54
        have hdn : dnsL rank ways (i + 1) = dnsL rank ways i := dnsL_same (by unfold IsUp; rw [hyy]; exact hup)
        refine hJ1 (i + 1, us.set f s48, ds) _ _ ⟨wsucc (m := 2 ^ 40) (by omega) (by omega), by simp only; omega, ext_chg (e40'.trans e49) cc fun k hk => by have := fu k hk; omega, by omega, ?_, ?_, fd, ?_⟩ (by simp only; omega)
        · simp only
          refine ⟨cc.blk M49.hd (nn _ (.inl rfl)), M49.rk.chg cc fun k hk => nn k (.inr (.inl hk)), M49.wy.chg cc fun k hk => nn k (.inr (.inr (.inl hk))), M49.at_.chg cc fun k hk => nn k (.inr (.inr (.inr (.inl hk)))), M49.m.same (cc.block r M49.m.lt (nn _ (.inr (.inr (.inr (.inr rfl)))))), R54, ?_⟩
          rw [hdn]; exact M49.dn.chg cc fun k h1 h2 => dud k h2 h1
        · intro k hk
          rcases hF53 k hk with h' | h'
          · exact fu k h'
          · omega
        · intro k hk h2
          rcases hF53 k hk with h' | h'
          · exact dud k h' h2
          · have := M49.dn.lt h2; omega
      -- Idx's address is the same whatever the world
      obtain ⟨q1, hq1, h01, h02, hA⟩ := hgoal w50 (.refl _)
      refine ⟨q1, hq1, h01, h02, fun w52 e52 => ?_⟩
      obtain ⟨q2, hq2, _, _, hA2⟩ := hgoal w52 e52
      rw [hq1] at hq2; cases hq2
      exact hA2
    · rw [if_neg hup]
      refine ⟨_, rfl, sd, by rw [addm, cell_blk M40.hd]; rfl, _, rfl, sd, by rw [addm, cell_blk M40.hd]; rfl, ?_⟩
      rw [ht]
      have hv : t < ds.length := by omega
      refine slot_idx M40.dn.so.view hv fun q hq => ⟨_, hq, fun w49 e49 => ?_⟩
      have z49 := e49.size
      have M49 := M40.chg (G := fun _ => False) (.of_ext e49) fun _ _ h => h
      have hrow := M49.dn.row t hv (by rw [dnsL_len]; omega)
      rw [dnsL_get] at hrow
      have hpl := dnP_len rank ways (t : Int) i
      refine put_ok hrow (dnP_rise ok.f _ (by omega)) (by omega) fun s48 w50 c50 hs48 hO50 => ⟨kp_chg c50 fun c hc => ⟨by have := (bx c hc).1; omega, fun hk => (bx c hc).2.2 (.inr ⟨t, hv, hk⟩)⟩, ?_⟩
      have z50 := c50.size
      have gF : ∀ k, ds[t].blk k → w11.heap.size ≤ k := fun k hk => fd k (.inr ⟨t, hv, hk⟩)
      have hd50 := c50.blk M49.hd fun hk => by have := gF _ hk; omega
      refine ⟨⟨sd, by rw [addm, cell_blk hd50]; rfl, rfl⟩, ?_⟩
      have hst := fun w52 (e52 : Ext w50 w52) (K' : World → Prop) (hK' : ∀ w53, Chg sd.blk w52 w53 → Rows w53 sd (ds.set t s48) ((dnsL rank ways i).set t (insE (yF y, yW y, (i : Int)) (dnP rank ways (t : Int) i))) → (∀ k, rowsF sd (ds.set t s48) k → rowsF sd ds k ∨ w49.heap.size ≤ k) → K' w53) =>
        Rows.store M49.dn hv c50 hs48 (w2 := w52) hO50 e52 (K := K') hK'
      have hgoal : ∀ w52, Ext w50 w52 → Idx sd.a sd.len (t : Int) 1 (fun a51 => stL w52 a51 [.slice s48.a s48.len s48.cap] 0 (fun w53 => Keeps [b33, b1] w52 w53 ∧ ∀ w54, Ext w53 w54 → J1 (IntKind.i64.wrap ((i : Int) + 1), ()) w54)) := fun w52 e52 => by
        have z52 := e52.size
        refine hst w52 e52 _ fun w53 c53 R53 hF53 => ⟨kp_chg c53 fun c hc => ⟨by have := (bx c hc).1; omega, fun hk => (bx c hc).2.2 (.inl hk)⟩, fun w54 e54 => ?_⟩
        have z53 := c53.size; have z54 := e54.size
        have cc : Chg (fun k => rowsF sd ds k) w49 w54 := ((((c50.mono (G := fun k => rowsF sd ds k) fun k _ hk => .inr ⟨t, hv, hk⟩).trans (.of_ext (F := fun _ => False) e52) fun _ _ h => h.elim).trans c53 fun k _ hk => .inl hk).trans (.of_ext (F := fun _ => False) e54) fun _ _ h => h.elim)
        have nn : ∀ k, k = hb ∨ sr.blk k ∨ sy.blk k ∨ s3.blk k ∨ k = r → ¬ rowsF sd ds k := fun k hk hr => nrow k (fd k hr) hk
        have R54 := R53.ext e54
        rw [← hyy] at R54
        rw [dnsL_step (by rw [hyy]; exact ht) (by unfold IsUp; rw [hyy]; exact hup)] at R54
        have hdn : upsL rank ways (i + 1) = upsL rank ways i := upsL_same (by unfold IsUp; rw [hyy]; exact hup)
        refine hJ1 (i + 1, us, ds.set t s48) _ _ ⟨wsucc (m := 2 ^ 40) (by omega) (by omega), by simp only; omega, ext_chg (e40'.trans e49) cc fun k hk => by have := fd k hk; omega, by omega, ?_, fu, ?_, ?_⟩ (by simp only; omega)
        · simp only
          refine ⟨cc.blk M49.hd (nn _ (.inl rfl)), M49.rk.chg cc fun k hk => nn k (.inr (.inl hk)), M49.wy.chg cc fun k hk => nn k (.inr (.inr (.inl hk))), M49.at_.chg cc fun k hk => nn k (.inr (.inr (.inr (.inl hk)))), M49.m.same (cc.block r M49.m.lt (nn _ (.inr (.inr (.inr (.inr rfl)))))), ?_, R54⟩
          rw [hdn]; exact M49.up.chg cc fun k h1 h2 => dud k h1 h2
        · intro k hk
          rcases hF53 k hk with h' | h'
          · exact fd k h'
          · omega
        · intro k hk h2
          rcases hF53 k h2 with h' | h'
          · exact dud k hk h'
          · have := M49.up.lt hk; omega
      obtain ⟨q1, hq1, h01, h02, hA⟩ := hgoal w50 (.refl _)
      refine ⟨q1, hq1, h01, h02, fun w52 e52 => ?_⟩
      obtain ⟨q2, hq2, _, _, hA2⟩ := hgoal w52 e52
      rw [hq1] at hq2; cases hq2
      exact hA2
  · rw [if_neg hc]
    have : i = ways.length := by omega
    subst this
    refine hk _ w26 _ e26 ⟨ok, hb, sr, sy, s3, su, sd, r, g, mm, us, ds, rfl, C.pl, C.mo, M, rfl⟩ fun k hk => ?_
    rcases hk with rfl | hk | hk | hk | rfl | hk | hk
    · have := C.ghb; have := e8.size; omega
    · have := fr k hk; omega
    · have := fy k hk; have := e5.size; omega
    · have := C.gs k hk; have := e8.size; omega
    · have := C.gr; have := e8.size; omega
    · have := fu k hk; omega
    · have := fd k hk; omega
end Go.Sh

/- The hierarchy's methods. -/
set_option maxRecDepth 100000
namespace Go.Sh
open Go.RowKit

section
variable {w w' : World} {p : Option Addr} {rank : List Int} {ways : List Wy} {F : Nat → Prop}

theorem HN_ok {K : Int → World → Prop} (h : HierA w p rank ways F) (hk : K (rank.length : Int) w) : sh_hier_Hier_N p K w := by
  obtain ⟨ok, hb, sr, sy, s3, su, sd, r, g, mm, us, ds, rfl, hpl, hmo, hM, rfl⟩ := h
  unfold sh_hier_Hier_N
  simp only [Option.isNone_some, cond_false]
  refine ⟨_, rfl, s3, by rw [addm, cell_blk hM.hd]; rfl, ?_⟩
  rw [hM.at_.view.len, fi_len]; exact hk
/-- A place's rank; below 0: there is none. -/
def rankF (rank : List Int) (v : Int) : Int := if 0 ≤ v ∧ v < rank.length then rkA rank v else -1
theorem Rank_ok {v : Int} {K : Int → World → Prop} (h : HierA w p rank ways F) (hk : K (rankF rank v) w) : sh_hier_Hier_Rank p v K w := by
  unfold sh_hier_Hier_Rank
  unfold rankF at hk
  rw [Bool.cond_decide]
  split
  · rw [if_neg (by omega)] at hk; exact hk
  · refine HN_ok h ?_
    rw [Bool.cond_decide]
    split
    · rw [if_neg (by omega)] at hk; exact hk
    · rw [if_pos (by omega)] at hk
      obtain ⟨ok, hb, sr, sy, s3, su, sd, r, g, mm, us, ds, rfl, hpl, hmo, hM, rfl⟩ := h
      obtain ⟨u, rfl⟩ := Int.eq_ofNat_of_zero_le (show 0 ≤ v by omega)
      refine ⟨_, rfl, sr, by rw [addm, addm, cell_blk hM.hd]; rfl, ?_⟩
      refine int_idx hM.rk.view (by omega) fun _ q => ⟨_, q, ?_⟩
      rw [rk_get]; exact hk
theorem rankF_neg (ok : OkH rank ways) {v : Int} : rankF rank v < 0 ↔ ¬ (0 ≤ v ∧ v < rank.length) := by
  unfold rankF
  split
  · rename_i h
    obtain ⟨u, rfl⟩ := Int.eq_ofNat_of_zero_le h.1
    have hu : u < rank.length := by omega
    have := (ok.r.1 _ (List.getElem_mem hu)).1
    rw [rk_get hu] at this
    constructor
    · intro h'; omega
    · intro h'; exact absurd h h'
  · rename_i h; exact ⟨fun _ => h, fun _ => by omega⟩

/-- The ways up from a place, and down to it. -/
def upF (rank : List Int) (ways : List Wy) (v : Int) : List Edg := if 0 ≤ v ∧ v < rank.length then upP rank ways v ways.length else []
def dnF (rank : List Int) (ways : List Wy) (v : Int) : List Edg := if 0 ≤ v ∧ v < rank.length then dnP rank ways v ways.length else []

theorem Up_ok {v : Int} {K : SV → World → Prop} (h : HierA w p rank ways F) (hk : ∀ s w', Ext w w' → Own RD w' s (upF rank ways v) → Fsh w s → K s w') : sh_hier_Hier_Up p v K w := by
  unfold sh_hier_Hier_Up
  refine Rank_ok h ?_
  rw [Bool.cond_decide]
  split
  · rename_i hn
    rw [rankF_neg h.ok] at hn
    refine hk _ w (.refl _) ?_ fsh_nil
    unfold upF; rw [if_neg hn]; exact Own.nil
  · rename_i hn
    rw [rankF_neg h.ok, Classical.not_not] at hn
    obtain ⟨ok, hb, sr, sy, s3, su, sd, r, g, mm, us, ds, rfl, hpl, hmo, hM, rfl⟩ := h
    obtain ⟨u, rfl⟩ := Int.eq_ofNat_of_zero_le hn.1
    have hlen := hM.up.len
    rw [upsL_len] at hlen
    refine ⟨_, rfl, su, by rw [addm, cell_blk hM.hd]; rfl, ?_⟩
    refine slot_idx hM.up.so.view (by omega) fun _ q => ⟨_, q, ?_⟩
    have hrow := hM.up.row u (by omega) (by rw [upsL_len]; omega)
    rw [upsL_get] at hrow
    have hl := upP_len rank ways (u : Int) ways.length
    have hk' := ok.k
    refine Own.app (R := RD) Own.nil hrow.view (by simp only [List.length_nil]; omega) (by simp only [List.length_nil]; omega) fun s7 w8 c8 hs hO => ?_
    rw [List.nil_append] at hO
    refine hk s7 w8 (c8.ext fun k _ ⟨q, hq, _⟩ => by cases hq) ?_ fun k hk => ?_
    · unfold upF; rw [if_pos hn]; exact hO
    · rcases hs k hk with ⟨q, hq, _⟩ | h'
      · cases hq
      · exact h'
theorem Down_ok {v : Int} {K : SV → World → Prop} (h : HierA w p rank ways F) (hk : ∀ s w', Ext w w' → Own RD w' s (dnF rank ways v) → Fsh w s → K s w') : sh_hier_Hier_Down p v K w := by
  unfold sh_hier_Hier_Down
  refine Rank_ok h ?_
  rw [Bool.cond_decide]
  split
  · rename_i hn
    rw [rankF_neg h.ok] at hn
    refine hk _ w (.refl _) ?_ fsh_nil
    unfold dnF; rw [if_neg hn]; exact Own.nil
  · rename_i hn
    rw [rankF_neg h.ok, Classical.not_not] at hn
    obtain ⟨ok, hb, sr, sy, s3, su, sd, r, g, mm, us, ds, rfl, hpl, hmo, hM, rfl⟩ := h
    obtain ⟨u, rfl⟩ := Int.eq_ofNat_of_zero_le hn.1
    have hlen := hM.dn.len
    rw [dnsL_len] at hlen
    refine ⟨_, rfl, sd, by rw [addm, cell_blk hM.hd]; rfl, ?_⟩
    refine slot_idx hM.dn.so.view (by omega) fun _ q => ⟨_, q, ?_⟩
    have hrow := hM.dn.row u (by omega) (by rw [dnsL_len]; omega)
    rw [dnsL_get] at hrow
    have hl := dnP_len rank ways (u : Int) ways.length
    have hk' := ok.k
    refine Own.app (R := RD) Own.nil hrow.view (by simp only [List.length_nil]; omega) (by simp only [List.length_nil]; omega) fun s7 w8 c8 hs hO => ?_
    rw [List.nil_append] at hO
    refine hk s7 w8 (c8.ext fun k _ ⟨q, hq, _⟩ => by cases hq) ?_ fun k hk => ?_
    · unfold dnF; rw [if_pos hn]; exact hO
    · rcases hs k hk with ⟨q, hq, _⟩ | h'
      · cases hq
      · exact h'
theorem HFind_ok {u v : Int} {K : Int → World → Prop} (h : HierA w p rank ways F) (hk : K (ofN (findW ways u v)) w) : sh_hier_Hier_Find p u v K w := by
  obtain ⟨ok, hb, sr, sy, s3, su, sd, r, g, mm, us, ds, rfl, hpl, hmo, hM, rfl⟩ := h
  unfold sh_hier_Hier_Find
  simp only [Option.isNone_some, cond_false]
  have hlk := hmo u v
  refine ⟨_, rfl, some r, by rw [addm, cell_blk hM.hd]; rfl, mm, hM.m, gN (findW ways u v), by rw [hlk]; cases findW ways u v <;> rfl, ?_⟩
  rw [hlk]
  cases hf : findW ways u v with
  | none => rw [hf] at hk; exact hk
  | some k => rw [hf] at hk; exact hk
theorem HWay_ok {k : Int} {K : Int → Int → Int → Int → Int → Bool → World → Prop} (h : HierA w p rank ways F)
    (h1 : ∀ i : Nat, k = (i : Int) → ∀ hi : i < ways.length, ∀ w', Ext w w' → K (yF ways[i]) (yT ways[i]) (yW ways[i]) (yM ways[i]) (yA ways[i]) true w') (h2 : ¬ (0 ≤ k ∧ k < (ways.length : Int)) → ∀ w', Ext w w' → K 0 0 0 0 0 false w') : sh_hier_Hier_Way p k K w := by
  obtain ⟨ok, hb, sr, sy, s3, su, sd, r, g, mm, us, ds, rfl, hpl, hmo, hM, rfl⟩ := h
  unfold sh_hier_Hier_Way
  intro b1 w2 e2 g1 g1'
  simp only [Option.isNone_some, cond_false]
  rw [Bool.cond_decide]
  split
  · intro w4 o4; exact h2 (by omega) w4 (ext_off e2 o4 g1)
  · have hB := e2.blkE hM.hd
    have hY := hM.wy.ext e2
    have hl := hY.view.len
    refine ⟨_, rfl, sy, by rw [addm, addm, cell_blk hB]; rfl, ?_⟩
    rw [Bool.cond_decide]
    split
    · intro w4 o4; exact h2 (by omega) w4 (ext_off e2 o4 g1)
    · refine ⟨_, rfl, sy, by rw [addm, addm, cell_blk hB]; rfl, ?_⟩
      obtain ⟨i, rfl⟩ := Int.eq_ofNat_of_zero_le (show 0 ≤ k by omega)
      refine way_idx hY.view (by omega) fun a _ a0 a1 a2 a3 a4 => ⟨_, a0, _, a1, _, a2, _, a3, _, a4, ?_⟩
      intro w16 o16
      exact h1 i rfl (by omega) w16 (ext_off e2 o16 g1)

theorem HHalves_ok {k : Int} {K : Int → Int → Bool → World → Prop} (h : HierA w p rank ways F)
    (h1 : ∀ i : Nat, k = (i : Int) → ∀ hi : i < ways.length, yM ways[i] ≠ -1 → ∀ w', Ext w w' → K (gN (findW ways (yF ways[i]) (yM ways[i]))) (gN (findW ways (yM ways[i]) (yT ways[i]))) ((findW ways (yF ways[i]) (yM ways[i])).isSome && (findW ways (yM ways[i]) (yT ways[i])).isSome) w')
    (h2 : (∀ i : Nat, k = (i : Int) → ∀ hi : i < ways.length, yM ways[i] = -1) → ∀ w', Ext w w' → K 0 0 false w') : sh_hier_Hier_Halves p k K w := by
  unfold sh_hier_Hier_Halves
  refine HWay_ok h (fun i hki hi w7 e7 => ?_) (fun hno w7 e7 => ?_)
  · intro b8 w9 e9 g8 _ w10 o10
    have e10 : Ext w w10 := ext_off (e7.trans e9) o10 (by have := e7.size; omega)
    simp only [Bool.not_true, cond_false]
    by_cases hm : yM ways[i] = -1
    · rw [show (yM ways[i] == -1) = true by simpa using hm, cond_true]
      exact h2 (fun j hj hjl => by have : j = i := by omega
                                   subst this; exact hm) w10 e10
    · rw [show (yM ways[i] == -1) = false by simpa using hm, cond_false]
      have h1' := h1 i hki hi hm
      obtain ⟨ok, hb, sr, sy, s3, su, sd, r, g, mm, us, ds, rfl, hpl, hmo, hM, rfl⟩ := h
      have hB := e10.blkE hM.hd
      refine ⟨_, rfl, sr, by rw [addm, addm, cell_blk hB]; rfl, sy, by rw [addm, addm, cell_blk hB]; rfl, _, rfl, some r, by rw [addm, cell_blk hB]; rfl, ?_⟩
      refine Quiet.mk (gN (findW ways (yF ways[i]) (yM ways[i])), gN (findW ways (yM ways[i]) (yT ways[i])), ((findW ways (yF ways[i]) (yM ways[i])).isSome && (findW ways (yM ways[i]) (yT ways[i])).isSome)) (fun w' e' K' hK' => ?_) ?_
      · exact halves_ok (hM.m.grow (e10.trans e')) hmo fun w'' e'' => hK' w'' e''
      · intro w22 e22; exact h1' w22 (e10.trans e22)
  · intro b8 w9 e9 g8 _ w10 o10
    have e10 : Ext w w10 := ext_off (e7.trans e9) o10 (by have := e7.size; omega)
    simp only [Bool.not_false, cond_true]
    exact h2 (fun i hki hi => absurd ⟨by omega, by omega⟩ hno) w10 e10
end

end Go.Sh

/- The reference of layer 10, and what its laws lean on. -/
set_option maxRecDepth 100000
namespace Go.Sh
open Go.RowKit

section
variable {w : World} {sr sy : SV} {rank : List Int} {ways : List Wy}

end
end Go.Sh

/- The reference's edges; what is known. -/
set_option maxRecDepth 100000
namespace Go.Sh
open Go.RowKit

section
variable {w : World} {sr sy : SV} {rank : List Int} {ways : List Wy}

end
end Go.Sh

/- HierTwo, HierFinds. -/
set_option maxRecDepth 100000
namespace Go.Sh
open Go.RowKit

section
variable {w : World} {p : Option Addr} {rank : List Int} {ways : List Wy} {F : Nat → Prop}
theorem Rank_quiet {v : Int} (h : HierA w p rank ways F) {K : Int → Prop} (hk : K (rankF rank v)) : Quiet Int (fun r => .int .i64 r) (fun K1 w1 => sh_hier_Hier_Rank p v (fun x w2 => K1 x w2) w1) w K :=
  Quiet.mk _ (fun _ e _ hK => Rank_ok (h.ext e) (hK _ (.refl _))) hk
end

theorem upF_mem {rank : List Int} {ways : List Wy} {v : Int} {e : Edg} (h : e ∈ upF rank ways v) : ∃ k : Nat, ∃ hk : k < ways.length, yF ways[k] = v ∧ IsUp rank ways[k] ∧ e = (yT ways[k], yW ways[k], (k : Int)) := by
  unfold upF at h; split at h
  · obtain ⟨k, hk, h1, h2, h3⟩ := upP_mem.1 h
    exact ⟨k, hk, by rw [wyA_get hk]; exact h1, by rw [wyA_get hk]; exact h2, by rw [wyA_get hk]; exact h3⟩
  · simp at h
theorem dnF_mem {rank : List Int} {ways : List Wy} {v : Int} {e : Edg} (h : e ∈ dnF rank ways v) : ∃ k : Nat, ∃ hk : k < ways.length, yT ways[k] = v ∧ ¬ IsUp rank ways[k] ∧ e = (yF ways[k], yW ways[k], (k : Int)) := by
  unfold dnF at h; split at h
  · obtain ⟨k, hk, h1, h2, h3⟩ := dnP_mem.1 h
    exact ⟨k, hk, by rw [wyA_get hk]; exact h1, by rw [wyA_get hk]; exact h2, by rw [wyA_get hk]; exact h3⟩
  · simp at h
theorem upF_of {rank : List Int} {ways : List Wy} (ok : OkH rank ways) {k : Nat} (hk : k < ways.length) (hu : IsUp rank ways[k]) : (yT ways[k], yW ways[k], (k : Int)) ∈ upF rank ways (yF ways[k]) := by
  have := ok.f k hk; unfold OkF at this
  unfold upF; rw [if_pos (by omega)]
  exact upP_mem.2 ⟨k, hk, by rw [wyA_get hk], by rw [← wyA_get hk]; exact hu, by rw [wyA_get hk]⟩
theorem dnF_of {rank : List Int} {ways : List Wy} (ok : OkH rank ways) {k : Nat} (hk : k < ways.length) (hu : ¬ IsUp rank ways[k]) : (yF ways[k], yW ways[k], (k : Int)) ∈ dnF rank ways (yT ways[k]) := by
  have := ok.f k hk; unfold OkF at this
  unfold dnF; rw [if_pos (by omega)]
  exact dnP_mem.2 ⟨k, hk, by rw [wyA_get hk], by rw [← wyA_get hk]; exact hu, by rw [wyA_get hk]⟩
theorem upF_lt {rank : List Int} {ways : List Wy} (ok : OkH rank ways) (v : Int) : (upF rank ways v).length < 2 ^ 40 := by
  have hk := ok.k
  unfold upF; split
  · have := upP_len rank ways v ways.length; omega
  · simp
theorem dnF_lt {rank : List Int} {ways : List Wy} (ok : OkH rank ways) (v : Int) : (dnF rank ways v).length < 2 ^ 40 := by
  have hk := ok.k
  unfold dnF; split
  · have := dnP_len rank ways v ways.length; omega
  · simp

end Go.Sh

/- How far the places are that ways lead up (or down) to. -/
set_option maxRecDepth 100000
namespace Go.Sh
open Go.RowKit

/-- The distance. -/
noncomputable def dstE (E : Nat → Nat → Int → Prop) (s v : Nat) : Int := Classical.epsilon (fun x => IsD E s v x)
theorem dstE_is {E : Nat → Nat → Int → Prop} (hE : ∀ u v x, E u v x → 0 ≤ x) (s v : Nat) : IsD E s v (dstE E s v) := Classical.epsilon_spec (IsD.ex hE s v)

/-- The ways up (down) out of a place, while its rank is less. -/
def edS (rank : List Int) (ways : List Wy) (top : Int) (back : Bool) (u : Nat) : List Edg := if rkA rank (u : Int) < top then (if back = true then dnF rank ways (u : Int) else upF rank ways (u : Int)) else []
abbrev ES (rank : List Int) (ways : List Wy) (top : Int) (back : Bool) : Nat → Nat → Int → Prop := EE' rank.length (edS rank ways top back)
/-- .. from a place, if it is one. -/
noncomputable def clF (rank : List Int) (ways : List Wy) (top : Int) (back : Bool) (s : Int) (v : Nat) : Int := if 0 ≤ s ∧ s < rank.length then dstE (ES rank ways top back) s.toNat v else -1

/-- A hierarchy whose ways are not too long. -/
structure FitH (rank : List Int) (ways : List Wy) : Prop where
  ok : OkH rank ways
  n : rank.length ≤ 2048
  b : ∀ y ∈ ways, yW y ≤ 1125899906842624

section
variable {rank : List Int} {ways : List Wy} {top : Int} {back : Bool}
theorem edS_ok (h : FitH rank ways) : EdOk rank.length 1125899906842624 (edS rank ways top back) := by
  have hn := h.n
  refine ⟨by decide, by omega, by omega, fun u hu e he => ?_, fun u hu => ?_⟩
  · unfold edS at he
    split at he
    · split at he
      · obtain ⟨k, hk, h1, h2, rfl⟩ := dnF_mem he
        have := h.ok.f k hk; unfold OkF at this
        exact ⟨by simp only; omega, by simp only; omega, by simp only; omega, h.b _ (List.getElem_mem hk)⟩
      · obtain ⟨k, hk, h1, h2, rfl⟩ := upF_mem he
        have := h.ok.f k hk; unfold OkF at this
        exact ⟨by simp only; omega, by simp only; omega, by simp only; omega, h.b _ (List.getElem_mem hk)⟩
    · simp at he
  · unfold edS
    split
    · split
      · exact dnF_lt h.ok _
      · exact upF_lt h.ok _
    · simp
theorem ES_pos (h : FitH rank ways) : ∀ u v x, ES rank ways top back u v x → 0 ≤ x := fun u v x ⟨hu, e, he, _, hx⟩ => by have := (edS_ok h).e u hu e he; omega
theorem ES_dom (h : FitH rank ways) : ∀ u v x, ES rank ways top back u v x → u < rank.length → v < rank.length := fun u v x ⟨hu, e, he, hv, _⟩ _ => by have := (edS_ok h).e u hu e he; omega
theorem clF_is (h : FitH rank ways) {s : Nat} (hs : s < rank.length) (v : Nat) : IsD (ES rank ways top back) s v (clF rank ways top back s v) := by
  unfold clF
  rw [if_pos (by omega), Int.toNat_natCast]
  exact dstE_is (ES_pos h) s v
theorem clF_no {s : Int} (hs : ¬ (0 ≤ s ∧ s < rank.length)) (v : Nat) : clF rank ways top back s v = -1 := by unfold clF; rw [if_neg hs]
end

/-- What a map of distances holds. -/
def MpF (n : Nat) (f : Nat → Int) (mm : List (List Int × Value)) : Prop := ∀ u : Int, assoc mm [u] = if 0 ≤ u ∧ u < n ∧ 0 ≤ f u.toNat then some (.int .i64 (f u.toNat)) else none
theorem MpF.nil {n : Nat} : MpF n (fun _ => -1) [] := fun u => by rw [if_neg (by dsimp only; omega)]; rfl
theorem MpF.set {n : Nat} {f : Nat → Int} {mm : List (List Int × Value)} (h : MpF n f mm) {c : Nat} (hc : c < n) {x : Int} (hx : 0 ≤ x) : MpF n (up1 f c x) (upd mm [(c : Int)] (.int .i64 x)) := fun u => by
  rw [assoc_upd]
  by_cases e : u = (c : Int)
  · subst e
    rw [if_pos rfl, Int.toNat_natCast, up1_at, if_pos (by omega)]
  · rw [if_neg (by simp only [List.cons.injEq, and_true]; omega), h u]
    by_cases h0 : 0 ≤ u
    · rw [up1_ne (by omega)]
    · rw [if_neg (by omega), if_neg (by omega)]
theorem MpF.at {n : Nat} {f : Nat → Int} {mm : List (List Int × Value)} (h : MpF n f mm) {v : Nat} (hv : v < n) : assoc mm [(v : Int)] = if 0 ≤ f v then some (.int .i64 (f v)) else none := by
  rw [h (v : Int), Int.toNat_natCast]
  by_cases q : 0 ≤ f v
  · rw [if_pos (by omega), if_pos q]
  · rw [if_neg (by omega), if_neg q]
theorem MpF.congr {n : Nat} {f g : Nat → Int} {mm : List (List Int × Value)} (h : MpF n f mm) (e : ∀ v, v < n → f v = g v) : MpF n g mm := fun u => by
  rw [h u]
  by_cases q : 0 ≤ u ∧ u < n
  · rw [e u.toNat (by omega)]
  · rw [if_neg (by omega), if_neg (by omega)]

def upV (back : Bool) : Value := if back = true then .func (.func fn_hier_Hier_Down) #[] #[] else .func (.func fn_hier_Hier_Up) #[] #[]
/-- What is known of the ways' function values. -/
structure WayCV (CV : CVT) : Prop where
  up : ∀ h v K w, sh_hier_Hier_Up h v (fun s w' => K (.slice s.a s.len s.cap) w') w → CV (.func (.func fn_hier_Hier_Up) #[] #[]) [.pointer h, .int .i64 v] K w
  dn : ∀ h v K w, sh_hier_Hier_Down h v (fun s w' => K (.slice s.a s.len s.cap) w') w → CV (.func (.func fn_hier_Hier_Down) #[] #[]) [.pointer h, .int .i64 v] K w

section
variable {CV : CVT} {w : World} {p : Option Addr} {rank : List Int} {ways : List Wy} {F : Nat → Prop}

theorem climb_no {s top : Int} {back : Bool} {K : Option Nat → World → Prop} (hH : HierA w p rank ways F) (hs : ¬ (0 ≤ s ∧ s < rank.length))
    (hk : ∀ r w', Ext w w' → MapIs false 1 w' r [] → w.heap.size ≤ r → K (some r) w') : sh_space_climb CV p s top (upV back) K w := by
  unfold sh_space_climb
  intro r w2 e2 g2 hm
  refine Rank_ok (hH.ext e2) ?_
  rw [Bool.cond_decide, if_pos ((rankF_neg hH.ok).2 hs)]
  exact hk r w2 e2 (MapIs.nil hm) g2

theorem climb_ok (hcv : WayCV CV) {s : Nat} {top : Int} {back : Bool} {K : Option Nat → World → Prop} (hH : HierA w p rank ways F) (fit : FitH rank ways) (hs : s < rank.length)
    (hk : ∀ r mm w', Ext w w' → MapIs false 1 w' r mm → w.heap.size ≤ r → MpF rank.length (clF rank ways top back s) mm → K (some r) w') : sh_space_climb CV p (s : Int) top (upV back) K w := by
  have ok : EdOk rank.length 1125899906842624 (edS rank ways top back) := edS_ok fit
  have hn := fit.n
  have hpos := ES_pos (top := top) (back := back) fit
  have hdom := ES_dom (top := top) (back := back) fit
  have hrk : ∀ v : Nat, v < rank.length → rankF rank (v : Int) = rkA rank (v : Int) := fun v hv => by unfold rankF; rw [if_pos (by omega)]
  unfold sh_space_climb
  intro r w2 e2 g2 hm
  have z2 := e2.size
  have hM2 : MapIs false 1 w2 r [] := MapIs.nil hm
  have lr : r < w2.heap.size := hM2.lt
  refine Rank_ok (hH.ext e2) ?_
  rw [Bool.cond_decide, if_neg (by rw [rankF_neg hH.ok]; omega)]
  refine HN_ok (hH.ext e2) ?_
  refine New_ok (by omega) (by omega) fun p7 w8 F8 e8 hP8 f8 => ?_
  rw [Int.toNat_natCast] at hP8
  have z8 := e8.size
  refine Set_ok hP8 (by omega) (by omega) fun w10 F10 c10 f10 hP10 => ?_
  have z10 := c10.size
  have lF : ∀ {k}, F k → k < w.heap.size := fun hk => hH.lt hk
  have e10 : Ext w w10 := ext_chg (e2.trans e8) c10 fun k hk => by have := f8 k hk; omega
  have hM10 : MapIs false 1 w10 r [] := (hM2.grow e8).same (c10.block r (by omega) fun h => by have := f8 r h; omega)
  refine LoopT.gh (γ := (Nat → Int) × List (Int × Int) × (Nat → Prop)) (fun gh (_ : Unit) w' => Ext w w' ∧ w2.heap.size ≤ w'.heap.size ∧ (∃ mm, MapIs false 1 w' r mm ∧ MpF rank.length gh.1 mm) ∧ HeapA w' p7 rank.length gh.2.1 gh.2.2 ∧ (∀ k, gh.2.2 k → w2.heap.size ≤ k) ∧ Dij (ES rank ways top back) rank.length s 1125899906842624 gh.1 gh.2.1) (fun gh => rank.length - cntR gh.1 rank.length)
    (fun _ => -1, [((s : Int), 0)], F10) ⟨e10, by omega, ⟨[], hM10, MpF.nil⟩, hP10, fun k hk => (f10 k hk).elim (fun h => f8 k h) fun h => by omega, Dij.begin hs ok.m⟩ ?_
  rintro ⟨f, L, G⟩ ⟨⟩ w13 ⟨e13, z13, ⟨mm, hM13, hmp⟩, hP13, f13, hD⟩ J1 hJ1
  simp only at hmp hP13 f13 hD hJ1
  by_cases hL : L = []
  · subst hL
    refine Pop_no hP13 ?_
    simp only [Bool.not_false, cond_true]
    exact hk r mm w13 e13 hM13 (by omega) (hmp.congr fun v hv => (hD.done hpos hdom hv).uniq (clF_is fit hs v))
  refine Pop_ok hP13 hL fun m w17 G17 hm c17 f17 hP17 => ?_
  simp only [Bool.not_true, cond_false]
  have z17 := c17.size
  obtain ⟨hmin, hmL⟩ := least_le hm
  obtain ⟨h0, h1, h2, h3, h4⟩ := hD.o m hmin
  have f17' : ∀ k, G17 k → w2.heap.size ≤ k := fun k hk => by
    rcases f17 k hk with h | h
    · exact f13 k h
    · omega
  have e17 : Ext w w17 := ext_chg e13 c17 fun k hk => by have := f13 k hk; omega
  have hM17 : MapIs false 1 w17 r mm := hM13.same (c17.block r (by omega) fun h => by have := f13 r h; omega)
  obtain ⟨hDP, _, hcnt⟩ := hD.pop hpos hdom hmin hmL (L' := rid L m.1) fun e => rid_mem
  obtain ⟨c, hc0⟩ := Int.eq_ofNat_of_zero_le h0
  have hc1 : m.1.toNat = c := by omega
  rw [hc1] at hDP hcnt h1
  rw [hc0]
  have hm0 : 0 ≤ m.2 := h3.nonneg hpos
  have hk2 := hD.kb hmin
  have hb := ok.b
  refine ⟨r, rfl, mm, hM17, fun w18 o18 hM18 => ?_⟩
  have z18 := o18.size
  have hmp := hmp.set h1 hm0
  have e18 : Ext w w18 := ext_off e17 o18 g2
  have hP18 : HeapA w18 p7 rank.length (rid L m.1) G17 := hP17.chg (G := fun k => k = r) (.of_off o18 rfl) fun k h1 h2 => by have := f17' k h1; omega
  have hH18 := hH.ext e18
  have hfc : up1 f c m.2 c = m.2 := up1_at
  have hcn := cntR_le (up1 f c m.2) rank.length
  refine Rank_ok hH18 ?_
  rw [hrk c h1, Bool.cond_decide]
  by_cases htop : rkA rank (c : Int) ≥ top
  · rw [if_pos htop]
    refine hJ1 (up1 f c m.2, rid L m.1, G17) () w18 ⟨e18, by omega, ⟨_, hM18, hmp⟩, hP18, f17', hDP.done fun v x ⟨_, e, he, _⟩ => ?_⟩ (by simp only; omega)
    unfold edS at he
    rw [if_neg (by omega)] at he
    simp at he
  rw [if_neg htop]
  have hed : edS rank ways top back c = if back = true then dnF rank ways (c : Int) else upF rank ways (c : Int) := by unfold edS; rw [if_pos (by omega)]
  have call : ∀ K' : Value → World → Prop, (∀ t w'', Ext w18 w'' → Own RD w'' t (edS rank ways top back c) → Fsh w18 t → K' (.slice t.a t.len t.cap) w'') → CV (upV back) [.pointer p, .int .i64 (c : Int)] K' w18 := fun K' hK' => by
    rw [hed] at hK'
    unfold upV
    cases back with
    | true => exact hcv.dn p _ _ _ (Down_ok hH18 fun t w'' e h f => hK' t w'' e h f)
    | false => exact hcv.up p _ _ _ (Up_ok hH18 fun t w'' e h f => hK' t w'' e h f)
  refine call _ fun s21 w23 e23 hO23 f23 => ⟨s21, rfl, ?_⟩
  have z23 := e23.size
  have l21 := hO23.view.len
  have hel := ok.l c h1
  have lr' : r < w18.heap.size := by omega
  refine LoopT.gh (γ := Nat × List (Int × Int) × (Nat → Prop)) (fun gh (st : Int × Unit) w' => st.1 = gh.1 ∧ gh.1 ≤ (edS rank ways top back c).length ∧ Ext w w' ∧ w23.heap.size ≤ w'.heap.size ∧ MapIs false 1 w' r (upd mm [(c : Int)] (.int .i64 m.2)) ∧ HeapA w' p7 rank.length gh.2.1 gh.2.2 ∧ (∀ k, gh.2.2 k → w2.heap.size ≤ k) ∧ Own RD w' s21 (edS rank ways top back c) ∧ Dj gh.2.2 s21.blk ∧
      DijP (ES rank ways top back) rank.length s 1125899906842624 (up1 f c m.2) gh.2.1 c (fun v x => ∃ j, ∃ hj : j < (edS rank ways top back c).length, j < gh.1 ∧ ((edS rank ways top back c)[j]).1 = (v : Int) ∧ ((edS rank ways top back c)[j]).2.1 = x)) (fun gh => (edS rank ways top back c).length - gh.1)
    (0, rid L m.1, G17) ⟨rfl, Nat.zero_le _, e18.trans e23, Nat.le_refl _, hM18.grow e23, hP18.ext e23, f17', hO23, fun k h1 h2 => by have := hP18.lt h1; have := f23 k h2; omega, hDP.mono fun v x h => by obtain ⟨j, _, hj, _⟩ := h; omega⟩ ?_
  rintro ⟨i, L1, F1⟩ ⟨x, _⟩ w26 ⟨hx, hi, e26, z26, hM26, hP26, f26, hE26, dj26, hD26⟩ J2 hJ2
  simp only at hx hi hP26 f26 dj26 hD26 hJ2; subst hx
  dsimp only
  rw [Bool.cond_decide]
  by_cases hc : (i : Int) < (s21.len : Int)
  · rw [if_pos hc]
    have hi' : i < (edS rank ways top back c).length := by omega
    obtain ⟨q0, q1, q2, q3⟩ := ok.e c h1 _ (List.getElem_mem hi')
    obtain ⟨v, hv⟩ := Int.eq_ofNat_of_zero_le q0
    have hvn : v < rank.length := by omega
    have hEv : ES rank ways top back c v ((edS rank ways top back c)[i]).2.1 := ⟨h1, _, List.getElem_mem hi', hv, rfl⟩
    refine do_idx hE26.view hi' fun _ a0 a1 a2 => ⟨_, a0, _, a1, _, a2, ?_⟩
    intro b31 w32 e32 g31 g31' w33 o33
    have z32 := e32.size; have z33 := o33.size
    have nb : ¬ F1 b31 := fun h => by have := hP26.lt h; omega
    have hP33 : HeapA w33 p7 rank.length L1 F1 := (hP26.ext e32).chg (G := fun k => k = b31) (.of_off o33 rfl) fun k h1 h2 => nb (h2 ▸ h1)
    have e33 : Ext w w33 := ext_off (e26.trans e32) o33 (by have := e26.size; omega)
    have hM33 : MapIs false 1 w33 r (upd mm [(c : Int)] (.int .i64 m.2)) := (hM26.grow e32).same (o33.block r (by omega))
    have hE33 : Own RD w33 s21 (edS rank ways top back c) := (hE26.ext e32).off o33 fun h => by have := hE26.lt h; omega
    have hle := hD26.le q3
    rw [hfc] at hle
    have wrap : IntKind.i64.wrap (m.2 + ((edS rank ways top back c)[i]).2.1) = m.2 + ((edS rank ways top back c)[i]).2.1 := w64 (by omega) (by omega)
    rw [wrap, hv]
    have next : ∀ (L2 : List (Int × Int)) (F2 : Nat → Prop) (w' : World), Ext w w' → w23.heap.size ≤ w'.heap.size → MapIs false 1 w' r (upd mm [(c : Int)] (.int .i64 m.2)) → HeapA w' p7 rank.length L2 F2 → (∀ k, F2 k → w2.heap.size ≤ k) → Own RD w' s21 (edS rank ways top back c) → Dj F2 s21.blk →
        DijP (ES rank ways top back) rank.length s 1125899906842624 (up1 f c m.2) L2 c (fun v' x' => (∃ j, ∃ hj : j < (edS rank ways top back c).length, j < i ∧ ((edS rank ways top back c)[j]).1 = (v' : Int) ∧ ((edS rank ways top back c)[j]).2.1 = x') ∨ v' = v ∧ x' = ((edS rank ways top back c)[i]).2.1) → J2 (IntKind.i64.wrap ((i : Int) + 1), ()) w' := fun L2 F2 w' q1 q2 q3 q4 q5 q6 q7 q8 =>
      hJ2 (i + 1, L2, F2) _ _ ⟨wsucc (m := 2 ^ 40) (by omega) (by omega), by simp only; omega, q1, q2, q3, q4, q5, q6, q7, q8.mono fun v' x' ⟨j, hj, hji, r1, r2⟩ => by
        by_cases e : j = i
        · subst e; right; exact ⟨by omega, r2.symm⟩
        · left; exact ⟨j, hj, by simp only at hji; omega, r1, r2⟩⟩ (by simp only; omega)
    have set : ∀ (w39 : World), Ext w33 w39 → (∀ k, ((v : Int), k) ∈ L1 → m.2 + ((edS rank ways top back c)[i]).2.1 ≤ k) → up1 f c m.2 v = -1 → sh_heap_Heap_Set p7 (v : Int) (m.2 + ((edS rank ways top back c)[i]).2.1) (fun t42 w43 => (Keeps [b31] w39 w43 ∧ (J2 ((IntKind.i64.wrap ((i : Int) + (1 : Int))), ()) w43))) w39 := fun w39 e39 hb' hf => by
      have z39 := e39.size
      refine Set_ok (hP33.ext e39) (by omega) (by omega) fun w43 F43 c43 f43 hP43 => ⟨kc1 c43 (by omega) nb, ?_⟩
      have z43 := c43.size
      refine next _ F43 w43 (ext_chg (e33.trans e39) c43 fun k hk => by have := f26 k hk; omega) (by omega) ((hM33.grow e39).same (c43.block r (by omega) fun h => by have := f26 r h; omega)) hP43 (fun k hk => ?_) ((hE33.ext e39).chg c43 fun k h1 h2 => dj26 k h2 h1) (fun k hk h2 => ?_) ?_
      · rcases f43 k hk with h | h
        · exact f26 k h
        · omega
      · rcases f43 k hk with h | h
        · exact dj26 k h h2
        · have := hE26.lt h2; omega
      · refine hD26.set hvn hEv q3 hf (fun k hk => by rw [hfc]; exact hb' k hk) fun e => ?_
        rw [List.mem_cons, rid_mem, hfc]
    have skip : ∀ (w39 : World), Ext w33 w39 → (0 ≤ up1 f c m.2 v ∨ ∃ k, ((v : Int), k) ∈ L1 ∧ k ≤ m.2 + ((edS rank ways top back c)[i]).2.1) → J2 ((IntKind.i64.wrap ((i : Int) + (1 : Int))), ()) w39 := fun w39 e39 hsk => by
      have z39 := e39.size
      exact next L1 F1 w39 (e33.trans e39) (by omega) (hM33.grow e39) (hP33.ext e39) f26 (hE33.ext e39) dj26 (hD26.skip (by rw [hfc]; exact hsk))
    have hval : up1 f c m.2 v = -1 ∨ 0 ≤ up1 f c m.2 v := by
      rcases hD26.d v hvn with h | ⟨_, h, _⟩
      · exact .inl h
      · exact .inr h
    have look := hmp.at hvn
    refine Key_ok hP33 (fun key hin w39 e39 => ⟨kp1 e39 (by omega), ?_⟩) (fun hno => ⟨kp0_1 _ _, ?_⟩)
    · refine ⟨_, hM33.grow e39, ?_⟩
      rw [look]
      rcases hval with h | h
      · rw [if_neg (by omega)]
        refine ⟨0, rfl, ?_⟩
        simp only [Option.isSome_none, Bool.not_false, Bool.not_true, cond_false, cond_true]
        rw [Bool.cond_decide]
        by_cases hlt : m.2 + ((edS rank ways top back c)[i]).2.1 < key
        · rw [if_pos hlt]
          exact set w39 e39 (fun k hk => by rw [hP33.uniq hk hin]; omega) h
        · rw [if_neg hlt]
          exact skip w39 e39 (.inr ⟨key, hin, by omega⟩)
      · rw [if_pos h]
        refine ⟨_, rfl, ?_⟩
        simp only [Option.isSome_some, Bool.not_true, cond_false]
        exact skip w39 e39 (.inl h)
    · refine ⟨_, hM33, ?_⟩
      rw [look]
      rcases hval with h | h
      · rw [if_neg (by omega)]
        refine ⟨0, rfl, ?_⟩
        simp only [Option.isSome_none, Bool.not_false, cond_true]
        exact set w33 (.refl _) (fun k hk => absurd hk (hno k)) h
      · rw [if_pos h]
        refine ⟨_, rfl, ?_⟩
        simp only [Option.isSome_some, Bool.not_true, cond_false]
        exact skip w33 (.refl _) (.inl h)
  · rw [if_neg hc]
    have : i = (edS rank ways top back c).length := by omega
    subst this
    refine hJ1 (up1 f c m.2, L1, F1) () w26 ⟨e26, by omega, ⟨_, hM26, hmp⟩, hP26, f26, hD26.done fun v x ⟨_, e, he, r1, r2⟩ => ?_⟩ (by simp only; omega)
    obtain ⟨j, hj, rfl⟩ := List.getElem_of_mem he
    exact ⟨j, hj, hj, r1, r2⟩
end
end Go.Sh

/- The maps' reference: which arcs count, and the edges out of a place; what is only laid. -/
set_option maxRecDepth 100000
namespace Go.Sh
open Go.RowKit

/-- A slice that grows: what is laid behind it is of its own. -/
structure Acc {α : Type} (R : Rc α) (w0 : World) (n : Nat) (w : World) (s : SV) (xs : List α) : Prop where
  e : Ext w0 w
  m : w0.heap.size ≤ n
  z : n ≤ w.heap.size
  o : Own R w s xs
  f : ∀ k, s.blk k → n ≤ k
section
variable {α : Type} {R : Rc α} {w0 w w' w'' : World} {n : Nat} {s : SV} {xs : List α}
theorem Acc.nil (e : Ext w0 w) (m : w0.heap.size ≤ n) (z : n ≤ w.heap.size) : Acc R w0 n w ⟨none, 0, 0⟩ [] := ⟨e, m, z, Own.nil, fun _ ⟨_, h, _⟩ => by cases h⟩
theorem Acc.ext (h : Acc R w0 n w s xs) (e : Ext w w') : Acc R w0 n w' s xs := ⟨h.e.trans e, h.m, Nat.le_trans h.z e.size, h.o.ext e, h.f⟩
/-- A box that was laid ahead is written. -/
theorem Acc.off (h : Acc R w0 n w s xs) {b : Nat} (o : Off b w w') (h0 : w0.heap.size ≤ b) (hb : b < n) : Acc R w0 n w' s xs :=
  ⟨ext_off h.e o h0, h.m, by rw [o.size]; exact h.z, h.o.off o fun hk => by have := h.f _ hk; omega, h.f⟩
/-- .. that was laid since. -/
theorem Acc.off' (h : Acc R w0 n w s xs) {b : Nat} (e : Ext w w') (o : Off b w' w'') (hb : w.heap.size ≤ b) : Acc R w0 n w'' s xs := h.ext (ext_off e o hb)
theorem Acc.kp (h : Acc R w0 n w s xs) {w1 w2 : World} (e : Ext w w1) (c : Chg s.blk w1 w2) {bs : List Nat} (hb : ∀ b ∈ bs, b < w1.heap.size ∧ (b < n ∨ w.heap.size ≤ b)) : Keeps bs w1 w2 :=
  kp_chg c fun b hm => ⟨(hb b hm).1, fun hk => by have := h.f b hk; have := h.o.lt hk; have := (hb b hm).2; omega⟩
theorem Acc.push (h : Acc R w0 n w s xs) {x : α} {bytes : Nat} (hb : (xs.length + 1) * bytes ≤ 2 ^ 47) (hn : xs.length + 1 < 2 ^ 62) {K : World → SV → World → Prop}
    (hk : ∀ w2 s' w', Ext w w2 → Chg s.blk w2 w' → (∀ k, s'.blk k → s.blk k ∨ w.heap.size ≤ k) → Acc R w0 n w' s' (xs ++ [x]) → K w2 s' w') :
    NewB (R.enc x) w (fun b w2 => App bytes (R.enc R.z) s ⟨some ⟨b, 0, none⟩, 1, 1⟩ w2 (fun s' w' => K w2 s' w')) :=
  push_ok h.o hb hn fun w2 s' w' e2 c hs hO => hk w2 s' w' e2 c hs ⟨ext_chg (h.e.trans e2) c fun k hk => Nat.le_trans h.m (h.f k hk), h.m, Nat.le_trans h.z (Nat.le_trans e2.size c.size), hO, fun k hk => by
    rcases hs k hk with h1 | h1
    · exact h.f k h1
    · exact Nat.le_trans h.z h1⟩
/-- What another slice's growth leaves as it was. -/
theorem Acc.other {F : Nat → Prop} {w2 : World} (h : Acc R w0 n w s xs) (e : Ext w w2) (c : Chg F w2 w') (d : Dj s.blk F) (e0 : Ext w0 w') : Acc R w0 n w' s xs :=
  ⟨e0, h.m, Nat.le_trans h.z (Nat.le_trans e.size c.size), (h.o.ext e).chg c d, h.f⟩
theorem Acc.dj {β : Type} {S : Rc β} {ys : List β} {t s' : SV} (h : Acc S w0 n w t ys) (d : Dj s.blk t.blk) (hs : ∀ k, s'.blk k → s.blk k ∨ w.heap.size ≤ k) : Dj s'.blk t.blk := d.grow hs fun _ hk => h.o.lt hk
/-- .. in a region that draws its order. -/
theorem Acc.push' (h : Acc R w0 n w s xs) {x : α} {bytes : Nat} (hb : (xs.length + 1) * bytes ≤ 2 ^ 47) (hn : xs.length + 1 < 2 ^ 62) {K : World → SV → World → Prop}
    (hk : ∀ w2 s' w', Ext w w2 → Chg s.blk w2 w' → (∀ k, s'.blk k → s.blk k ∨ w.heap.size ≤ k) → Acc R w0 n w' s' (xs ++ [x]) → K w2 s' w') :
    NewB (R.enc x) w (fun b w1 => ∀ w2, Ext w1 w2 → App bytes (R.enc R.z) s ⟨some ⟨b, 0, none⟩, 1, 1⟩ w2 (fun s' w' => K w2 s' w')) := by
  intro b w1 e1 g1 hB w2 e2
  have e12 := e1.trans e2
  have z2 := e12.size
  exact Own.app (R := R) (h.o.ext e12) (View.one (R := R) (x := x) (e2.blkE hB)) (by simpa using hb) (by simpa using hn) fun s' w' c hs hO => hk w2 s' w' e12 c (fun k hk => (hs k hk).imp id fun h => Nat.le_trans z2 h) ⟨ext_chg (h.e.trans e12) c fun k hk => Nat.le_trans h.m (h.f k hk), h.m, Nat.le_trans h.z (Nat.le_trans e12.size c.size), hO, fun k hk => by
    rcases hs k hk with h1 | h1
    · exact h.f k h1
    · exact Nat.le_trans h.z (Nat.le_trans z2 h1)⟩
end

section
variable {w : World}

theorem counts_ok {N : Int} {s : SV} {arcs : List Arc} {k : Nat} {K : Bool → World → Prop} (h : View RD w s arcs) (ok : OkMap N arcs) (hk : k < arcs.length) (hK : ∀ w', Ext w w' → K (decide (Kept arcs k)) w') : sh_postroadref06_counts N s (k : Int) K w := by
  unfold sh_postroadref06_counts
  intro b1 w2 e2 g1 g1'
  have z2 := e2.size
  have hl := h.len; have hlen := ok.len
  refine do_idx (h.ext e2) hk fun _ a0 a1 a2 => ⟨_, a0, _, a1, _, a2, ?_⟩
  intro b7 w8 e8 g7 g7' w9 o9
  have e9 : Ext w w9 := ext_off (e2.trans e8) o9 (by omega)
  simp only [arcA_get hk]
  obtain ⟨f1, f2⟩ := ok.fr hk
  obtain ⟨t1, t2⟩ := ok.to hk
  by_cases hft : frA arcs k = toA arcs k
  · rw [show ((arcA arcs k).1 == (arcA arcs k).2.1) = true by rw [beq_iff_eq]; omega, cond_true]
    have := hK w9 e9
    rw [decide_eq_false (fun q => q.1 hft)] at this; exact this
  rw [show ((arcA arcs k).1 == (arcA arcs k).2.1) = false by rw [beq_eq_false_iff_ne]; omega, cond_false]
  refine LoopT.gh (γ := Nat) (fun i (st : Int × Unit) w' => st.1 = i ∧ i ≤ arcs.length ∧ Ext w w' ∧ ∀ j, j < i → Same arcs j k → ¬ Less arcs j k) (fun i => arcs.length - i) 0 ⟨rfl, Nat.zero_le _, e9, fun j hj => by omega⟩ ?_
  rintro i ⟨x, _⟩ w12 ⟨hx, hi, e12, hno⟩ J1 hJ1
  simp only at hx; subst hx
  dsimp only
  rw [Bool.cond_decide]
  by_cases hc : (i : Int) < (s.len : Int)
  · rw [if_pos hc]
    have hi' : i < arcs.length := by omega
    have z12 := e12.size
    refine Join.cut (fun _ w' => Ext w w' ∧ (Same arcs i k → ¬ Less arcs i k)) (fun J hJ => ?_) ?_
    · refine do_idx (h.ext e12) hi' fun _ a0 a1 a2 => ⟨_, a0, _, a1, _, a2, ?_⟩
      intro b18 w19 e19 g18 g18' w20 o20
      have e20 : Ext w w20 := ext_off (e12.trans e19) o20 (by omega)
      simp only [arcA_get hi']
      obtain ⟨f3, _⟩ := ok.fr hi'
      obtain ⟨t3, _⟩ := ok.to hi'
      have no : Same arcs i k → Less arcs i k → K false w20 := fun h1 h2 => by
        have := hK w20 e20
        rw [decide_eq_false (fun q => q.2 i hi' h1 h2)] at this; exact this
      by_cases h1 : frA arcs i = frA arcs k
      · rw [show ((arcA arcs i).1 == (arcA arcs k).1) = true by rw [beq_iff_eq]; omega, cond_true]
        by_cases h2 : toA arcs i = toA arcs k
        · rw [show ((arcA arcs i).2.1 == (arcA arcs k).2.1) = true by rw [beq_iff_eq]; omega, cond_true, Bool.cond_decide]
          by_cases h3 : (arcA arcs i).2.2 < (arcA arcs k).2.2
          · rw [if_pos h3]; exact no ⟨h1, h2⟩ (.inl h3)
          · rw [if_neg h3]
            by_cases h4 : (arcA arcs i).2.2 = (arcA arcs k).2.2
            · rw [show ((arcA arcs i).2.2 == (arcA arcs k).2.2) = true by rw [beq_iff_eq]; exact h4, cond_true, Bool.cond_decide]
              by_cases h5 : (i : Int) < (k : Int)
              · rw [if_pos h5]; exact no ⟨h1, h2⟩ (.inr ⟨h4, by omega⟩)
              · rw [if_neg h5]; exact hJ _ _ ⟨e20, fun _ q => q.elim (fun q => h3 q) fun q => by omega⟩
            · rw [show ((arcA arcs i).2.2 == (arcA arcs k).2.2) = false by rw [beq_eq_false_iff_ne]; exact h4, cond_false]
              exact hJ _ _ ⟨e20, fun _ q => q.elim (fun q => h3 q) fun q => h4 q.1⟩
        · rw [show ((arcA arcs i).2.1 == (arcA arcs k).2.1) = false by rw [beq_eq_false_iff_ne]; omega, cond_false]
          exact hJ _ _ ⟨e20, fun q => absurd q.2 h2⟩
      · rw [show ((arcA arcs i).1 == (arcA arcs k).1) = false by rw [beq_eq_false_iff_ne]; omega, cond_false]
        exact hJ _ _ ⟨e20, fun q => absurd q.1 h1⟩
    · rintro _ w22 ⟨e22, hn⟩
      refine hJ1 (i + 1) _ _ ⟨wsucc (m := 2 ^ 40) (by omega) (by omega), by omega, e22, fun j hj hs => ?_⟩ (by omega)
      by_cases e : j = i
      · subst e; exact hn hs
      · exact hno j (by omega) hs
  · rw [if_neg hc]
    have := hK w12 e12
    rw [show decide (Kept arcs k) = true from decide_eq_true ⟨hft, fun i hi => hno i (by omega)⟩] at this; exact this

def kI (arcs : List Arc) (k : Nat) : Int := if Kept arcs k then 1 else 0
theorem fi_succ (n : Nat) (f : Nat → Int) : fi (n + 1) f = fi n f ++ [f n] := by unfold fi; rw [List.range_succ, List.map_append]; rfl

theorem mNew_ok {N : Int} {s : SV} {arcs : List Arc} {K : Int → SV → SV → Bool → World → Prop} (h : View RD w s arcs) (ok : OkMap N arcs)
    (hK : ∀ t w', Ext w w' → Own RI w' t (fi arcs.length (kI arcs)) → Fsh w t → K N s t true w') : sh_postroadref06_New N s K w := by
  unfold sh_postroadref06_New
  intro b1 w2 e2 g1 g1' b3 w4 e4 g3 g3'
  have z2 := e2.size; have z4 := e4.size
  have hl := h.len; have hlen := ok.len
  refine check5_ok (h.ext (e2.trans e4)) fun c w6 e6 hc => ?_
  refine ⟨kp_ext e6 (by (intro b hb; simp only [List.mem_cons, List.not_mem_nil, or_false] at hb; omega)), ?_⟩
  have z6 := e6.size
  rw [show (c != 0) = false by rw [bne_eq_false_iff_eq]; exact hc.2 ok, cond_false]
  intro b8 w9 e9 g8 g8' w10 o10
  have z9 := e9.size; have z10 := o10.size
  have e10 : Ext w w10 := ext_off (((e2.trans e4).trans e6).trans e9) o10 (by omega)
  refine Join.cut (fun (x : (Int × SV × SV × Unit) × Unit) w' => x.1.1 = N ∧ x.1.2.1 = s ∧ Acc RI w w10.heap.size w' x.1.2.2.1 (fi arcs.length (kI arcs))) (fun J hJ => ?_) ?_
  · refine LoopT.gh (γ := Nat) (fun i (st : Int × (Int × SV × SV × Unit) × Unit) w' => st.1 = i ∧ i ≤ arcs.length ∧ st.2.1.1 = N ∧ st.2.1.2.1 = s ∧ Acc RI w w10.heap.size w' st.2.1.2.2.1 (fi i (kI arcs))) (fun i => arcs.length - i) 0
      ⟨rfl, Nat.zero_le _, rfl, rfl, Acc.nil e10 e10.size (Nat.le_refl _)⟩ ?_
    rintro i ⟨x, ⟨m, t, u, _⟩, _⟩ w14 ⟨hx, hi, hm, ht, hA⟩ J1 hJ1
    simp only at hx hm ht hA
    subst hx hm ht
    dsimp only
    have z14 := hA.z
    rw [Bool.cond_decide]
    by_cases hc : (i : Int) < (t.len : Int)
    · rw [if_pos hc]
      have hi' : i < arcs.length := by omega
      refine Join.cut (fun (x : Int × Unit) w' => x.1 = kI arcs i ∧ Acc RI w w10.heap.size w' u (fi i (kI arcs))) (fun J' hJ' => ?_) ?_
      · refine counts_ok (h.ext hA.e) ok hi' fun w17 e17 => ⟨kp_ext e17 (by (intro b hb; simp only [List.mem_cons, List.not_mem_nil, or_false] at hb; omega)), ?_⟩
        by_cases hk : Kept arcs i
        · rw [decide_eq_true hk, cond_true]; exact hJ' _ _ ⟨by unfold kI; rw [if_pos hk], hA.ext e17⟩
        · rw [decide_eq_false hk, cond_false]; exact hJ' _ _ ⟨by unfold kI; rw [if_neg hk], hA.ext e17⟩
      · rintro ⟨x, _⟩ w19 ⟨hx, hA⟩
        simp only at hx; subst hx
        have z19 := hA.z
        refine hA.push (R := RI) (x := kI arcs i) (by rw [fi_len]; omega) (by rw [fi_len]; omega) fun w21 s22 w23 e21 c23 _ hA3 => ?_
        have z21 := e21.size
        refine ⟨hA.kp e21 c23 (by (intro b hb; simp only [List.mem_cons, List.not_mem_nil, or_false] at hb; omega)), fun w24 o24 => ?_⟩
        refine hJ1 (i + 1) _ _ ⟨wsucc (m := 2 ^ 40) (by omega) (by omega), by omega, rfl, rfl, ?_⟩ (by omega)
        rw [fi_succ]
        exact hA3.off o24 (by omega) (by omega)
    · rw [if_neg hc]
      have : i = arcs.length := by omega
      subst this
      exact hJ _ _ ⟨rfl, rfl, hA⟩
  · rintro ⟨⟨m, t, u, _⟩, _⟩ w26 ⟨hm, ht, hA⟩ w27 o27
    simp only at hm ht hA
    subst hm ht
    have hA := hA.off o27 (by omega) (by omega)
    exact hK _ _ hA.e hA.o fun k hk => by have := hA.f k hk; omega

theorem semSlice_none {sz : Nat} {a : Option Addr} {n c : Nat} {h : Option Int} {K : SV → Prop} : semSlice sz a n c none h K = semSlice sz a n c (some ((0 : Nat) : Int)) h K := by
  simp [semSlice]

theorem mput_ok {l0 : SV} {xs : List (Int × Int × Int)} {V W A : Int} {K : SV → World → Prop} (h : Own RD w l0 xs) (hr : Rise xs) (hn : xs.length < 2 ^ 40)
    (hk : ∀ s w', Ext w w' → Fsh w s → Own RD w' s (insE (V, W, A) xs) → K s w') : sh_postroadref06_put l0 V W A K w := by
  unfold sh_postroadref06_put
  intro b1 w2 e2 g1 g1'
  have z2 := e2.size
  have hl := h.view.len
  refine Join.cut (fun (x : Int × Unit) w' => Ext w2 w' ∧ ∃ k : Nat, x.1 = (k : Int) ∧ k ≤ xs.length ∧ insE (V, W, A) xs = xs.take k ++ (V, W, A) :: xs.drop k) (fun J hJ => ?_) ?_
  · refine LoopT.gh (γ := Nat) (fun k (st : Int × Unit) w' => st.1 = k ∧ k ≤ xs.length ∧ Ext w2 w' ∧ ∀ j (hj : j < xs.length), j < k → xs[j].1 < V) (fun k => xs.length - k) 0 ⟨rfl, Nat.zero_le _, .refl _, fun j hj hk => by omega⟩ ?_
    rintro k ⟨x, _⟩ w6 ⟨hx, hk', e6, hlt⟩ J1 hJ1
    simp only at hx; subst hx
    dsimp only
    rw [Bool.cond_decide]
    by_cases hc : (k : Int) < (l0.len : Int)
    · rw [if_pos hc]
      have hi : k < xs.length := by omega
      refine do_idx ((h.ext e2).ext e6).view hi fun _ a0 _ _ => ⟨_, a0, ?_⟩
      intro w9 e9
      rw [Bool.cond_decide]
      by_cases hlt' : xs[k].1 < V
      · rw [if_pos hlt']
        refine hJ1 (k + 1) _ _ ⟨wsucc (m := 2 ^ 40) (by omega) (by omega), by omega, e6.trans e9, fun j hj hjk => ?_⟩ (by omega)
        by_cases e : j = k
        · subst e; exact hlt'
        · exact hlt j hj (by omega)
      · rw [if_neg hlt']
        exact hJ _ _ ⟨e6.trans e9, k, rfl, hk', insE_at hk' hlt fun _ => hlt'⟩
    · rw [if_neg hc]
      intro w10 e10
      exact hJ _ _ ⟨e6.trans e10, k, rfl, hk', insE_at hk' hlt fun h => by omega⟩
  · rintro ⟨_, _⟩ w12 ⟨e12, k, rfl, hk', hins⟩
    dsimp only
    have z12 := e12.size
    have h12 := (h.ext e2).ext e12
    rw [semSlice_none]
    refine h12.slice (R := RD) (lo := 0) (hi := k) (Nat.zero_le _) hk' fun s13 v13 _ => ?_
    rw [List.drop_zero, Nat.sub_zero] at v13
    refine copy_ok (R := RD) v13 (by rw [List.length_take]; omega) (by rw [List.length_take]; omega) fun s14 w15 e15 hO f14 => ?_
    have z15 := e15.size
    refine ⟨kp_ext e15 (by (intro b hb; simp only [List.mem_cons, List.not_mem_nil, or_false] at hb; omega)), ?_⟩
    have hA : Acc RD w2 w12.heap.size w15 s14 (xs.take k) := ⟨e12.trans e15, z12, z15, hO, f14⟩
    have ltk : (xs.take k).length ≤ xs.length := by rw [List.length_take]; omega
    refine hA.push (R := RD) (x := (V, W, A)) (by omega) (by omega) fun w17 s18 w19 e17 c19 _ hA => ?_
    have z17 := e17.size
    refine ⟨kp_chg c19 fun b hb => ?_, ?_⟩
    · simp only [List.mem_cons, List.not_mem_nil, or_false] at hb; subst hb
      exact ⟨by omega, fun hk => by have := f14 _ hk; omega⟩
    refine (h.ext (e2.trans hA.e)).tail (R := RD) (lo := k) hk' fun s20 v20 _ => ?_
    refine Own.app (R := RD) hA.o v20 (by simp only [List.length_append, List.length_take, List.length_drop, List.length_cons, List.length_nil]; omega) (by simp only [List.length_append, List.length_take, List.length_drop, List.length_cons, List.length_nil]; omega) fun s21 w22 c22 hs hO => ?_
    have z19 := hA.z
    refine ⟨kp_chg c22 fun b hb => ?_, ?_⟩
    · simp only [List.mem_cons, List.not_mem_nil, or_false] at hb; subst hb
      exact ⟨by omega, fun hk => by have := hA.f _ hk; omega⟩
    refine hk s21 w22 (ext_chg (e2.trans hA.e) c22 fun k hk => by have := hA.f k hk; omega) (fun k hk => ?_) ?_
    · rcases hs k hk with h1 | h1
      · have := hA.f k h1; omega
      · omega
    · rw [hins]
      simpa using hO

/-- The edge of an arc; the way of an arc. -/
def edA (arcs : List Arc) (k : Nat) : Arc := ((arcA arcs k).2.1, (arcA arcs k).2.2, (k : Int))
def wyK (arcs : List Arc) (k : Nat) : Wy := ((arcA arcs k).1, (arcA arcs k).2.1, (arcA arcs k).2.2, -1, (k : Int))

theorem mOut_ok {N : Int} {s t : SV} {arcs : List Arc} {v : Int} {K : SV → World → Prop} (h : View RD w s arcs) (ht : View RI w t (fi arcs.length (kI arcs))) (ok : OkMap N arcs)
    (hK : ∀ u w' xs, Ext w w' → Own RD w' u xs → Fsh w u → Rise xs → xs.length ≤ arcs.length → (∀ e, e ∈ xs ↔ ∃ k, k < arcs.length ∧ Kept arcs k ∧ (arcA arcs k).1 = v ∧ e = edA arcs k) → K u w') : sh_postroadref06_Out N s t v K w := by
  unfold sh_postroadref06_Out
  intro b1 w2 e2 g1 g1'
  have z2 := e2.size
  have hl := h.len; have hlen := ok.len; have htl := ht.len
  rw [fi_len] at htl
  refine LoopT.gh (γ := Nat × List Arc) (fun g (st : SV × Int × Unit) w' => st.2.1 = g.1 ∧ g.1 ≤ arcs.length ∧ Acc RD w w2.heap.size w' st.1 g.2 ∧ Rise g.2 ∧ g.2.length ≤ g.1 ∧ ∀ e, e ∈ g.2 ↔ ∃ k, k < g.1 ∧ Kept arcs k ∧ (arcA arcs k).1 = v ∧ e = edA arcs k) (fun g => arcs.length - g.1) (0, [])
    ⟨rfl, Nat.zero_le _, Acc.nil e2 z2 (Nat.le_refl _), List.Pairwise.nil, Nat.le_refl _, fun e => by simp⟩ ?_
  rintro ⟨i, xs⟩ ⟨u, x, _⟩ w5 ⟨hx, hi, hA, hr, hxl, hm⟩ J1 hJ1
  simp only at hx hi hA hr hxl hm
  subst hx
  dsimp only
  have z5 := hA.z
  rw [Bool.cond_decide]
  by_cases hc : (i : Int) < (t.len : Int)
  · rw [if_pos hc]
    have hi' : i < arcs.length := by omega
    refine Join.cut (fun (y : SV × Unit) w' => ∃ xs', Acc RD w w2.heap.size w' y.1 xs' ∧ Rise xs' ∧ xs'.length ≤ i + 1 ∧ ∀ e, e ∈ xs' ↔ e ∈ xs ∨ (Kept arcs i ∧ (arcA arcs i).1 = v ∧ e = edA arcs i)) (fun J hJ => ?_) ?_
    · refine fi_rd (ht.ext hA.e) hi' fun a ha => ⟨_, ha, ?_⟩
      by_cases hk : Kept arcs i
      · rw [show (kI arcs i == 1) = true by unfold kI; rw [if_pos hk]; rfl, cond_true]
        refine do_idx (h.ext hA.e) hi' fun _ a0 _ _ => ⟨_, a0, ?_⟩
        simp only [arcA_get hi']
        by_cases hv : (arcA arcs i).1 = v
        · rw [show ((arcA arcs i).1 == v) = true by rw [beq_iff_eq]; exact hv, cond_true]
          refine do_idx (h.ext hA.e) hi' fun _ _ a1 _ => ⟨_, a1, ?_⟩
          refine do_idx (h.ext hA.e) hi' fun _ _ _ a2 => ⟨_, a2, ?_⟩
          simp only [arcA_get hi']
          intro w16 e16
          have z16 := e16.size
          refine mput_ok (hA.ext e16).o hr (by omega) fun s15 w17 e17 f15 hO => ?_
          refine ⟨kp_ext e17 (by (intro b hb; simp only [List.mem_cons, List.not_mem_nil, or_false] at hb; omega)), fun w18 e18 => ?_⟩
          have z17 := e17.size
          refine hJ _ _ ⟨insE (edA arcs i) xs, (Acc.mk ((hA.e.trans e16).trans e17) hA.m (by omega) hO fun k hk => by have := f15 k hk; omega : Acc RD w w2.heap.size w17 s15 (insE (edA arcs i) xs)).ext e18, insE_rise hr fun y hy => ?_, by rw [insE_len]; omega, fun e => ?_⟩
          · obtain ⟨k, hki, hkk, hkv, rfl⟩ := (hm y).1 hy
            intro he
            have f1 := ok.fr (show k < arcs.length by omega); have f2 := ok.fr hi'
            have t1 := ok.to (show k < arcs.length by omega); have t2 := ok.to hi'
            have he' : (arcA arcs k).2.1 = (arcA arcs i).2.1 := he
            have hs : Same arcs k i := ⟨by omega, by omega⟩
            have := Less.total (hk.2 k (by omega) hs) (hkk.2 i hi' hs.symm)
            omega
          · rw [insE_mem, or_comm]
            exact ⟨fun q => q.imp id fun q => ⟨hk, hv, q⟩, fun q => q.imp id fun q => q.2.2⟩
        · rw [show ((arcA arcs i).1 == v) = false by rw [beq_eq_false_iff_ne]; exact hv, cond_false]
          exact hJ _ _ ⟨xs, hA, hr, by omega, fun e => ⟨.inl, fun q => q.elim id fun q => absurd q.2.1 hv⟩⟩
      · rw [show (kI arcs i == 1) = false by unfold kI; rw [if_neg hk]; rfl, cond_false]
        exact hJ _ _ ⟨xs, hA, hr, by omega, fun e => ⟨.inl, fun q => q.elim id fun q => absurd q.1 hk⟩⟩
    · rintro ⟨u', _⟩ w20 ⟨xs', hA', hr', hl', hm'⟩
      refine hJ1 (i + 1, xs') _ _ ⟨wsucc (m := 2 ^ 40) (by omega) (by omega), by simp only; omega, hA', hr', hl', fun e => ?_⟩ (by simp only; omega)
      rw [hm', hm]
      constructor
      · rintro (⟨k, h1, h2, h3, h4⟩ | ⟨h2, h3, h4⟩)
        · exact ⟨k, by simp only; omega, h2, h3, h4⟩
        · exact ⟨i, by simp only; omega, h2, h3, h4⟩
      · rintro ⟨k, h1, h2, h3, h4⟩
        simp only at h1
        by_cases e1 : k = i
        · subst e1; exact .inr ⟨h2, h3, h4⟩
        · exact .inl ⟨k, by omega, h2, h3, h4⟩
  · rw [if_neg hc]
    have : i = arcs.length := by omega
    subst this
    exact hK u w5 xs hA.e hA.o (fun k hk => by have := hA.f k hk; omega) hr hxl hm
end
end Go.Sh

/- What is reached, told as rows; Within, Forward, Back, Find. -/
set_option maxRecDepth 100000
namespace Go.Sh
open Go.RowKit

/-- What is gathered. -/
def gthL (g : Nat → Int × Int × Bool) : Nat → List (Int × Int)
  | 0 => []
  | n + 1 => if (g n).2.2 = true then gthL g n ++ [((g n).1, (g n).2.1)] else gthL g n
theorem gthL_succ (g : Nat → Int × Int × Bool) (n : Nat) : gthL g (n + 1) = if (g n).2.2 = true then gthL g n ++ [((g n).1, (g n).2.1)] else gthL g n := rfl
theorem gthL_len (g : Nat → Int × Int × Bool) (n : Nat) : (gthL g n).length ≤ n := by
  induction n with
  | zero => exact Nat.le_refl _
  | succ n ih =>
    rw [gthL_succ]; split
    · simp only [List.length_append, List.length_cons, List.length_nil]; omega
    · omega
theorem gthL_mem {g : Nat → Int × Int × Bool} {n : Nat} {e : Int × Int} : e ∈ gthL g n ↔ ∃ v, v < n ∧ (g v).2.2 = true ∧ e = ((g v).1, (g v).2.1) := by
  induction n with
  | zero => simp [gthL]
  | succ n ih =>
    have key : e ∈ gthL g (n + 1) ↔ e ∈ gthL g n ∨ ((g n).2.2 = true ∧ e = ((g n).1, (g n).2.1)) := by
      rw [gthL_succ]; split
      · rename_i h; rw [List.mem_append, List.mem_singleton]; exact or_congr Iff.rfl ⟨fun q => ⟨h, q⟩, fun q => q.2⟩
      · rename_i h; exact ⟨.inl, fun q => q.elim id fun q => absurd q.1 h⟩
    rw [key, ih]
    constructor
    · rintro (⟨v, h1, h2⟩ | h)
      · exact ⟨v, by omega, h2⟩
      · exact ⟨n, by omega, h⟩
    · rintro ⟨v, h1, h2⟩
      by_cases e : v = n
      · subst e; exact .inr h2
      · exact .inl ⟨v, by omega, h2⟩
/-- .. places by number, as far as f, of those that a test takes. -/
def rowsL (n : Nat) (f : Nat → Int) (q : Nat → Bool) : List (Int × Int) := gthL (fun v => ((v : Int), (if 0 ≤ f v then f v else 0), decide (0 ≤ f v) && q v)) n
theorem rowsL_len (n : Nat) (f : Nat → Int) (q : Nat → Bool) : (rowsL n f q).length ≤ n := gthL_len _ _
theorem rowsL_mem {n : Nat} {f : Nat → Int} {q : Nat → Bool} {e : Int × Int} : e ∈ rowsL n f q ↔ ∃ v : Nat, v < n ∧ 0 ≤ f v ∧ q v = true ∧ e = ((v : Int), f v) := by
  unfold rowsL
  rw [gthL_mem]
  refine exists_congr fun v => and_congr Iff.rfl ?_
  simp only [Bool.and_eq_true, decide_eq_true_iff]
  exact ⟨fun ⟨⟨h1, h2⟩, h3⟩ => ⟨h1, h2, by rw [h3, if_pos h1]⟩, fun ⟨h1, h2, h3⟩ => ⟨⟨h1, h2⟩, by rw [h3, if_pos h1]⟩⟩
theorem rowsL_succ (n : Nat) (f : Nat → Int) (q : Nat → Bool) : rowsL (n + 1) f q = if 0 ≤ f n ∧ q n = true then rowsL n f q ++ [((n : Int), f n)] else rowsL n f q := by
  unfold rowsL
  rw [gthL]
  by_cases h : 0 ≤ f n ∧ q n = true
  · rw [if_pos h, if_pos (by simp only [h.1, h.2, decide_true, Bool.and_self]), if_pos h.1]
  · rw [if_neg h, if_neg (by simp only [Bool.and_eq_true, decide_eq_true_iff]; exact h)]
theorem rowsL_pw (n : Nat) (f : Nat → Int) (q : Nat → Bool) : (rowsL n f q).Pairwise fun a b => a.1 < b.1 := by
  induction n with
  | zero => exact List.Pairwise.nil
  | succ n ih =>
    rw [rowsL_succ]
    split
    · rw [List.pairwise_append]
      refine ⟨ih, List.pairwise_singleton _ _, fun a ha b hb => ?_⟩
      obtain ⟨v, hv, _, _, rfl⟩ := rowsL_mem.1 ha
      rw [List.mem_singleton] at hb; subst hb
      simp only; omega
    · exact ih

/-- What is known of the tests. -/
structure MayCV (CV : CVT) : Prop where
  all : ∀ r K w, sh_space_all r (fun t w' => K (.bool t) w') w → CV (.func (.func fn_space_all) #[] #[]) [.int .i64 r] K w
structure SpaceCV (CV : CVT) : Prop where
  way : WayCV CV
  rows : ∃ CV1, MayCV CV1 ∧ ∀ v a b c K w, sh_space_rows_c1 CV1 v a b c (fun x y t w' => K (.tuple #[.agg #[.int .i64 x, .int .i64 y], .bool t]) w') w →
    CV (.func (.func fn_space_rows_c1) #[] #[.pointer (some a), .pointer (some b), .pointer (some c)]) [.int .i64 v] K w

section
variable {CV : CVT} {w : World} {p : Option Addr} {rank : List Int} {ways : List Wy} {F : Nat → Prop}

theorem gather_ok {n : Nat} {one : Value} {g : Nat → Int × Int × Bool} {K : SV → World → Prop} (hn : n < 2 ^ 40)
    (hone : ∀ i : Nat, i < n → ∀ w', Ext w w' → ∀ K' : Value → World → Prop, (∀ w'', Ext w' w'' → K' (.tuple #[.agg #[.int .i64 (g i).1, .int .i64 (g i).2.1], .bool (g i).2.2]) w'') → CV one [.int .i64 (i : Int)] K' w')
    (hk : ∀ s w', Ext w w' → Own RE w' s (gthL g n) → Fsh w s → K s w') : sh_space_gather_Reach CV (n : Int) one K w := by
  unfold sh_space_gather_Reach
  refine LoopT.gh (γ := Nat) (fun i (st : SV × Int × Unit) w' => st.2.1 = i ∧ i ≤ n ∧ Acc RE w w.heap.size w' st.1 (gthL g i)) (fun i => n - i) 0 ⟨rfl, Nat.zero_le _, Acc.nil (.refl _) (Nat.le_refl _) (Nat.le_refl _)⟩ ?_
  rintro i ⟨s, x, _⟩ w3 ⟨hx, hi, hA⟩ J1 hJ1
  simp only at hx hA; subst hx
  dsimp only
  have hgl := gthL_len g i
  rw [Bool.cond_decide]
  by_cases hc : (i : Int) < (n : Int)
  · rw [if_pos hc]
    refine hone i (by omega) w3 hA.e _ fun w8 e8 => ⟨_, _, _, rfl, ?_⟩
    intro b9 w10 e10 g9 g9' w11 o11
    have z8 := e8.size; have z10 := e10.size; have z11 := o11.size
    have hA1 := (hA.ext e8).off' e10 o11 g9
    by_cases hg : (g i).2.2 = true
    · rw [hg, cond_true]
      refine hA1.push (R := RE) (x := ((g i).1, (g i).2.1)) (by omega) (by omega) fun w13 s14 w15 e13 c15 _ hA2 => ?_
      have z13 := e13.size
      refine ⟨kp_chg c15 fun b hb => ?_, ?_⟩
      · simp only [List.mem_cons, List.not_mem_nil, or_false] at hb; subst hb
        exact ⟨by omega, fun hk => by have := hA.o.lt hk; omega⟩
      · refine hJ1 (i + 1) _ _ ⟨wsucc (m := 2 ^ 40) (by omega) (by omega), by omega, ?_⟩ (by omega)
        rw [gthL_succ, if_pos hg]; exact hA2
    · have hg' := hg
      rw [Bool.not_eq_true] at hg'
      rw [hg', cond_false]
      refine hJ1 (i + 1) _ _ ⟨wsucc (m := 2 ^ 40) (by omega) (by omega), by omega, ?_⟩ (by omega)
      rw [gthL_succ, if_neg hg]; exact hA1
  · rw [if_neg hc]
    have : i = n := by omega
    subst this
    exact hk s w3 hA.e hA.o hA.f

theorem rowsc_ok {CV1 : CVT} {bm bq bh r v : Nat} {may : Value} {f : Nat → Int} {q : Nat → Bool} {mm : List (List Int × Value)} {K : Int → Int → Bool → World → Prop} (hH : HierA w p rank ways F)
    (hb1 : Blk w bm [.map (some r)]) (hb2 : Blk w bq [may]) (hb3 : Blk w bh [.pointer p]) (hM : MapIs false 1 w r mm) (hmp : MpF rank.length f mm) (hv : v < rank.length)
    (hmay : ∀ w', Ext w w' → ∀ K' : Value → World → Prop, (∀ w'', Ext w' w'' → K' (.bool (q v)) w'') → CV1 may [.int .i64 (rkA rank (v : Int))] K' w')
    (hk : ∀ w', Ext w w' → K (v : Int) (if 0 ≤ f v then f v else 0) (decide (0 ≤ f v) && q v) w') : sh_space_rows_c1 CV1 (v : Int) ⟨bm, 0, none⟩ ⟨bq, 0, none⟩ ⟨bh, 0, none⟩ K w := by
  unfold sh_space_rows_c1
  intro b1 w2 e2 g1 g1'
  have z2 := e2.size
  refine ⟨some r, by rw [cell_blk (e2.blkE hb1)]; rfl, mm, hM.grow e2, ?_⟩
  rw [hmp.at hv]
  by_cases hf : 0 ≤ f v
  · rw [if_pos hf]
    refine ⟨f v, rfl, ?_⟩
    rw [Option.isSome_some, cond_true]
    refine ⟨may, by rw [cell_blk (e2.blkE hb2)]; rfl, p, by rw [cell_blk (e2.blkE hb3)]; rfl, ?_⟩
    refine Rank_quiet (hH.ext e2) ?_
    intro w14 e14
    have z14 := e14.size
    rw [show rankF rank (v : Int) = rkA rank (v : Int) by unfold rankF; rw [if_pos (by omega)]]
    refine hmay w14 (e2.trans e14) _ fun w15 e15 => ⟨q v, rfl, kp1 e15 (by omega), fun w16 e16 w17 o17 w18 e18 => ?_⟩
    have := hk w18 ((ext_off (((e2.trans e14).trans e15).trans e16) o17 g1).trans e18)
    rw [if_pos hf, decide_eq_true hf, Bool.true_and] at this
    exact this
  · rw [if_neg hf]
    refine ⟨0, rfl, ?_⟩
    rw [Option.isSome_none, cond_false]
    intro w19 e19 w20 o20 w21 e21
    have := hk w21 ((ext_off (e2.trans e19) o20 g1).trans e21)
    rw [if_neg hf, decide_eq_false hf, Bool.false_and] at this
    exact this

theorem rows_ok (hcv : ∃ CV1, MayCV CV1 ∧ ∀ v a b c K w, sh_space_rows_c1 CV1 v a b c (fun x y t w' => K (.tuple #[.agg #[.int .i64 x, .int .i64 y], .bool t]) w') w →
      CV (.func (.func fn_space_rows_c1) #[] #[.pointer (some a), .pointer (some b), .pointer (some c)]) [.int .i64 v] K w)
    {r : Nat} {may : Value} {f : Nat → Int} {q : Nat → Bool} {mm : List (List Int × Value)} {K : SV → World → Prop} (hH : HierA w p rank ways F) (hn : rank.length < 2 ^ 40) (hM : MapIs false 1 w r mm) (hmp : MpF rank.length f mm) (hbox : ∀ k : Prop, k → BoxV may k)
    (hmay : ∀ CV1, MayCV CV1 → ∀ v, v < rank.length → ∀ w', Ext w w' → ∀ K' : Value → World → Prop, (∀ w'', Ext w' w'' → K' (.bool (q v)) w'') → CV1 may [.int .i64 (rkA rank (v : Int))] K' w')
    (hk : ∀ s w', Ext w w' → Own RE w' s (rowsL rank.length f q) → Fsh w s → K s w') : sh_space_rows CV p (some r) may K w := by
  unfold sh_space_rows
  obtain ⟨CV1, hmv, hrows⟩ := hcv
  intro b1 w2 e2 g1 g1' b3 w4 e4 g3 g3'
  refine hbox _ ?_
  intro b5 w6 e6 g5 g5'
  have e06 := (e2.trans e4).trans e6
  refine HN_ok (hH.ext e06) ⟨fun _ _ => rfl, fun hb3 hb5 hb1 => ?_⟩
  refine gather_ok hn (g := fun v => ((v : Int), (if 0 ≤ f v then f v else 0), decide (0 ≤ f v) && q v)) (fun i hi w' e K' hK' => ?_) fun s w' e hO hF => hk s w' (e06.trans e) hO (hF.ext e06)
  refine hrows _ _ _ _ _ _ (rowsc_ok (hH.ext (e06.trans e)) (e.blkE hb3) (e.blkE hb5) (e.blkE hb1) (hM.grow (e06.trans e)) hmp hi (fun w'' e' K'' hK'' => hmay CV1 hmv i hi w'' ((e06.trans e).trans e') K'' hK'') fun w'' e' => hK' w'' e')

theorem climb_all (hcv : WayCV CV) {s top : Int} {back : Bool} {K : Option Nat → World → Prop} (hH : HierA w p rank ways F) (fit : FitH rank ways)
    (hk : ∀ r mm w', Ext w w' → MapIs false 1 w' r mm → w.heap.size ≤ r → MpF rank.length (clF rank ways top back s) mm → K (some r) w') : sh_space_climb CV p s top (upV back) K w := by
  by_cases hs : 0 ≤ s ∧ s < rank.length
  · obtain ⟨k, rfl⟩ := Int.eq_ofNat_of_zero_le hs.1
    exact climb_ok hcv hH fit (by omega) hk
  · exact climb_no hH hs fun r w' e hM g => hk r [] w' e hM g (MpF.nil.congr fun v _ => (clF_no hs v).symm)

theorem Side_ok (hcv : SpaceCV CV) {s : Int} {back : Bool} {K : SV → World → Prop} (hH : HierA w p rank ways F) (fit : FitH rank ways)
    (hk : ∀ s1 w', Ext w w' → Own RE w' s1 (rowsL rank.length (clF rank ways rank.length back s) fun _ => true) → Fsh w s1 → K s1 w') :
    sh_space_climb CV p s (rank.length : Int) (upV back) (fun m3 w4 => sh_space_rows CV p m3 (Value.func (.func fn_space_all) #[] #[]) (fun s5 w6 => K s5 w6) w4) w := by
  have hn := fit.n
  refine climb_all hcv.way hH fit fun r mm w7 e7 hM g7 hmp => ?_
  refine rows_ok hcv.rows (q := fun _ => true) (hH.ext e7) (by omega) hM hmp (fun _ h => h) (fun CV1 hmv v hv w' e K' hK' => ?_) fun s8 w9 e9 hO8 f8 => hk s8 w9 (e7.trans e9) hO8 (f8.ext e7)
  refine hmv.all _ _ _ ?_
  unfold sh_space_all
  exact hK' w' (.refl _)
theorem Forward_ok (hcv : SpaceCV CV) {s : Int} {K : SV → World → Prop} (hH : HierA w p rank ways F) (fit : FitH rank ways)
    (hk : ∀ s1 w', Ext w w' → Own RE w' s1 (rowsL rank.length (clF rank ways rank.length false s) fun _ => true) → Fsh w s1 → K s1 w') : sh_space_Forward CV p s K w := by
  unfold sh_space_Forward
  exact HN_ok hH (Side_ok (back := false) hcv hH fit hk)
theorem Back_ok (hcv : SpaceCV CV) {s : Int} {K : SV → World → Prop} (hH : HierA w p rank ways F) (fit : FitH rank ways)
    (hk : ∀ s1 w', Ext w w' → Own RE w' s1 (rowsL rank.length (clF rank ways rank.length true s) fun _ => true) → Fsh w s1 → K s1 w') : sh_space_Back CV p s K w := by
  unfold sh_space_Back
  exact HN_ok hH (Side_ok (back := true) hcv hH fit hk)

theorem re_idx {s : SV} {xs : List (Int × Int)} (h : View RE w s xs) {i : Nat} (hl : i < xs.length) {K : Addr → Prop}
    (hk : ∀ a, w.cell? (a.add 0) = some (.int .i64 xs[i].1) → w.cell? (a.add 1) = some (.int .i64 xs[i].2) → K a) : Idx s.a s.len (i : Int) 2 K := by
  refine View.idx (R := RE) h (by omega) (by simpa using hl) fun a _ hc => ?_
  simp only [Int.toNat_natCast] at hc
  exact hk a (hc 0 _ rfl) (hc 1 _ rfl)

/-- How far, by a list. -/
def findR (l : List (Int × Int)) (v : Int) : Int := match l.find? (fun e => e.1 == v) with | some e => e.2 | none => -1
theorem findR_take {l : List (Int × Int)} {v : Int} {i : Nat} (hi : i < l.length) (hno : ∀ j (hj : j < l.length), j < i → l[j].1 ≠ v) (h : l[i].1 = v) : findR l v = l[i].2 := by
  have : l.find? (fun e => e.1 == v) = some l[i] := by
    rw [List.find?_eq_some_iff_getElem]
    exact ⟨by simpa using h, i, hi, rfl, fun j hj => by simpa using hno j (by omega) hj⟩
  unfold findR; rw [this]
theorem findR_none {l : List (Int × Int)} {v : Int} (hno : ∀ j (hj : j < l.length), l[j].1 ≠ v) : findR l v = -1 := by
  have : l.find? (fun e => e.1 == v) = none := by
    rw [List.find?_eq_none]
    intro e he
    obtain ⟨j, hj, rfl⟩ := List.getElem_of_mem he
    simpa using hno j hj
  unfold findR; rw [this]
theorem Find_ok {s : SV} {xs : List (Int × Int)} {v : Int} {K : Int → World → Prop} (h : View RE w s xs) (hn : xs.length < 2 ^ 40) (hk : ∀ w', Ext w w' → K (findR xs v) w') : sh_space_Find s v K w := by
  unfold sh_space_Find
  have hl := h.len
  refine LoopT.gh (γ := Nat) (fun i (st : Int × Unit) w' => st.1 = i ∧ i ≤ xs.length ∧ Ext w w' ∧ ∀ j (hj : j < xs.length), j < i → xs[j].1 ≠ v) (fun i => xs.length - i) 0 ⟨rfl, Nat.zero_le _, .refl _, fun j hj h => by omega⟩ ?_
  rintro i ⟨x, _⟩ w3 ⟨hx, hi, e3, hno⟩ J1 hJ1
  simp only at hx; subst hx
  dsimp only
  rw [Bool.cond_decide]
  by_cases hc : (i : Int) < (s.len : Int)
  · rw [if_pos hc]
    have hi' : i < xs.length := by omega
    refine re_idx (h.ext e3) hi' fun _ a0 a1 => ⟨_, a0, _, a1, ?_⟩
    intro b7 w8 e8 g7 g7' w9 o9
    have e9 : Ext w w9 := ext_off (e3.trans e8) o9 (by have := e3.size; omega)
    by_cases hv : xs[i].1 = v
    · rw [show (xs[i].1 == v) = true by rw [beq_iff_eq]; exact hv, cond_true]
      have := hk w9 e9
      rw [findR_take hi' hno hv] at this; exact this
    · rw [show (xs[i].1 == v) = false by rw [beq_eq_false_iff_ne]; exact hv, cond_false]
      refine hJ1 (i + 1) _ _ ⟨wsucc (m := 2 ^ 40) (by omega) (by omega), by omega, e9, fun j hj hji => ?_⟩ (by omega)
      by_cases e : j = i
      · subst e; exact hv
      · exact hno j hj (by omega)
  · rw [if_neg hc]
    have := hk w3 e3
    rw [findR_none fun j hj => hno j hj (by omega)] at this; exact this
end
end Go.Sh

/- What is left of a map: laid, and read. -/
set_option maxRecDepth 100000
namespace Go.Sh
open Go.RowKit

/-- Left, in memory. -/
structure LeftV (w : World) (n : Nat) (sI sL sO : SV) (inn : Nat → Int) (L : List Wy) (lost : Nat → Int) : Prop where
  i : View RI w sI (fi n inn)
  l : View RW w sL L
  o : View RI w sO (fi n lost)
  k : L.length < 2 ^ 40
  n40 : n ≤ 4096
section
variable {w w' : World} {n : Nat} {sI sL sO : SV} {inn lost : Nat → Int} {L : List Wy}
theorem LeftV.ext (h : LeftV w n sI sL sO inn L lost) (e : Ext w w') : LeftV w' n sI sL sO inn L lost := ⟨h.i.ext e, h.l.ext e, h.o.ext e, h.k, h.n40⟩
theorem LeftV.chg {F : Nat → Prop} (h : LeftV w n sI sL sO inn L lost) (c : Chg F w w') (h1 : Dj sI.blk F) (h2 : Dj sL.blk F) (h3 : Dj sO.blk F) : LeftV w' n sI sL sO inn L lost := ⟨h.i.chg c h1, h.l.chg c h2, h.o.chg c h3, h.k, h.n40⟩

theorem New8_ok {s t : SV} {arcs : List Arc} {K : Int → SV → SV → SV → World → Prop} (h : View RD w s arcs) (ht : View RI w t (fi arcs.length (kI arcs))) (ok : OkMap (n : Int) arcs) (hn : n ≤ 4096)
    (hK : ∀ sI sL sO w' L, Ext w w' → LeftV w' n sI sL sO (fun _ => 1) L (fun _ => 0) → Fsh w sI → Fsh w sL → Fsh w sO → (∀ k, sI.blk k → k < w'.heap.size) → (∀ k, sL.blk k → k < w'.heap.size) → (∀ k, sO.blk k → k < w'.heap.size) →
      Uq L → (∀ y, y ∈ L ↔ ∃ k, k < arcs.length ∧ Kept arcs k ∧ y = wyK arcs k) → K n sI sL sO w') : sh_postroadref08_New n s t K w := by
  unfold sh_postroadref08_New
  intro b1 w2 e2 g1 g1' b3 w4 e4 g3 g3' b5 w6 e6 g5 g5' w7 o7
  have z2 := e2.size; have z4 := e4.size; have z6 := e6.size; have z7 := o7.size
  have hlen := ok.len
  have e7 : Ext w w7 := ext_off ((e2.trans e4).trans e6) o7 (by omega)
  have big : ∀ i, i ≤ n → i * arcs.length ≤ 4096 * 67108864 := fun i hi => Nat.mul_le_mul (by omega) hlen
  refine Join.cut (fun (x : (Int × SV × SV × SV × Unit) × Unit) w' => x.1.1 = n ∧ ∃ L, Acc RI w w7.heap.size w' x.1.2.1 (fi n fun _ => 1) ∧ Acc RW w w7.heap.size w' x.1.2.2.1 L ∧ Acc RI w w7.heap.size w' x.1.2.2.2.1 (fi n fun _ => 0) ∧ L.length ≤ n * arcs.length ∧ Uq L ∧ (∀ y, y ∈ L ↔ ∃ k, k < arcs.length ∧ Kept arcs k ∧ y = wyK arcs k)) (fun J hJ => ?_) ?_
  · refine LoopT.gh (γ := Nat × List Wy) (fun g (st : Int × (Int × SV × SV × SV × Unit) × Unit) w' => st.1 = g.1 ∧ g.1 ≤ n ∧ st.2.1.1 = n ∧ Acc RI w w7.heap.size w' st.2.1.2.1 (fi g.1 fun _ => 1) ∧ Acc RW w w7.heap.size w' st.2.1.2.2.1 g.2 ∧ Acc RI w w7.heap.size w' st.2.1.2.2.2.1 (fi g.1 fun _ => 0) ∧
        Dj st.2.1.2.1.blk st.2.1.2.2.1.blk ∧ Dj st.2.1.2.1.blk st.2.1.2.2.2.1.blk ∧ Dj st.2.1.2.2.1.blk st.2.1.2.2.2.1.blk ∧ g.2.length ≤ g.1 * arcs.length ∧ Uq g.2 ∧ (∀ y, y ∈ g.2 ↔ ∃ k, k < arcs.length ∧ Kept arcs k ∧ (arcA arcs k).1 < (g.1 : Int) ∧ y = wyK arcs k)) (fun g => n - g.1) (0, [])
      ⟨rfl, Nat.zero_le _, rfl, Acc.nil e7 e7.size (Nat.le_refl _), Acc.nil e7 e7.size (Nat.le_refl _), Acc.nil e7 e7.size (Nat.le_refl _), fun _ ⟨_, h, _⟩ => (by cases h), fun _ ⟨_, h, _⟩ => (by cases h), fun _ ⟨_, h, _⟩ => (by cases h), by simp, List.Pairwise.nil, fun y => ⟨fun h => (by cases h), fun ⟨k, hk, _, h, _⟩ => by have := (ok.fr hk).1; simp only at h; omega⟩⟩ ?_
    rintro ⟨u, L⟩ ⟨x, ⟨m, sI, sL, sO, _⟩, _⟩ w11 ⟨hx, hu, hm, hI, hL, hO, dIL, dIO, dLO, hLl, hq, hmem⟩ J1 hJ1
    simp only at hx hu hm hI hL hO dIL dIO dLO hLl hq hmem
    subst hx hm
    dsimp only
    rw [Bool.cond_decide]
    by_cases hc : (u : Int) < (n : Int)
    · rw [if_pos hc]
      have hu' : u < n := by omega
      have z11 := hI.z
      have bg := big u hu
      refine Join.cut (fun (x : (Int × SV × SV × SV × Unit) × Unit) w' => x.1.1 = n ∧ ∃ L', Acc RI w w7.heap.size w' x.1.2.1 (fi (u + 1) fun _ => 1) ∧ Acc RW w w7.heap.size w' x.1.2.2.1 L' ∧ Acc RI w w7.heap.size w' x.1.2.2.2.1 (fi (u + 1) fun _ => 0) ∧
        Dj x.1.2.1.blk x.1.2.2.1.blk ∧ Dj x.1.2.1.blk x.1.2.2.2.1.blk ∧ Dj x.1.2.2.1.blk x.1.2.2.2.1.blk ∧ L'.length ≤ (u + 1) * arcs.length ∧ Uq L' ∧ (∀ y, y ∈ L' ↔ ∃ k, k < arcs.length ∧ Kept arcs k ∧ (arcA arcs k).1 < ((u + 1 : Nat) : Int) ∧ y = wyK arcs k)) (fun J' hJ' => ?_) ?_
      · refine hI.push (R := RI) (x := 1) (by rw [fi_len]; omega) (by rw [fi_len]; omega) fun w14 s15 w16 e14 c16 hs15 hI1 => ?_
        have z14 := e14.size
        refine ⟨hI.kp e14 c16 (by (intro b hb; simp only [List.mem_cons, List.not_mem_nil, or_false] at hb; omega)), fun w17 o17 => ?_⟩
        have hL1 := hL.other e14 c16 dIL.symm hI1.e
        have hO1 := hO.other e14 c16 dIO.symm hI1.e
        have dIL1 := hL.dj dIL hs15
        have dIO1 := hO.dj dIO hs15
        have hI2 := hI1.off o17 (by omega) (by omega); have hL2 := hL1.off o17 (by omega) (by omega); have hO2 := hO1.off o17 (by omega) (by omega)
        have z17 := hI2.z
        refine hO2.push (R := RI) (x := 0) (by rw [fi_len]; omega) (by rw [fi_len]; omega) fun w19 s20 w21 e19 c21 hs20 hO3 => ?_
        have z19 := e19.size
        refine ⟨hO2.kp e19 c21 (by (intro b hb; simp only [List.mem_cons, List.not_mem_nil, or_false] at hb; omega)), fun w22 o22 => ?_⟩
        have hI3 := hI2.other e19 c21 dIO1 hO3.e
        have hL3 := hL2.other e19 c21 dLO hO3.e
        have dIO3 := (hI2.dj dIO1.symm hs20).symm
        have dLO3 := (hL2.dj dLO.symm hs20).symm
        have hI4 := hI3.off o22 (by omega) (by omega); have hL4 := hL3.off o22 (by omega) (by omega); have hO4 := hO3.off o22 (by omega) (by omega)
        have z22 := hI4.z
        refine mOut_ok (h.ext hI4.e) (ht.ext hI4.e) ok fun s23 w24 xs e24 hX fX hr hxl hxm => ?_
        refine ⟨kp_ext e24 (by (intro b hb; simp only [List.mem_cons, List.not_mem_nil, or_false] at hb; omega)), ?_⟩
        have z24 := e24.size
        have dX : ∀ s : SV, (∀ k, s.blk k → k < w22.heap.size) → Dj s23.blk s.blk := fun s hs k h1 h2 => by have := fX k h1; have := hs k h2; omega
        have dXL := dX sL fun k hk => hL4.o.lt hk
        have hX5 : View RD w24 s23 xs := hX.view
        have hI5 := hI4.ext e24; have hL5 := hL4.ext e24; have hO5 := hO4.ext e24
        have ltX : ∀ k, s23.blk k → k < w24.heap.size := fun k hk => hX.lt hk
        have hx23 := hX5.len
        rw [← fi_succ] at hI5
        rw [← fi_succ] at hO5
        clear hX hI1 hI2 hI3 hI4 hL1 hL2 hL3 hL4 hO1 hO2 hO3 hO4
        refine LoopT.gh (γ := Nat × List Wy) (fun g (st : Int × (Int × SV × SV × SV × Unit) × Unit) w' => st.1 = g.1 ∧ g.1 ≤ xs.length ∧ st.2.1.1 = n ∧ st.2.1.2.1 = s15 ∧ st.2.1.2.2.2.1 = s20 ∧ Acc RI w w7.heap.size w' s15 (fi (u + 1) fun _ => 1) ∧ Acc RW w w7.heap.size w' st.2.1.2.2.1 g.2 ∧ Acc RI w w7.heap.size w' s20 (fi (u + 1) fun _ => 0) ∧
            Dj s15.blk st.2.1.2.2.1.blk ∧ Dj st.2.1.2.2.1.blk s20.blk ∧ Dj s23.blk st.2.1.2.2.1.blk ∧ View RD w' s23 xs ∧ w24.heap.size ≤ w'.heap.size ∧ g.2 = L ++ (xs.take g.1).map fun e => ((u : Int), e.1, e.2.1, (-1 : Int), e.2.2)) (fun g => xs.length - g.1) (0, L)
          ⟨rfl, Nat.zero_le _, rfl, rfl, rfl, hI5, hL5, hO5, dIL1, dLO3, dXL, hX5, Nat.le_refl _, by simp⟩ ?_
        rintro ⟨j, L'⟩ ⟨x, ⟨m', sI', sL', sO', _⟩, _⟩ w27 ⟨hx', hj, hm', e1, e2', hI6, hL6, hO6, d1, d2, d3, hX6, z27, hL'⟩ J2 hJ2
        simp only at hx' hj hm' e1 e2' hI6 hL6 hO6 d1 d2 d3 hX6 z27 hL'
        subst hx' hm' e1 e2'
        dsimp only
        rw [Bool.cond_decide]
        by_cases hcj : (j : Int) < (s23.len : Int)
        · rw [if_pos hcj]
          have hj' : j < xs.length := by omega
          refine do_idx hX6 hj' fun _ a0 _ _ => ⟨_, a0, ?_⟩
          refine do_idx hX6 hj' fun _ _ a1 _ => ⟨_, a1, ?_⟩
          refine do_idx hX6 hj' fun _ _ _ a2 => ⟨_, a2, ?_⟩
          intro w34 e34
          have hL7 := hL6.ext e34
          have hLen : L'.length = L.length + j := by rw [hL']; simp; omega
          refine hL7.push' (R := RW) (x := ((u : Int), xs[j].1, xs[j].2.1, -1, xs[j].2.2)) (by omega) (by omega) fun w37 s38 w39 e37 c39 hs38 hL8 => ?_
          have z34 := e34.size; have z37 := e37.size
          refine ⟨hL7.kp e37 c39 (by (intro b hb; simp only [List.mem_cons, List.not_mem_nil, or_false] at hb; omega)), fun w40 e40 w41 o41 w42 e42 => ?_⟩
          have hI8 := (hI6.ext e34).other e37 c39 d1 hL8.e
          have hO8 := (hO6.ext e34).other e37 c39 d2.symm hL8.e
          have hX8 := (hX6.ext (e34.trans e37)).chg c39 d3
          have z39 := hL8.z
          have c42 : ∀ {β : Type} {S : Rc β} {q : SV} {ys : List β}, Acc S w w7.heap.size w39 q ys → Acc S w w7.heap.size w42 q ys := fun hh => ((hh.ext e40).off o41 (by omega) (by omega)).ext e42
          have n5 : ¬ s23.blk b5 := fun hk => by have := fX _ hk; omega
          have z40 := e40.size; have z41 := o41.size; have z42 := e42.size
          have z39' := c39.size
          refine hJ2 (j + 1, L' ++ [((u : Int), xs[j].1, xs[j].2.1, -1, xs[j].2.2)]) _ _ ⟨wsucc (m := 2 ^ 40) (by omega) (by omega), by simp only; omega, rfl, rfl, rfl, c42 hI8, c42 hL8, c42 hO8, ?_, ?_, ?_, ((hX8.ext e40).chg (.of_off (F := fun k => k = b5) o41 rfl) fun k hk e => n5 (e ▸ hk)).ext e42, by omega, ?_⟩ (by simp only; omega)
          · exact (((hI6.ext e34).dj d1.symm hs38)).symm
          · exact (hO6.ext e34).dj d2 hs38
          · intro k hk1 hk2
            rcases hs38 k hk2 with q | q
            · exact d3 k hk1 q
            · have := ltX k hk1; omega
          · rw [take_snoc' hj', List.map_append, ← List.append_assoc, ← hL']; rfl
        · rw [if_neg hcj]
          have : j = xs.length := by omega
          subst this
          rw [List.take_length] at hL'
          have hmm : ∀ y, y ∈ L' ↔ y ∈ L ∨ ∃ k, k < arcs.length ∧ Kept arcs k ∧ (arcA arcs k).1 = (u : Int) ∧ y = wyK arcs k := fun y => by
            rw [hL', List.mem_append, List.mem_map]
            refine or_congr Iff.rfl ⟨fun ⟨e, he, hy⟩ => ?_, fun ⟨k, k1, k2, k3, hy⟩ => ?_⟩
            · obtain ⟨k, k1, k2, k3, rfl⟩ := (hxm e).1 he
              exact ⟨k, k1, k2, k3, by rw [← hy]; unfold edA wyK; rw [k3]⟩
            · exact ⟨edA arcs k, (hxm _).2 ⟨k, k1, k2, k3, rfl⟩, by rw [hy]; unfold edA wyK; rw [k3]⟩
          refine hJ' _ _ ⟨rfl, L', hI6, hL6, hO6, d1, dIO3, d2, ?_, ?_, fun y => ?_⟩
          · rw [hL', List.length_append, List.length_map, Nat.succ_mul]; omega
          · rw [hL']
            refine Uq.append hq ?_ fun a ha b hb => ?_
            · unfold Uq
              rw [List.pairwise_map]
              exact hr.imp fun {a b} h q => by have : a.1 = b.1 := q.2; omega
            · obtain ⟨k, k1, k2, k3, rfl⟩ := (hmem a).1 ha
              obtain ⟨e, _, rfl⟩ := List.mem_map.1 hb
              intro q
              have := q.1
              simp only [yF, wyK] at this
              omega
          · rw [hmm, hmem]
            constructor
            · rintro (⟨k, k1, k2, k3, k4⟩ | ⟨k, k1, k2, k3, k4⟩)
              · exact ⟨k, k1, k2, by omega, k4⟩
              · exact ⟨k, k1, k2, by omega, k4⟩
            · rintro ⟨k, k1, k2, k3, k4⟩
              by_cases e : (arcA arcs k).1 = (u : Int)
              · exact .inr ⟨k, k1, k2, e, k4⟩
              · exact .inl ⟨k, k1, k2, by omega, k4⟩
      · rintro ⟨⟨m', sI', sL', sO', _⟩, _⟩ w44 ⟨hm', L', q1, q2, q3, q4, q5, q6, q7, q8, q9⟩
        simp only at hm' q1 q2 q3 q4 q5 q6
        subst hm'
        exact hJ1 (u + 1, L') _ _ ⟨wsucc (m := 2 ^ 40) (by omega) (by omega), by simp only; omega, rfl, q1, q2, q3, q4, q5, q6, q7, q8, q9⟩ (by simp only; omega)
    · rw [if_neg hc]
      have : u = n := by omega
      subst this
      refine hJ _ _ ⟨rfl, L, hI, hL, hO, hLl, hq, fun y => ?_⟩
      rw [hmem]
      exact ⟨fun ⟨k, k1, k2, _, k4⟩ => ⟨k, k1, k2, k4⟩, fun ⟨k, k1, k2, k4⟩ => ⟨k, k1, k2, by have := ok.fr k1; omega, k4⟩⟩
  · rintro ⟨⟨m, sI, sL, sO, _⟩, _⟩ w46 ⟨hm, L, hI, hL, hO, hLl, hq, hmem⟩ w47 o47
    simp only at hm hI hL hO
    subst hm
    have hI := hI.off o47 (by omega) (by omega); have hL := hL.off o47 (by omega) (by omega); have hO := hO.off o47 (by omega) (by omega)
    have bg := big n (Nat.le_refl _)
    exact hK sI sL sO w47 L hI.e ⟨hI.o.view, hL.o.view, hO.o.view, by omega, hn⟩ (fun k hk => by have := hI.f k hk; omega) (fun k hk => by have := hL.f k hk; omega) (fun k hk => by have := hO.f k hk; omega) (fun k hk => hI.o.lt hk) (fun k hk => hL.o.lt hk) (fun k hk => hO.o.lt hk) hq hmem

theorem Places_ok {K : SV → World → Prop} (h : LeftV w n sI sL sO inn L lost)
    (hK : ∀ s w' ps, Ext w w' → Own RI w' s ps → Fsh w s → ps.length ≤ n → (∀ x, x ∈ ps ↔ ∃ v : Nat, v < n ∧ inn v = 1 ∧ x = (v : Int)) → K s w') : sh_postroadref08_Places n sI sL sO K w := by
  unfold sh_postroadref08_Places
  intro b1 w2 e2 g1 g1'
  have z2 := e2.size
  have hn := h.n40
  refine LoopT.gh (γ := Nat × List Int) (fun g (st : SV × Int × Unit) w' => st.2.1 = g.1 ∧ g.1 ≤ n ∧ Acc RI w w2.heap.size w' st.1 g.2 ∧ g.2.length ≤ g.1 ∧ ∀ x, x ∈ g.2 ↔ ∃ v : Nat, v < g.1 ∧ inn v = 1 ∧ x = (v : Int)) (fun g => n - g.1) (0, [])
    ⟨rfl, Nat.zero_le _, Acc.nil e2 z2 (Nat.le_refl _), Nat.le_refl _, fun e => by simp⟩ ?_
  rintro ⟨i, xs⟩ ⟨u, x, _⟩ w5 ⟨hx, hi, hA, hxl, hm⟩ J1 hJ1
  simp only at hx hi hA hxl hm
  subst hx
  dsimp only
  have z5 := hA.z
  rw [Bool.cond_decide]
  by_cases hc : (i : Int) < (n : Int)
  · rw [if_pos hc]
    have hi' : i < n := by omega
    refine Join.cut (fun (y : SV × Unit) w' => ∃ xs', Acc RI w w2.heap.size w' y.1 xs' ∧ xs'.length ≤ i + 1 ∧ ∀ e, e ∈ xs' ↔ e ∈ xs ∨ (inn i = 1 ∧ e = (i : Int))) (fun J hJ => ?_) ?_
    · refine fi_rd (h.i.ext hA.e) hi' fun a ha => ⟨_, ha, ?_⟩
      by_cases hk : inn i = 1
      · rw [show (inn i == 1) = true by rw [hk]; rfl, cond_true]
        refine hA.push (R := RI) (x := (i : Int)) (by omega) (by omega) fun w10 s11 w12 e10 c12 _ hA1 => ?_
        have z10 := e10.size
        refine ⟨hA.kp e10 c12 (by (intro b hb; simp only [List.mem_cons, List.not_mem_nil, or_false] at hb; omega)), hJ _ _ ⟨_, hA1, by simp; omega, fun e => ?_⟩⟩
        rw [List.mem_append, List.mem_singleton]
        exact or_congr Iff.rfl ⟨fun q => ⟨hk, q⟩, fun q => q.2⟩
      · rw [show (inn i == 1) = false by rw [beq_eq_false_iff_ne]; exact hk, cond_false]
        exact hJ _ _ ⟨xs, hA, by omega, fun e => ⟨.inl, fun q => q.elim id fun q => absurd q.1 hk⟩⟩
    · rintro ⟨u', _⟩ w20 ⟨xs', hA', hl', hm'⟩
      refine hJ1 (i + 1, xs') _ _ ⟨wsucc (m := 2 ^ 40) (by omega) (by omega), by simp only; omega, hA', hl', fun e => ?_⟩ (by simp only; omega)
      rw [hm', hm]
      constructor
      · rintro (⟨k, h1, h2, h3⟩ | ⟨h2, h3⟩)
        · exact ⟨k, by simp only; omega, h2, h3⟩
        · exact ⟨i, by simp only; omega, h2, h3⟩
      · rintro ⟨k, h1, h2, h3⟩
        simp only at h1
        by_cases e1 : k = i
        · subst e1; exact .inr ⟨h2, h3⟩
        · exact .inl ⟨k, by omega, h2, h3⟩
  · rw [if_neg hc]
    have : i = n := by omega
    subst this
    exact hK u w5 xs hA.e hA.o (fun k hk => by have := hA.f k hk; omega) hxl hm

def isF (n : Nat) (inn : Nat → Int) (v : Int) : Bool := decide (0 ≤ v ∧ v < n ∧ inn v.toNat = 1)
theorem is_ok {v : Int} {K : Bool → World → Prop} (h : LeftV w n sI sL sO inn L lost) (hK : ∀ w', Ext w w' → K (isF n inn v) w') : sh_postroadref08_is n sI sL sO v K w := by
  unfold sh_postroadref08_is
  intro b1 w2 e2 g1 g1'
  have := hK w2 e2
  unfold isF at this
  rw [Bool.cond_decide]
  by_cases h0 : v ≥ 0
  · rw [if_pos h0, Bool.cond_decide]
    by_cases h1 : v < n
    · rw [if_pos h1]
      obtain ⟨k, rfl⟩ := Int.eq_ofNat_of_zero_le h0
      refine fi_rd (h.i.ext e2) (show k < n by omega) fun a ha => ⟨_, ha, ?_⟩
      rw [show (inn k == 1) = decide (0 ≤ (k : Int) ∧ (k : Int) < n ∧ inn (k : Int).toNat = 1) by
        rw [Int.toNat_natCast, Bool.eq_iff_iff, beq_iff_eq, decide_eq_true_iff]; exact ⟨fun q => ⟨h0, h1, q⟩, fun q => q.2.2⟩]
      exact this
    · rw [if_neg h1]
      rw [decide_eq_false (fun q => h1 q.2.1)] at this; exact this
  · rw [if_neg h0]
    rw [decide_eq_false (fun q => h0 q.1)] at this; exact this

/-- The way from u to v, and whether there is one. -/
def wayF (L : List Wy) (u v : Int) : Int × Int × Int × Bool := match findW L u v with | some k => (yW (wyA L k), yM (wyA L k), yA (wyA L k), true) | none => (0, 0, 0, false)
theorem Way_ok {u v : Int} {K : Int → Int → Int → Bool → World → Prop} (h : LeftV w n sI sL sO inn L lost)
    (hK : ∀ w', Ext w w' → K (wayF L u v).1 (wayF L u v).2.1 (wayF L u v).2.2.1 (wayF L u v).2.2.2 w') : sh_postroadref08_Way n sI sL sO u v K w := by
  unfold sh_postroadref08_Way
  intro b1 w2 e2 g1 g1' b3 w4 e4 g3 g3'
  have z2 := e2.size; have z4 := e4.size
  have hl := h.l.len; have hk40 := h.k
  refine Join.cut (fun _ w' => Ext w w' ∧ findW L u v = none) (fun J hJ => ?_) ?_
  · refine LoopT.gh (γ := Nat) (fun i (st : Int × (Int × Int × Int × Unit) × Unit) w' => st.1 = i ∧ i ≤ L.length ∧ Ext w w' ∧ findW (L.take i) u v = none) (fun i => L.length - i) 0 ⟨rfl, Nat.zero_le _, e2.trans e4, rfl⟩ ?_
    rintro i ⟨x, ⟨x1, x2, x3, _⟩, _⟩ w5 ⟨hx, hi, e5, hno⟩ J1 hJ1
    simp only at hx; subst hx
    dsimp only
    rw [Bool.cond_decide]
    by_cases hc : (i : Int) < (sL.len : Int)
    · rw [if_pos hc]
      have hi' : i < L.length := by omega
      have hst := findW_snoc (L.take i) L[i] u v
      rw [← take_snoc' hi', hno] at hst
      simp only at hst
      refine Join.cut (fun _ w' => w' = w5 ∧ ¬ (yF L[i] = u ∧ yT L[i] = v)) (fun J' hJ' => ?_) ?_
      · refine way_idx (h.l.ext e5) hi' fun _ _ a0 _ _ _ _ => ⟨_, a0, ?_⟩
        by_cases h1 : yF L[i] = u
        · rw [show (yF L[i] == u) = true by simpa using h1, cond_true]
          refine way_idx (h.l.ext e5) hi' fun _ _ _ a1 _ _ _ => ⟨_, a1, ?_⟩
          by_cases h2 : yT L[i] = v
          · rw [show (yT L[i] == v) = true by simpa using h2, cond_true]
            have hf : findW L u v = some i := by
              have h3 : L = L.take (i + 1) ++ L.drop (i + 1) := (List.take_append_drop _ _).symm
              rw [if_pos ⟨h1, h2⟩, List.length_take, Nat.min_eq_left hi] at hst
              rw [h3]
              unfold findW at hst ⊢
              rw [List.findIdx?_append, hst]; rfl
            refine way_idx (h.l.ext e5) hi' fun a ha _ _ a2 a3 a4 => ⟨yW L[i], ?_, yM L[i], ?_, yA L[i], ?_, fun w18 o18 => ?_⟩
            · obtain ⟨b, o, sp⟩ := a
              simp only at ha; subst ha
              rw [addm] at a2 ⊢; rw [addm]; exact a2
            · obtain ⟨b, o, sp⟩ := a
              simp only at ha; subst ha
              rw [addm] at a3 ⊢; rw [addm, Nat.add_assoc]; exact a3
            · obtain ⟨b, o, sp⟩ := a
              simp only at ha; subst ha
              rw [addm] at a4 ⊢; rw [addm, Nat.add_assoc]; exact a4
            · have := hK w18 (ext_off e5 o18 (by omega))
              unfold wayF at this
              rw [hf] at this
              simp only [← wyA_get hi'] at this
              exact this
          · rw [show (yT L[i] == v) = false by simpa using h2, cond_false]
            exact hJ' _ _ ⟨rfl, fun hh => h2 hh.2⟩
        · rw [show (yF L[i] == u) = false by simpa using h1, cond_false]
          exact hJ' _ _ ⟨rfl, fun hh => h1 hh.1⟩
      · rintro _ w12 ⟨rfl, hne⟩
        rw [if_neg hne] at hst
        exact hJ1 (i + 1) _ _ ⟨wsucc (m := 2 ^ 40) (by omega) (by omega), by omega, e5, hst⟩ (by omega)
    · rw [if_neg hc]
      have : i = L.length := by omega
      subst this
      rw [List.take_length] at hno
      exact hJ _ _ ⟨e5, hno⟩
  · rintro _ w22 ⟨e22, hno⟩ w23 o23
    have := hK w23 (ext_off e22 o23 (by omega))
    unfold wayF at this
    rw [hno] at this; exact this
theorem Way_quiet {u v : Int} {K : Int × Int × Int × Bool → Prop} (h : LeftV w n sI sL sO inn L lost) (hk : K (wayF L u v)) :
    Quiet (Int × Int × Int × Bool) (fun r => (.tuple #[(.agg #[(.int .i64 r.1), (.int .i64 r.2.1), (.int .i64 r.2.2.1)]), (.bool r.2.2.2)])) (fun K18 w19' => sh_postroadref08_Way n sI sL sO u v (fun x13 x14 x15 t16 w19 => K18 (x13, x14, x15, t16) w19) w19') w K :=
  Quiet.mk _ (fun w' e _ hK' => Way_ok (h.ext e) fun w'' e'' => hK' w'' e'') hk

def hasF (L : List Wy) (u v : Nat) : Bool := (findW L (u : Int) (v : Int)).isSome
theorem wayF_has (L : List Wy) (u v : Nat) : (wayF L (u : Int) (v : Int)).2.2.2 = hasF L u v := by unfold wayF hasF; split <;> simp_all
/-- The places that a test takes. -/
def selL (p : Nat → Bool) (i : Nat) : List Int := ((List.range i).filter p).map fun (u : Nat) => (u : Int)
theorem selL_succ (p : Nat → Bool) (i : Nat) : selL p (i + 1) = if p i = true then selL p i ++ [(i : Int)] else selL p i := by
  unfold selL
  rw [List.range_succ, List.filter_append, List.map_append]
  by_cases h : p i = true
  · rw [if_pos h, List.filter_cons_of_pos h]; rfl
  · rw [if_neg h, List.filter_cons_of_neg h]; simp
theorem selL_len (p : Nat → Bool) (i : Nat) : (selL p i).length ≤ i := by
  unfold selL; rw [List.length_map]; have := List.length_filter_le p (List.range i); simpa using this
theorem mem_selL {p : Nat → Bool} {i : Nat} {x : Int} : x ∈ selL p i ↔ ∃ u : Nat, u < i ∧ p u = true ∧ x = (u : Int) := by
  unfold selL
  rw [List.mem_map]
  exact ⟨fun ⟨u, h1, h2⟩ => ⟨u, by simpa using (List.mem_filter.1 h1).1, (List.mem_filter.1 h1).2, h2.symm⟩, fun ⟨u, h1, h2, h3⟩ => ⟨u, List.mem_filter.2 ⟨by simpa using h1, h2⟩, h3.symm⟩⟩

theorem Ins_ok {v : Nat} {K : SV → World → Prop} (h : LeftV w n sI sL sO inn L lost)
    (hK : ∀ s w', Ext w w' → Own RI w' s (selL (fun u => hasF L u v) n) → Fsh w s → K s w') : sh_postroadref08_Ins n sI sL sO v K w := by
  unfold sh_postroadref08_Ins
  intro b1 w2 e2 g1 g1'
  have z2 := e2.size
  have hn := h.n40
  refine LoopT.gh (γ := Nat) (fun i (st : SV × Int × Unit) w' => st.2.1 = i ∧ i ≤ n ∧ Acc RI w w2.heap.size w' st.1 (selL (fun u => hasF L u v) i)) (fun i => n - i) 0 ⟨rfl, Nat.zero_le _, Acc.nil e2 z2 (Nat.le_refl _)⟩ ?_
  rintro i ⟨u, x, _⟩ w5 ⟨hx, hi, hA⟩ J1 hJ1
  simp only at hx hi hA
  subst hx
  dsimp only
  have z5 := hA.z
  have hsl := selL_len (fun u => hasF L u v) i
  rw [Bool.cond_decide]
  by_cases hc : (i : Int) < (n : Int)
  · rw [if_pos hc]
    have hi' : i < n := by omega
    refine Join.cut (fun (y : SV × Unit) w' => Acc RI w w2.heap.size w' y.1 (selL (fun u => hasF L u v) (i + 1))) (fun J hJ => ?_) ?_
    · refine Way_ok (h.ext hA.e) fun w11 e11 => ?_
      have z11 := e11.size
      refine ⟨kp_ext e11 (by (intro b hb; simp only [List.mem_cons, List.not_mem_nil, or_false] at hb; omega)), ?_⟩
      intro b12 w13 e13 g12 g12' w14 o14
      have z13 := e13.size; have z14 := o14.size
      have hA1 := hA.off' (e11.trans e13) o14 (by omega)
      rw [wayF_has]
      rw [selL_succ] at hJ
      by_cases hh : hasF L i v = true
      · rw [if_pos hh] at hJ
        rw [hh, cond_true]
        refine hA1.push (R := RI) (x := (i : Int)) (by omega) (by omega) fun w16 s17 w18 e16 c18 _ hA2 => ?_
        have z16 := e16.size
        refine ⟨kp_chg c18 fun b hb => ?_, hJ _ _ hA2⟩
        simp only [List.mem_cons, List.not_mem_nil, or_false] at hb
        exact ⟨by omega, fun hk => by have := hA.f _ hk; have := hA.o.lt hk; omega⟩
      · rw [if_neg hh] at hJ
        rw [Bool.not_eq_true] at hh
        rw [hh, cond_false]
        exact hJ _ _ hA1
    · rintro ⟨u', _⟩ w20 hA'
      exact hJ1 (i + 1) _ _ ⟨wsucc (m := 2 ^ 40) (by omega) (by omega), by omega, hA'⟩ (by omega)
  · rw [if_neg hc]
    have : i = n := by omega
    subst this
    exact hK u w5 hA.e hA.o (fun k hk => by have := hA.f k hk; omega)

theorem Outs_ok {v : Nat} {K : SV → World → Prop} (h : LeftV w n sI sL sO inn L lost)
    (hK : ∀ s w', Ext w w' → Own RI w' s (selL (fun u => hasF L v u) n) → Fsh w s → K s w') : sh_postroadref08_Outs n sI sL sO v K w := by
  unfold sh_postroadref08_Outs
  intro b1 w2 e2 g1 g1'
  have z2 := e2.size
  have hn := h.n40
  refine LoopT.gh (γ := Nat) (fun i (st : SV × Int × Unit) w' => st.2.1 = i ∧ i ≤ n ∧ Acc RI w w2.heap.size w' st.1 (selL (fun u => hasF L v u) i)) (fun i => n - i) 0 ⟨rfl, Nat.zero_le _, Acc.nil e2 z2 (Nat.le_refl _)⟩ ?_
  rintro i ⟨u, x, _⟩ w5 ⟨hx, hi, hA⟩ J1 hJ1
  simp only at hx hi hA
  subst hx
  dsimp only
  have z5 := hA.z
  have hsl := selL_len (fun u => hasF L v u) i
  rw [Bool.cond_decide]
  by_cases hc : (i : Int) < (n : Int)
  · rw [if_pos hc]
    have hi' : i < n := by omega
    refine Join.cut (fun (y : SV × Unit) w' => Acc RI w w2.heap.size w' y.1 (selL (fun u => hasF L v u) (i + 1))) (fun J hJ => ?_) ?_
    · refine Way_ok (h.ext hA.e) fun w11 e11 => ?_
      have z11 := e11.size
      refine ⟨kp_ext e11 (by (intro b hb; simp only [List.mem_cons, List.not_mem_nil, or_false] at hb; omega)), ?_⟩
      intro b12 w13 e13 g12 g12' w14 o14
      have z13 := e13.size; have z14 := o14.size
      have hA1 := hA.off' (e11.trans e13) o14 (by omega)
      rw [wayF_has]
      rw [selL_succ] at hJ
      by_cases hh : hasF L v i = true
      · rw [if_pos hh] at hJ
        rw [hh, cond_true]
        refine hA1.push (R := RI) (x := (i : Int)) (by omega) (by omega) fun w16 s17 w18 e16 c18 _ hA2 => ?_
        have z16 := e16.size
        refine ⟨kp_chg c18 fun b hb => ?_, hJ _ _ hA2⟩
        simp only [List.mem_cons, List.not_mem_nil, or_false] at hb
        exact ⟨by omega, fun hk => by have := hA.f _ hk; have := hA.o.lt hk; omega⟩
      · rw [if_neg hh] at hJ
        rw [Bool.not_eq_true] at hh
        rw [hh, cond_false]
        exact hJ _ _ hA1
    · rintro ⟨u', _⟩ w20 hA'
      exact hJ1 (i + 1) _ _ ⟨wsucc (m := 2 ^ 40) (by omega) (by omega), by omega, hA'⟩ (by omega)
  · rw [if_neg hc]
    have : i = n := by omega
    subst this
    exact hK u w5 hA.e hA.o (fun k hk => by have := hA.f k hk; omega)
end
end Go.Sh

/- Which place is taken next. -/
set_option maxRecDepth 100000
namespace Go.Sh
open Go.RowKit

/-- How many differ, as the code counts. -/
def cntI (x : Int) (ys : List Int) (c : Int) : Int := ys.foldl (fun c y => if x ≠ y then IntKind.i64.wrap (c + 1) else c) c
def cntP (xs ys : List Int) : Int := xs.foldl (fun c x => cntI x ys c) 0
def insF (L : List Wy) (n v : Nat) : List Int := selL (fun u => hasF L u v) n
def outsF (L : List Wy) (n v : Nat) : List Int := selL (fun u => hasF L v u) n
def costF (n : Nat) (inn : Nat → Int) (L : List Wy) (lost : Nat → Int) (v : Int) : Int :=
  if isF n inn v = true then IntKind.i64.wrap (IntKind.i64.wrap (IntKind.i64.wrap (cntP (insF L n v.toNat) (outsF L n v.toNat) - (insF L n v.toNat).length) - (outsF L n v.toNat).length) + lost v.toNat) else 0
section
variable {w w' : World} {n : Nat} {sI sL sO : SV} {inn lost : Nat → Int} {L : List Wy}
theorem isF_true {v : Int} (h : isF n inn v = true) : ∃ k : Nat, v = (k : Int) ∧ k < n ∧ inn k = 1 := by
  unfold isF at h
  rw [decide_eq_true_iff] at h
  exact ⟨v.toNat, by omega, by omega, h.2.2⟩
theorem isF_of {k : Nat} (h : k < n) (hi : inn k = 1) : isF n inn (k : Int) = true := by
  unfold isF
  rw [decide_eq_true_iff]
  exact ⟨by omega, by omega, by rw [Int.toNat_natCast]; exact hi⟩

theorem Cost_ok {v : Int} {K : Int → World → Prop} (h : LeftV w n sI sL sO inn L lost) (hK : ∀ w', Ext w w' → K (costF n inn L lost v) w') : sh_postroadref08_Cost n sI sL sO v K w := by
  unfold sh_postroadref08_Cost
  intro b1 w2 e2 g1 g1'
  have z2 := e2.size
  have hn := h.n40
  refine is_ok (h.ext e2) fun w4 e4 => ⟨kp_ext e4 (by (intro b hb; simp only [List.mem_cons, List.not_mem_nil, or_false] at hb; omega)), ?_⟩
  have z4 := e4.size
  by_cases hi : isF n inn v = true
  · rw [hi, Bool.not_true, cond_false]
    obtain ⟨k, rfl, hk, _⟩ := isF_true hi
    refine Ins_ok (h.ext (e2.trans e4)) fun s5 w6 e6 o5 f5 => ⟨kp_ext e6 (by (intro b hb; simp only [List.mem_cons, List.not_mem_nil, or_false] at hb; omega)), ?_⟩
    have z6 := e6.size
    refine Outs_ok (h.ext ((e2.trans e4).trans e6)) fun s7 w8 e8 o7 f7 => ⟨kp_ext e8 (by (intro b hb; simp only [List.mem_cons, List.not_mem_nil, or_false] at hb; omega)), ?_⟩
    have v5 := (o5.ext e8).view
    have v7 := o7.view
    have l5 := v5.len; have l7 := v7.len
    have e8' := ((e2.trans e4).trans e6).trans e8
    have hc := fun w' e => hK w' e
    unfold costF at hc
    rw [if_pos hi, Int.toNat_natCast] at hc
    unfold insF outsF at hc
    have b5 := selL_len (fun u => hasF L u k) n
    have b7 := selL_len (fun u => hasF L k u) n
    generalize selL (fun u => hasF L u k) n = xs at v5 l5 hc b5
    generalize selL (fun u => hasF L k u) n = ys at v7 l7 hc b7
    refine Join.cut (fun (x : Int × Unit) w' => Ext w8 w' ∧ x.1 = cntP xs ys) (fun J hJ => ?_) ?_
    · refine LoopT.gh (γ := Nat) (fun i (st : Int × Int × Unit) w' => st.2.1 = i ∧ i ≤ xs.length ∧ Ext w8 w' ∧ st.1 = (xs.take i).foldl (fun c x => cntI x ys c) 0) (fun i => xs.length - i) 0 ⟨rfl, Nat.zero_le _, .refl _, rfl⟩ ?_
      rintro i ⟨c, x, _⟩ w12 ⟨hx, hi, e12, hcc⟩ J1 hJ1
      simp only at hx hcc
      subst hx
      dsimp only
      rw [Bool.cond_decide]
      by_cases hci : (i : Int) < (s5.len : Int)
      · rw [if_pos hci]
        have hi' : i < xs.length := by omega
        refine Join.cut (fun (y : Int × Unit) w' => Ext w8 w' ∧ y.1 = (xs.take (i + 1)).foldl (fun c x => cntI x ys c) 0) (fun J hJ => ?_) ?_
        · refine LoopT.gh (γ := Nat) (fun j (st : Int × Int × Unit) w' => st.2.1 = j ∧ j ≤ ys.length ∧ Ext w8 w' ∧ st.1 = cntI xs[i] (ys.take j) c) (fun j => ys.length - j) 0 ⟨rfl, Nat.zero_le _, e12, rfl⟩ ?_
          rintro j ⟨d, x, _⟩ w16 ⟨hx, hj, e16, hd⟩ J2 hJ2
          simp only at hx hd
          subst hx
          dsimp only
          rw [Bool.cond_decide]
          by_cases hcj : (j : Int) < (s7.len : Int)
          · rw [if_pos hcj]
            have hj' : j < ys.length := by omega
            refine Join.cut (fun (y : Int × Unit) w' => Ext w8 w' ∧ y.1 = cntI xs[i] (ys.take (j + 1)) c) (fun J hJ => ?_) ?_
            · refine int_idx (v5.ext e16) hi' fun _ a0 => ⟨_, a0, ?_⟩
              refine int_idx (v7.ext e16) hj' fun _ a0 => ⟨_, a0, ?_⟩
              intro w22 e22
              have e1 : cntI xs[i] (ys.take (j + 1)) c = if xs[i] ≠ ys[j] then IntKind.i64.wrap (d + 1) else d := by
                rw [take_snoc' hj', hd]; unfold cntI; rw [List.foldl_append]; rfl
              by_cases hne : xs[i] ≠ ys[j]
              · rw [show (xs[i] != ys[j]) = true by simpa using hne, cond_true]
                exact hJ _ _ ⟨e16.trans e22, by rw [e1, if_pos hne]⟩
              · rw [show (xs[i] != ys[j]) = false by simpa using hne, cond_false]
                exact hJ _ _ ⟨e16.trans e22, by rw [e1, if_neg hne]⟩
            · rintro ⟨y, _⟩ w24 ⟨e24, hy⟩
              exact hJ2 (j + 1) _ _ ⟨wsucc (m := 2 ^ 40) (by omega) (by omega), by omega, e24, hy⟩ (by omega)
          · rw [if_neg hcj]
            have : j = ys.length := by omega
            subst this
            rw [List.take_length] at hd
            exact hJ _ _ ⟨e16, by rw [take_snoc' hi', List.foldl_append, ← hcc]; exact hd⟩
        · rintro ⟨y, _⟩ w26 ⟨e26, hy⟩
          exact hJ1 (i + 1) _ _ ⟨wsucc (m := 2 ^ 40) (by omega) (by omega), by omega, e26, hy⟩ (by omega)
      · rw [if_neg hci]
        have : i = xs.length := by omega
        subst this
        rw [List.take_length] at hcc
        exact hJ _ _ ⟨e12, hcc⟩
    · rintro ⟨x, _⟩ w28 ⟨e28, hx⟩
      simp only at hx; subst hx
      refine fi_rd (h.o.ext (e8'.trans e28)) hk fun a ha => ⟨_, ha, ?_⟩
      rw [l5, l7]
      exact hc _ (e8'.trans e28)
  · rw [Bool.not_eq_true] at hi
    rw [hi, Bool.not_false, cond_true]
    have := hK w4 (e2.trans e4)
    unfold costF at this
    rw [hi, if_neg (by decide)] at this; exact this
theorem Cost_quiet {v : Int} {K : Int → Prop} (h : LeftV w n sI sL sO inn L lost) (hk : K (costF n inn L lost v)) :
    Quiet Int (fun r => .int .i64 r) (fun K16 w17' => sh_postroadref08_Cost n sI sL sO v (fun x14 w17 => K16 x14 w17) w17') w K :=
  Quiet.mk _ (fun w' e _ hK' => Cost_ok (h.ext e) fun w'' e'' => hK' w'' e'') hk

theorem Next_ok {K : Int → World → Prop} (h : LeftV w n sI sL sO inn L lost)
    (hK : ∀ x w', Ext w w' → (x = -1 ∧ ∀ v, v < n → inn v ≠ 1) ∨ (∃ v : Nat, v < n ∧ inn v = 1 ∧ x = (v : Int)) → K x w') : sh_postroadref09_Next n sI sL sO K w := by
  unfold sh_postroadref09_Next
  intro b1 w2 e2 g1 g1'
  have z2 := e2.size
  have hn := h.n40
  refine Places_ok (h.ext e2) fun s3 w4 ps e4 o3 f3 hpl hpm => ⟨kp_ext e4 (by (intro b hb; simp only [List.mem_cons, List.not_mem_nil, or_false] at hb; omega)), ?_⟩
  have v3 := o3.view
  have l3 := v3.len
  have e24 := e2.trans e4
  refine LoopT.gh (γ := Nat) (fun i (st : Int × Int × Unit) w' => st.2.1 = i ∧ i ≤ ps.length ∧ Ext w4 w' ∧ ((i = 0 ∧ st.1 = -1) ∨ ∃ v : Nat, v < n ∧ inn v = 1 ∧ st.1 = (v : Int))) (fun i => ps.length - i) 0 ⟨rfl, Nat.zero_le _, .refl _, .inl ⟨rfl, rfl⟩⟩ ?_
  rintro i ⟨c, x, _⟩ w7 ⟨hx, hi, e7, hb⟩ J1 hJ1
  simp only at hx hb
  subst hx
  dsimp only
  rw [Bool.cond_decide]
  by_cases hc : (i : Int) < (s3.len : Int)
  · rw [if_pos hc]
    have hi' : i < ps.length := by omega
    have hpi := (hpm ps[i]).1 (List.getElem_mem hi')
    refine Join.cut (fun (y : Int × Unit) w' => Ext w4 w' ∧ ∃ v : Nat, v < n ∧ inn v = 1 ∧ y.1 = (v : Int)) (fun J hJ => ?_) ?_
    · rw [Bool.cond_decide]
      by_cases hneg : c < 0
      · rw [if_pos hneg]
        intro w9 e9
        exact int_idx (v3.ext (e7.trans e9)) hi' fun _ a0 => ⟨_, a0, hJ _ _ ⟨e7.trans e9, hpi⟩⟩
      · rw [if_neg hneg]
        have hb' : ∃ v : Nat, v < n ∧ inn v = 1 ∧ c = (v : Int) := hb.elim (fun q => by omega) id
        refine int_idx (v3.ext e7) hi' fun _ a0 => ⟨_, a0, ?_⟩
        refine Cost_quiet (h.ext (e24.trans e7)) (Cost_quiet (h.ext (e24.trans e7)) fun w22 e22 => ?_)
        rw [Bool.cond_decide]
        split
        · exact int_idx (v3.ext (e7.trans e22)) hi' fun _ a0 => ⟨_, a0, hJ _ _ ⟨e7.trans e22, hpi⟩⟩
        · exact hJ _ _ ⟨e7.trans e22, hb'⟩
    · rintro ⟨y, _⟩ w26 ⟨e26, hy⟩
      exact hJ1 (i + 1) _ _ ⟨wsucc (m := 2 ^ 40) (by omega) (by omega), by omega, e26, .inr hy⟩ (by omega)
  · rw [if_neg hc]
    refine hK c w7 (e24.trans e7) (hb.imp (fun ⟨h0, h1⟩ => ⟨h1, fun v hv hin => ?_⟩) id)
    have := List.length_pos_of_mem ((hpm (v : Int)).2 ⟨v, hv, hin, rfl⟩)
    omega
end
end Go.Sh

/- Is there a way around? -/
set_option maxRecDepth 100000
namespace Go.Sh
open Go.RowKit

theorem Acc.wr {w0 w : World} {n0 n i : Nat} {s : SV} {f : Nat → Int} (h : Acc RI w0 n0 w s (fi n f)) (hi : i < n) {K : Addr → Prop}
    (hk : ∀ a, (∀ (w1 : World) (v : Int) (K' : World → Prop), Ext w w1 → (∀ w', Chg s.blk w1 w' → Acc RI w0 n0 w' s (fi n (up1 f i v)) → K' w') → stL w1 a [.int .i64 v] 0 K') → K a) :
    Idx s.a s.len (i : Int) 1 K :=
  fi_wr h.o hi fun a put => hk a fun w1 v K' e hK' => put w1 v K' (h.o.ext e) fun w' c hO => hK' w' c
    ⟨ext_chg (h.e.trans e) c fun k hk => Nat.le_trans h.m (h.f k hk), h.m, Nat.le_trans h.z (Nat.le_trans e.size c.size), hO, h.f⟩

section
variable {w w' : World} {n : Nat} {sI sL sO : SV} {inn lost : Nat → Int} {L : List Wy}
/-- The edges without a place. -/
def EO (L : List Wy) (v : Nat) (i j : Nat) (x : Int) : Prop := EL L i j x ∧ i ≠ v ∧ j ≠ v

theorem Near_ok {u0 v0 most M : Int} {v : Nat} {K : Bool → World → Prop} (h : LeftV w n sI sL sO inn L lost) (hM : 0 ≤ M) (hB : (n : Int) * M ≤ 1152921504606846976) (he : ∀ y ∈ L, Ends (fun u => u < n) M y)
    (hK : ∀ b w', Ext w w' → (b = true → ∃ (a c : Nat) (d : Int), u0 = (a : Int) ∧ v0 = (c : Int) ∧ d ≤ most ∧ Wk (EO L v) a c d) → K b w') : sh_postroadref08_Near n sI sL sO u0 v0 v most K w := by
  unfold sh_postroadref08_Near
  intro b1 w2 e2 g1 g1'
  have z2 := e2.size
  have hn := h.n40; have hk40 := h.k; have hl := h.l.len
  have no : ∀ w', Ext w w' → K false w' := fun w' e => hK false w' e fun q => by cases q
  refine is_ok (h.ext e2) fun w4 e4 => ⟨kp_ext e4 (by (intro b hb; simp only [List.mem_cons, List.not_mem_nil, or_false] at hb; omega)), ?_⟩
  have z4 := e4.size
  by_cases hu : isF n inn u0 = true
  case neg => rw [Bool.not_eq_true] at hu; rw [hu, Bool.not_false, cond_true]; exact no _ (e2.trans e4)
  rw [hu, Bool.not_true, cond_false]
  refine is_ok (h.ext (e2.trans e4)) fun w6 e6 => ⟨kp_ext e6 (by (intro b hb; simp only [List.mem_cons, List.not_mem_nil, or_false] at hb; omega)), ?_⟩
  have z6 := e6.size
  have e06 := (e2.trans e4).trans e6
  by_cases hv : isF n inn v0 = true
  case neg => rw [Bool.not_eq_true] at hv; rw [hv, Bool.not_false, cond_true]; exact no _ e06
  rw [hv, Bool.not_true, cond_false]
  obtain ⟨a, rfl, ha, _⟩ := isF_true hu
  obtain ⟨c, rfl, hc, _⟩ := isF_true hv
  by_cases h1 : (a : Int) = (v : Int)
  · rw [show ((a : Int) == (v : Int)) = true by rw [beq_iff_eq]; exact h1, cond_true]; exact no _ e06
  rw [show ((a : Int) == (v : Int)) = false by rw [beq_eq_false_iff_ne]; exact h1, cond_false]
  by_cases h2 : (c : Int) = (v : Int)
  · rw [show ((c : Int) == (v : Int)) = true by rw [beq_iff_eq]; exact h2, cond_true]; exact no _ e06
  rw [show ((c : Int) == (v : Int)) = false by rw [beq_eq_false_iff_ne]; exact h2, cond_false]
  refine own_mk (R := RI) (by omega) (by omega) (by omega) fun s7 w8 e8 f8 o8 => ?_
  have z8 := e8.size
  rw [Int.toNat_natCast, show RI.z = (0 : Int) from rfl, fi_rep] at o8
  have hA : Acc RI w w6.heap.size w8 s7 (fi n fun _ => 0) := ⟨e06.trans e8, e06.size, z8, o8, f8⟩
  have h7 := o8.view.len
  rw [fi_len] at h7
  refine Join.cut (fun _ w' => Acc RI w w6.heap.size w' s7 (fi n fun _ => -1)) (fun J hJ => ?_) ?_
  · refine LoopT.gh (γ := Nat) (fun i (st : Int × Unit) w' => st.1 = i ∧ i ≤ n ∧ Acc RI w w6.heap.size w' s7 (fi n fun j => if j < i then -1 else 0)) (fun i => n - i) 0 ⟨rfl, Nat.zero_le _, by simpa using hA⟩ ?_
    rintro i ⟨x, _⟩ w12 ⟨hx, hi, hA⟩ J1 hJ1
    simp only at hx; subst hx
    dsimp only
    have z12 := hA.z
    rw [Bool.cond_decide]
    by_cases hci : (i : Int) < (n : Int)
    · rw [if_pos hci]
      refine hA.wr (show i < n by omega) fun p put => put w12 (-1) _ (.refl _) fun w14 c14 hA1 => ⟨hA.kp (.refl _) c14 (by (intro b hb; simp only [List.mem_cons, List.not_mem_nil, or_false] at hb; omega)), ?_⟩
      refine hJ1 (i + 1) _ _ ⟨wsucc (m := 2 ^ 40) (by omega) (by omega), by omega, ?_⟩ (by omega)
      rw [show fi n (fun j => if j < i + 1 then (-1 : Int) else 0) = fi n (up1 (fun j => if j < i then (-1 : Int) else 0) i (-1)) from fi_congr fun j hj => by
        unfold up1
        by_cases e : j = i
        · subst e; simp
        · rw [if_neg e]; dsimp only; by_cases q : j < i
          · rw [if_pos q, if_pos (by omega)]
          · rw [if_neg q, if_neg (by omega)]]
      exact hA1
    · rw [if_neg hci]
      have : i = n := by omega
      subst this
      refine hJ _ _ ?_
      rw [show fi i (fun _ => (-1 : Int)) = fi i (fun j => if j < i then (-1 : Int) else 0) from fi_congr fun j hj => by rw [if_pos hj]]
      exact hA
  · rintro _ w16 hA
    have z16 := hA.z
    refine hA.wr ha fun p put => put w16 0 _ (.refl _) fun w18 c18 hA1 => ⟨hA.kp (.refl _) c18 (by (intro b hb; simp only [List.mem_cons, List.not_mem_nil, or_false] at hb; omega)), ?_⟩
    have hT : Tab (EO L v) n a M (up1 (fun _ => -1) a 0) := Tab.begin ha hM
    refine Join.cut (fun _ w' => ∃ f, Acc RI w w6.heap.size w' s7 (fi n f) ∧ Tab (EO L v) n a M f) (fun J hJ => ?_) ?_
    · obtain ⟨Bn, hBn⟩ := Int.eq_ofNat_of_zero_le (show 0 ≤ (n : Int) * M from Int.mul_nonneg (by omega) hM)
      refine LoopT.gh (γ := Bool × (Nat → Int)) (fun g (st : Bool × Unit) w' => st.1 = g.1 ∧ Acc RI w w6.heap.size w' s7 (fi n g.2) ∧ Tab (EO L v) n a M g.2) (fun g => 2 * sumB Bn g.2 n + (if g.1 = true then 1 else 0)) (true, _) ⟨rfl, hA1, hT⟩ ?_
      rintro ⟨go, f⟩ ⟨x, _⟩ w22 ⟨hx, hA, hT⟩ J1 hJ1
      simp only at hx hA hT
      subst hx
      dsimp only
      cases x with
      | false => rw [cond_false]; exact hJ _ _ ⟨f, hA, hT⟩
      | true =>
        rw [cond_true]
        refine LoopT.gh (γ := Nat × (Nat → Int)) (fun g (st : Bool × Int × Unit) w' => st.2.1 = g.1 ∧ g.1 ≤ L.length ∧ Acc RI w w6.heap.size w' s7 (fi n g.2) ∧ Tab (EO L v) n a M g.2 ∧ sumB Bn g.2 n + (if st.1 = true then 1 else 0) ≤ sumB Bn f n) (fun g => L.length - g.1) (0, f) ⟨rfl, Nat.zero_le _, hA, hT, by simp⟩ ?_
        rintro ⟨i, f'⟩ ⟨fl, x, _⟩ w25 ⟨hx, hi, hA, hT, hS⟩ J2 hJ2
        simp only at hx hi hA hT hS
        subst hx
        dsimp only
        have z25 := hA.z
        rw [Bool.cond_decide]
        by_cases hci : (i : Int) < (sL.len : Int)
        · rw [if_pos hci]
          have hi' : i < L.length := by omega
          refine Join.cut (fun (y : Bool × Unit) w' => ∃ f'', Acc RI w w6.heap.size w' s7 (fi n f'') ∧ Tab (EO L v) n a M f'' ∧ sumB Bn f'' n + (if y.1 = true then 1 else 0) ≤ sumB Bn f n) (fun J3 hJ3 => ?_) ?_
          · refine way_idx (h.l.ext hA.e) hi' fun _ _ a0 a1 a2 a3 a4 => ⟨_, a0, _, a1, _, a2, _, a3, _, a4, ?_⟩
            intro b33 w34 e34 g33 g33' w35 o35
            have z34 := e34.size; have z35 := o35.size
            have hA1 := hA.off' e34 o35 g33
            obtain ⟨⟨p, hp, hp1⟩, ⟨q, hq, hq1⟩, _, hw0, hwM⟩ := he _ (List.getElem_mem hi')
            have e25 : Ext w25 w35 := ext_off e34 o35 g33
            have keep : ∀ w58, Ext w35 w58 → J3 (fl, ()) w58 := fun w58 e58 => hJ3 _ _ ⟨f', hA1.ext e58, hT, hS⟩
            by_cases k1 : yF L[i] = (v : Int)
            · rw [show (yF L[i] != (v : Int)) = false by rw [bne_eq_false_iff_eq]; exact k1, cond_false]; exact keep
            rw [show (yF L[i] != (v : Int)) = true by rw [bne_iff_ne]; exact k1, cond_true]
            by_cases k2 : yT L[i] = (v : Int)
            · rw [show (yT L[i] != (v : Int)) = false by rw [bne_eq_false_iff_eq]; exact k2, cond_false]; exact keep
            rw [show (yT L[i] != (v : Int)) = true by rw [bne_iff_ne]; exact k2, cond_true]
            have hE : EO L v p q (yW L[i]) := ⟨⟨L[i], List.getElem_mem hi', hp1, hq1, rfl⟩, by omega, by omega⟩
            rw [hp1, hq1]
            refine fi_rd hA1.o.view hp fun _ r1 => ⟨_, r1, ?_⟩
            rw [Bool.cond_decide]
            by_cases hfp : f' p ≥ 0
            case neg => rw [if_neg hfp]; exact keep
            rw [if_pos hfp]
            have hlt := hT.lt hp hfp hwM
            have hwr : IntKind.i64.wrap (f' p + yW L[i]) = f' p + yW L[i] := w64 (by omega) (by omega)
            refine fi_rd hA1.o.view hq fun _ r2 => ⟨_, r2, ?_⟩
            rw [Bool.cond_decide]
            by_cases hfq : f' q < 0
            · rw [if_pos hfq]
              intro w40 e40
              refine fi_rd (hA1.ext e40).o.view hp fun _ r3 => ⟨_, r3, ?_⟩
              refine (hA1.ext e40).wr hq fun _ put w44 e44 => put w44 _ _ e44 fun w45 c45 hA2 => ?_
              have z40 := e40.size; have z44 := e44.size
              refine ⟨hA.kp ((e25.trans e40).trans e44) c45 (by (intro b hb; simp only [List.mem_cons, List.not_mem_nil, or_false] at hb; omega)), fun w46 e46 => ?_⟩
              rw [hwr] at hA2
              have hS1 := hT.step hp hq hE hw0 hwM hfp (.inl hfq)
              have hS2 := hS1.2 Bn (by omega)
              refine hJ3 _ _ ⟨_, hA2.ext e46, hS1.1, ?_⟩
              simp only [if_pos]
              split at hS <;> omega
            · rw [if_neg hfq]
              refine fi_rd hA1.o.view hp fun _ r3 => ⟨_, r3, ?_⟩
              refine fi_rd hA1.o.view hq fun _ r4 => ⟨_, r4, ?_⟩
              intro w51 e51
              rw [hwr, Bool.cond_decide]
              by_cases hless : f' p + yW L[i] < f' q
              · rw [if_pos hless]
                refine fi_rd (hA1.ext e51).o.view hp fun _ r3 => ⟨_, r3, ?_⟩
                refine (hA1.ext e51).wr hq fun _ put w55 e55 => put w55 _ _ e55 fun w56 c56 hA2 => ?_
                have z51 := e51.size; have z55 := e55.size
                refine ⟨hA.kp ((e25.trans e51).trans e55) c56 (by (intro b hb; simp only [List.mem_cons, List.not_mem_nil, or_false] at hb; omega)), fun w57 e57 => ?_⟩
                rw [hwr] at hA2
                have hS1 := hT.step hp hq hE hw0 hwM hfp (.inr hless)
                have hS2 := hS1.2 Bn (by omega)
                refine hJ3 _ _ ⟨_, hA2.ext e57, hS1.1, ?_⟩
                simp only [if_pos]
                split at hS <;> omega
              · rw [if_neg hless]; exact keep _ e51
          · rintro ⟨y, _⟩ w62 ⟨f'', hA2, hT2, hS2⟩
            exact hJ2 (i + 1, f'') _ _ ⟨wsucc (m := 2 ^ 40) (by omega) (by omega), by simp only; omega, hA2, hT2, hS2⟩ (by simp only; omega)
        · rw [if_neg hci]
          refine hJ1 (fl, f') _ _ ⟨rfl, hA, hT⟩ ?_
          simp only [if_pos]
          split at hS <;> simp_all <;> omega
    · rintro _ w64 ⟨f, hA, hT⟩
      refine fi_rd hA.o.view hc fun _ r1 => ⟨_, r1, ?_⟩
      rw [Bool.cond_decide]
      by_cases hf : f c ≥ 0
      · rw [if_pos hf]
        refine fi_rd hA.o.view hc fun _ r2 => ⟨_, r2, ?_⟩
        refine hK _ _ hA.e fun q => ⟨a, c, f c, rfl, rfl, of_decide_eq_true q, ?_⟩
        rcases hT.r c hc with e | ⟨_, hw, _⟩
        · omega
        · exact hw
      · rw [if_neg hf]; exact no _ hA.e
end
end Go.Sh

/- The reference of space: Fit, Climb, Rows, Above, Same. -/
set_option maxRecDepth 100000
namespace Go.Sh
open Go.RowKit

def endU (back : Bool) (y : Wy) : Int := if back = true then yT y else yF y
def endV (back : Bool) (y : Wy) : Int := if back = true then yF y else yT y
section
variable {rank : List Int} {ways : List Wy} {top : Int} {back : Bool}
theorem rk_ne (ok : OkH rank ways) {a b : Nat} (ha : a < rank.length) (hb : b < rank.length) (hne : a ≠ b) : rkA rank (a : Int) ≠ rkA rank (b : Int) := fun e => by
  rw [← rk_get ha, ← rk_get hb] at e
  have := List.pairwise_iff_getElem.1 (List.nodup_iff_pairwise_ne.1 ok.r.2)
  rcases Nat.lt_or_gt_of_ne hne with h | h
  · exact this a b ha hb h e
  · exact this b a hb ha h e.symm
theorem ES_of (ok : OkH rank ways) {k : Nat} (hk : k < ways.length) {u v : Nat} (hu : endU back ways[k] = (u : Int)) (hv : endV back ways[k] = (v : Int)) (ht : rkA rank (u : Int) < top) (hlt : rkA rank (v : Int) > rkA rank (u : Int)) :
    ES rank ways top back u v (yW ways[k]) := by
  have hf := ok.f k hk; unfold OkF at hf
  cases back with
  | true =>
    have hu : yT ways[k] = (u : Int) := hu
    have hv : yF ways[k] = (v : Int) := hv
    refine ⟨by omega, (yF ways[k], yW ways[k], (k : Int)), ?_, hv, rfl⟩
    unfold edS
    rw [if_pos ht, if_pos rfl, ← hu]
    refine dnF_of ok hk fun h => ?_
    unfold IsUp at h; rw [hu, hv] at h; omega
  | false =>
    have hu : yF ways[k] = (u : Int) := hu
    have hv : yT ways[k] = (v : Int) := hv
    refine ⟨by omega, (yT ways[k], yW ways[k], (k : Int)), ?_, hv, rfl⟩
    unfold edS
    rw [if_pos ht, if_neg (by decide), ← hu]
    refine upF_of ok hk ?_
    unfold IsUp; rw [hu, hv]; omega
theorem ES_way (ok : OkH rank ways) {u v : Nat} {x : Int} (h : ES rank ways top back u v x) : ∃ k, ∃ hk : k < ways.length, endU back ways[k] = (u : Int) ∧ endV back ways[k] = (v : Int) ∧ yW ways[k] = x ∧ rkA rank (u : Int) < top ∧ rkA rank (v : Int) > rkA rank (u : Int) := by
  obtain ⟨hu, e, he, hv, hx⟩ := h
  unfold edS at he
  split at he
  · rename_i ht
    split at he
    · rename_i hb
      subst hb
      obtain ⟨k, hk, h1, h2, rfl⟩ := dnF_mem he
      have hv : yF ways[k] = (v : Int) := hv
      have hf := ok.f k hk; unfold OkF at hf
      refine ⟨k, hk, h1, hv, hx, ht, ?_⟩
      unfold IsUp at h2
      rw [h1, hv] at h2
      have := rk_ne ok (show v < rank.length by omega) hu (by omega)
      omega
    · rename_i hb
      rw [Bool.not_eq_true] at hb
      subst hb
      obtain ⟨k, hk, h1, h2, rfl⟩ := upF_mem he
      have hv : yT ways[k] = (v : Int) := hv
      refine ⟨k, hk, h1, hv, hx, ht, ?_⟩
      unfold IsUp at h2
      rw [h1, hv] at h2; exact h2
  · simp at he
end

section
variable {w : World} {rank : List Int} {ways : List Wy} {sr sy : SV}

theorem okR_rk (ok : OkH rank ways) {u : Nat} (hu : u < rank.length) : 0 ≤ rkA rank (u : Int) ∧ rkA rank (u : Int) < rank.length := by
  rw [← rk_get hu]; exact ok.r.1 _ (List.getElem_mem hu)

end
end Go.Sh

/- What is known of one hierarchy; SpaceClimbs, SpaceRanks. -/
set_option maxRecDepth 100000
namespace Go.Sh
open Go.RowKit

theorem findR_mem {l : List (Int × Int)} (hp : l.Pairwise fun a b => a.1 < b.1) {e : Int × Int} (he : e ∈ l) : findR l e.1 = e.2 := by
  obtain ⟨j, hj, rfl⟩ := List.getElem_of_mem he
  refine findR_take hj (fun i hi hij h => ?_) rfl
  have := List.pairwise_iff_getElem.1 hp i j hi hj hij
  omega
theorem findR_not {l : List (Int × Int)} {v : Int} (h : ∀ e ∈ l, e.1 ≠ v) : findR l v = -1 := findR_none fun j hj => h _ (List.getElem_mem hj)
theorem findR_rows {n : Nat} {f : Nat → Int} {q : Nat → Bool} {v : Nat} (hv : v < n) (h0 : 0 ≤ f v) (hq : q v = true) : findR (rowsL n f q) (v : Int) = f v :=
  findR_mem (e := ((v : Int), f v)) (rowsL_pw n f q) (rowsL_mem.2 ⟨v, hv, h0, hq, rfl⟩)

section
variable {CV : CVT} {w : World}
end
end Go.Sh

/- What ways stand in for a place. -/
set_option maxRecDepth 100000
namespace Go.Sh
open Go.RowKit

section
variable {w w' : World} {n : Nat} {sI sL sO : SV} {inn lost : Nat → Int} {L : List Wy}
/-- Two ways are stood in for. -/
def DoneN (L N : List Wy) (v : Nat) (p q : Wy) : Prop := (∃ y ∈ N, yF y = yF p ∧ yT y = yT q ∧ yW y = yW p + yW q) ∨
    ∃ (a c : Nat) (d : Int), yF p = (a : Int) ∧ yT q = (c : Int) ∧ d ≤ yW p + yW q ∧ Wk (fun i j x => EL L i j x ∧ i ≠ v ∧ j ≠ v) a c d
theorem DoneN.app {N : List Wy} {v : Nat} {p q y : Wy} (h : DoneN L N v p q) : DoneN L (N ++ [y]) v p q := h.imp (fun ⟨z, hz, r⟩ => ⟨z, List.mem_append_left _ hz, r⟩) id
def OfN (L : List Wy) (v : Nat) (y : Wy) : Prop := ∃ p ∈ L, ∃ q ∈ L, yF p = yF y ∧ yT p = (v : Int) ∧ yF q = (v : Int) ∧ yT q = yT y ∧ yW y = yW p + yW q ∧ yM y = (v : Int) ∧ yA y = -1 ∧ yF y ≠ yT y

theorem hasF_of (hq : Uq L) {a : Wy} (ha : a ∈ L) {u v : Nat} (h1 : yF a = (u : Int)) (h2 : yT a = (v : Int)) : hasF L u v = true := by
  obtain ⟨k, hk, _⟩ := hq.find ha h1 h2
  unfold hasF; rw [hk]; rfl
theorem hasF_way {u v : Nat} (h : hasF L u v = true) : ∃ y ∈ L, yF y = (u : Int) ∧ yT y = (v : Int) ∧ wayF L u v = (yW y, yM y, yA y, true) := by
  unfold hasF at h
  cases hf : findW L (u : Int) (v : Int) with
  | none => rw [hf] at h; cases h
  | some k =>
    obtain ⟨hk, q1, q2, _⟩ := findW_some hf
    refine ⟨L[k], List.getElem_mem hk, q1, q2, ?_⟩
    unfold wayF
    rw [hf]
    simp only [← wyA_get hk]

theorem Needed_ok {v : Nat} {M : Int} {K : SV → World → Prop} (h : LeftV w n sI sL sO inn L lost) (hM : 0 ≤ M) (hB : (n : Int) * M ≤ 1152921504606846976) (h2 : 2 * M ≤ 1152921504606846976) (he : ∀ y ∈ L, Ends (fun u => u < n) M y) (hq : Uq L)
    (hK : ∀ s w' N, Ext w w' → Own RW w' s N → Fsh w s → N.length ≤ n * n → Need L v N → K s w') : sh_postroadref09_Needed n sI sL sO v K w := by
  unfold sh_postroadref09_Needed
  intro b1 w2 e2 g1 g1'
  have z2 := e2.size
  have hn := h.n40
  refine Ins_ok (h.ext e2) fun s3 w4 e4 o3 f3 => ⟨kp_ext e4 (by (intro b hb; simp only [List.mem_cons, List.not_mem_nil, or_false] at hb; omega)), ?_⟩
  have z4 := e4.size
  refine Outs_ok (h.ext (e2.trans e4)) fun s5 w6 e6 o5 f5 => ⟨kp_ext e6 (by (intro b hb; simp only [List.mem_cons, List.not_mem_nil, or_false] at hb; omega)), ?_⟩
  have z6 := e6.size
  have e06 := (e2.trans e4).trans e6
  have h6 := h.ext e06
  have v3 := (o3.ext e6).view
  have v5 := o5.view
  have l3 := v3.len; have l5 := v5.len
  have b3 := selL_len (fun u => hasF L u v) n
  have b5 := selL_len (fun u => hasF L v u) n
  have m3 := fun x => @mem_selL (fun u => hasF L u v) n x
  have m5 := fun x => @mem_selL (fun u => hasF L v u) n x
  generalize selL (fun u => hasF L u v) n = xs at v3 l3 b3 m3
  generalize selL (fun u => hasF L v u) n = ys at v5 l5 b5 m5
  have n2 : n * n ≤ 4096 * 4096 := Nat.mul_le_mul hn hn
  refine LoopT.gh (γ := Nat × List Wy) (fun g (st : SV × Int × Unit) w' => st.2.1 = g.1 ∧ g.1 ≤ xs.length ∧ Acc RW w6 w6.heap.size w' st.1 g.2 ∧ g.2.length ≤ g.1 * ys.length ∧ (∀ y ∈ g.2, OfN L v y) ∧
      ∀ k (hk : k < xs.length), k < g.1 → ∀ p ∈ L, ∀ q ∈ L, yF p = xs[k] → yT p = (v : Int) → yF q = (v : Int) → yF p ≠ yT q → DoneN L g.2 v p q) (fun g => xs.length - g.1) (0, [])
    ⟨rfl, Nat.zero_le _, Acc.nil (.refl _) (Nat.le_refl _) (Nat.le_refl _), by simp, fun y hy => by simp at hy, fun k hk h => by simp at h⟩ ?_
  rintro ⟨i, N⟩ ⟨u, x, _⟩ w9 ⟨hx, hi, hA, hNl, hNa, hNb⟩ J1 hJ1
  simp only at hx hi hA hNl hNa hNb
  subst hx
  dsimp only
  have z9 := hA.z
  rw [Bool.cond_decide]
  by_cases hc : (i : Int) < (s3.len : Int)
  · rw [if_pos hc]
    have hi' : i < xs.length := by omega
    obtain ⟨a, ha, haF, hxa⟩ := (m3 xs[i]).1 (List.getElem_mem hi')
    obtain ⟨p0, hp0, p1, p2, p3⟩ := hasF_way haF
    have hil : i * ys.length ≤ n * n := Nat.mul_le_mul (by omega) b5
    have hil' : (i + 1) * ys.length ≤ n * n := Nat.mul_le_mul (by omega) b5
    rw [Nat.succ_mul] at hil'
    refine Join.cut (fun (y : SV × Unit) w' => ∃ N', Acc RW w6 w6.heap.size w' y.1 N' ∧ N'.length ≤ (i + 1) * ys.length ∧ (∀ y ∈ N', OfN L v y) ∧
      ∀ k (hk : k < xs.length), k < i + 1 → ∀ p ∈ L, ∀ q ∈ L, yF p = xs[k] → yT p = (v : Int) → yF q = (v : Int) → yF p ≠ yT q → DoneN L N' v p q) (fun J hJ => ?_) ?_
    · refine int_idx (v3.ext hA.e) hi' fun _ a0 => ⟨_, a0, ?_⟩
      refine Way_quiet (h6.ext hA.e) ?_
      rw [hxa, p3]
      intro b20 w21 e21 g20 g20' w22 e22 w23 o23 w24 e24
      have z21 := e21.size; have z22 := e22.size; have z23 := o23.size; have z24 := e24.size
      have hA1 := (hA.off' (e21.trans e22) o23 g20).ext e24
      have nb20 : ¬ u.blk b20 := fun hk => by have := hA.o.lt hk; omega
      refine LoopT.gh (γ := Nat × List Wy) (fun g (st : SV × Int × Unit) w' => st.2.1 = g.1 ∧ g.1 ≤ ys.length ∧ Acc RW w6 w6.heap.size w' st.1 g.2 ∧ b20 < w'.heap.size ∧ ¬ st.1.blk b20 ∧ g.2.length ≤ i * ys.length + g.1 ∧ (∀ y ∈ g.2, OfN L v y) ∧
          (∀ k (hk : k < xs.length), k < i → ∀ p ∈ L, ∀ q ∈ L, yF p = xs[k] → yT p = (v : Int) → yF q = (v : Int) → yF p ≠ yT q → DoneN L g.2 v p q) ∧
          ∀ k (hk : k < ys.length), k < g.1 → ∀ q ∈ L, yF q = (v : Int) → yT q = ys[k] → yF p0 ≠ yT q → DoneN L g.2 v p0 q) (fun g => ys.length - g.1) (0, N)
        ⟨rfl, Nat.zero_le _, hA1, by omega, nb20, by omega, hNa, hNb, fun k hk h => by simp at h⟩ ?_
      rintro ⟨j, N'⟩ ⟨u', x, _⟩ w27 ⟨hx, hj, hA2, l20, n20, hNl', hNa', hNb', hNc⟩ J2 hJ2
      simp only at hx hj hA2 l20 n20 hNl' hNa' hNb' hNc
      subst hx
      dsimp only
      have z27 := hA2.z
      rw [Bool.cond_decide]
      by_cases hcj : (j : Int) < (s5.len : Int)
      · rw [if_pos hcj]
        have hj' : j < ys.length := by omega
        obtain ⟨c, hcn, hcF, hyc⟩ := (m5 ys[j]).1 (List.getElem_mem hj')
        obtain ⟨q0, hq0, q1, q2, q3⟩ := hasF_way hcF
        have ep := he p0 hp0; have eq := he q0 hq0
        have hwr : IntKind.i64.wrap (yW p0 + yW q0) = yW p0 + yW q0 := w64 (by have := ep.2.2.2.1; have := eq.2.2.2.1; omega) (by have := ep.2.2.2.2; have := eq.2.2.2.2; omega)
        have uq0 : ∀ q ∈ L, yF q = (v : Int) → yT q = ys[j] → q = q0 := fun q hqm h1 h2 => hq.same hqm hq0 (h1.trans q1.symm) (by rw [h2, hyc, q2])
        refine Join.cut (fun (y : SV × Unit) w' => ∃ N'', Acc RW w6 w6.heap.size w' y.1 N'' ∧ b20 < w'.heap.size ∧ ¬ y.1.blk b20 ∧ N''.length ≤ i * ys.length + (j + 1) ∧ (∀ y ∈ N'', OfN L v y) ∧
            (∀ p q, DoneN L N' v p q → DoneN L N'' v p q) ∧ (yF p0 ≠ yT q0 → DoneN L N'' v p0 q0)) (fun J3 hJ3 => ?_) ?_
        · refine int_idx (v5.ext hA2.e) hj' fun _ a0 => ⟨_, a0, ?_⟩
          refine Way_quiet (h6.ext hA2.e) ?_
          rw [hyc, q3]
          intro b38 w39 e39 g38 g38' w40 e40 w41 o41 w42 e42
          have z39 := e39.size; have z40 := e40.size; have z41 := o41.size; have z42 := e42.size
          have e27 : Ext w27 w42 := (ext_off (e39.trans e40) o41 g38).trans e42
          have hA3 := hA2.ext e27
          refine int_idx (v3.ext hA3.e) hi' fun _ a0 => ⟨_, a0, ?_⟩
          refine int_idx (v5.ext hA3.e) hj' fun _ a0 => ⟨_, a0, ?_⟩
          simp only [hxa, hyc]
          by_cases hne : (a : Int) ≠ (c : Int)
          · rw [show ((a : Int) != (c : Int)) = true by rw [bne_iff_ne]; exact hne, cond_true]
            refine int_idx (v3.ext hA3.e) hi' fun _ a0 => ⟨_, a0, ?_⟩
            refine int_idx (v5.ext hA3.e) hj' fun _ a0 => ⟨_, a0, ?_⟩
            simp only [hxa, hyc, hwr]
            intro w52 e52
            have z52 := e52.size
            refine Near_ok (h6.ext (hA3.e.trans e52)) hM hB he fun b w53 e53 hb => ⟨kp_ext e53 (by (intro b hb; simp only [List.mem_cons, List.not_mem_nil, or_false] at hb; omega)), fun w54 e54 => ?_⟩
            have z53 := e53.size; have z54 := e54.size
            have e42' := (e52.trans e53).trans e54
            have hA4 := hA3.ext e42'
            cases b with
            | true =>
              rw [Bool.not_true, cond_false]
              refine hJ3 _ _ ⟨N', hA4, by omega, n20, by omega, hNa', fun _ _ r => r, fun _ => ?_⟩
              obtain ⟨a', c', d, r1, r2, r3, r4⟩ := hb rfl
              exact .inr ⟨a', c', d, by rw [p1]; exact r1, by rw [q2]; exact r2, r3, r4⟩
            | false =>
              rw [Bool.not_false, cond_true]
              refine int_idx (v3.ext hA4.e) hi' fun _ a0 => ⟨_, a0, ?_⟩
              refine int_idx (v5.ext hA4.e) hj' fun _ a0 => ⟨_, a0, ?_⟩
              simp only [hxa, hyc]
              intro w59 e59
              have z59 := e59.size
              refine (hA4.ext e59).push' (R := RW) (x := ((a : Int), (c : Int), yW p0 + yW q0, (v : Int), -1)) (by omega) (by omega) fun w62 s63 w64 e62 c64 hs63 hA5 => ?_
              have z62 := e62.size
              have z64 := c64.size
              refine ⟨kp_chg c64 fun b hb => ?_, fun w65 e65 => ?_⟩
              · simp only [List.mem_cons, List.not_mem_nil, or_false] at hb
                rcases hb with rfl | rfl | rfl
                · exact ⟨by omega, fun hk => by have := hA2.o.lt hk; omega⟩
                · exact ⟨by omega, n20⟩
                · exact ⟨by omega, fun hk => by have := hA2.f _ hk; omega⟩
              · have z65 := e65.size
                refine hJ3 _ _ ⟨_, hA5.ext e65, by omega, fun hk => ?_, by simp only [List.length_append, List.length_cons, List.length_nil]; omega, fun y hy => ?_, fun p q r => r.app, fun _ => .inl ⟨_, List.mem_append_right _ (List.mem_singleton.2 rfl), p1.symm, q2.symm, rfl⟩⟩
                · rcases hs63 _ hk with r | r
                  · exact n20 r
                  · omega
                · rcases List.mem_append.1 hy with r | r
                  · exact hNa' y r
                  · rw [List.mem_singleton] at r; subst r
                    exact ⟨p0, hp0, q0, hq0, p1, p2, q1, q2, rfl, rfl, rfl, hne⟩
          · rw [show ((a : Int) != (c : Int)) = false by rw [bne_eq_false_iff_eq]; omega, cond_false]
            intro w66 e66
            exact hJ3 _ _ ⟨N', hA3.ext e66, by have := e66.size; omega, n20, by omega, hNa', fun _ _ r => r, fun r => absurd (by rw [p1, q2]; omega) r⟩
        · rintro ⟨u'', _⟩ w68 ⟨N'', r1, r2, r3, r4, r5, r6, r7⟩
          refine hJ2 (j + 1, N'') _ _ ⟨wsucc (m := 2 ^ 40) (by omega) (by omega), by simp only; omega, r1, r2, r3, r4, r5, fun k hk hki p hp q hqm s1 s2 s3 s4 => r6 _ _ (hNb' k hk hki p hp q hqm s1 s2 s3 s4), fun k hk hkj q hqm s1 s2 s3 => ?_⟩ (by simp only; omega)
          simp only at hkj
          by_cases e : k = j
          · subst e
            have := uq0 q hqm s1 s2
            subst this
            exact r7 s3
          · exact r6 _ _ (hNc k hk (by omega) q hqm s1 s2 s3)
      · rw [if_neg hcj]
        have : j = ys.length := by omega
        subst this
        refine hJ _ _ ⟨N', hA2, by rw [Nat.succ_mul]; exact hNl', hNa', fun k hk hki p hp q hqm s1 s2 s3 s4 => ?_⟩
        by_cases e : k = i
        · subst e
          have : p = p0 := hq.same hp hp0 (by rw [s1, p1, hxa]) (by rw [s2, p2])
          subst this
          obtain ⟨⟨_, _, _⟩, ⟨c, hcn, hcT⟩, _⟩ := he q hqm
          have hcy : yT q ∈ ys := (m5 _).2 ⟨c, hcn, hasF_of hq hqm s3 hcT, hcT⟩
          obtain ⟨k', hk', hke⟩ := List.getElem_of_mem hcy
          exact hNc k' hk' hk' q hqm s3 hke.symm s4
        · exact hNb' k hk (by omega) p hp q hqm s1 s2 s3 s4
    · rintro ⟨u', _⟩ w70 ⟨N', r1, r2, r3, r4⟩
      exact hJ1 (i + 1, N') _ _ ⟨wsucc (m := 2 ^ 40) (by omega) (by omega), by simp only; omega, r1, r2, r3, r4⟩ (by simp only; omega)
  · rw [if_neg hc]
    have : i = xs.length := by omega
    subst this
    refine hK u w9 N (e06.trans hA.e) hA.o (fun k hk => by have := hA.f k hk; have := e06.size; omega) (Nat.le_trans hNl (Nat.mul_le_mul b3 b5)) ⟨hNa, fun p hp q hqm s1 s2 s3 => ?_⟩
    obtain ⟨⟨a, han, haF⟩, _⟩ := he p hp
    have hax : yF p ∈ xs := (m3 _).2 ⟨a, han, hasF_of hq hp haF s1, haF⟩
    obtain ⟨k, hk, hke⟩ := List.getElem_of_mem hax
    exact hNb k hk hk p hp q hqm hke.symm s1 s2 s3
end
end Go.Sh

/- A way is put; a place is taken. -/
set_option maxRecDepth 100000
namespace Go.Sh
open Go.RowKit

section
variable {w w' : World} {n : Nat} {sI sL sO : SV} {inn lost : Nat → Int} {L : List Wy}

theorem Put8_ok {a c : Nat} {wt mid : Int} {K : Int → SV → SV → SV → Bool → World → Prop} (h : LeftV w n sI sL sO inn L lost) (ha : a < n) (hia : inn a = 1) (hc : c < n) (hic : inn c = 1) (hne : a ≠ c) (hw : 0 ≤ wt) (hm : 0 ≤ mid) (hq : Uq L)
    (hK : ∀ s b w', Ext w w' → (s = sL ∧ ∃ z ∈ L, yF z = (a : Int) ∧ yT z = (c : Int) ∧ yW z ≤ wt) ∨
      (Own RW w' s (L.filter (offE a c) ++ [((a : Int), (c : Int), wt, mid, -1)]) ∧ Fsh w s ∧ ∀ z ∈ L, yF z = (a : Int) → yT z = (c : Int) → wt ≤ yW z) → K n sI s sO b w') : sh_postroadref08_Put n sI sL sO a c wt mid K w := by
  unfold sh_postroadref08_Put
  intro b1 w2 e2 g1 g1' b3 w4 e4 g3 g3'
  have z2 := e2.size; have z4 := e4.size
  have hk40 := h.k; have hl := h.l.len
  have e04 := e2.trans e4
  refine Way_ok (h.ext e04) fun w9 e9 => ⟨kp_ext e9 (by (intro b hb; simp only [List.mem_cons, List.not_mem_nil, or_false] at hb; omega)), ?_⟩
  have z9 := e9.size
  intro b10 w11 e11 g10 g10' w12 o12
  have z11 := e11.size; have z12 := o12.size
  have e012 : Ext w w12 := ext_off ((e04.trans e9).trans e11) o12 (by omega)
  refine Join.cut (fun _ w' => Ext w w' ∧ w12.heap.size ≤ w'.heap.size ∧ ∀ z ∈ L, yF z = (a : Int) → yT z = (c : Int) → wt ≤ yW z) (fun J hJ => ?_) ?_
  · refine is_ok (h.ext e012) fun w15 e15 => ⟨kp_ext e15 (by (intro b hb; simp only [List.mem_cons, List.not_mem_nil, or_false] at hb; omega)), ?_⟩
    have z15 := e15.size
    rw [isF_of ha hia, Bool.not_true, cond_false]
    refine is_ok (h.ext (e012.trans e15)) fun w18 e18 => ⟨kp_ext e18 (by (intro b hb; simp only [List.mem_cons, List.not_mem_nil, or_false] at hb; omega)), ?_⟩
    have z18 := e18.size
    have e018 := (e012.trans e15).trans e18
    rw [isF_of hc hic, Bool.not_true, cond_false, show ((a : Int) == (c : Int)) = false by rw [beq_eq_false_iff_ne]; omega, cond_false, Bool.cond_decide, if_neg (by omega), Bool.cond_decide, if_neg (by omega), wayF_has]
    by_cases hh : hasF L a c = true
    · obtain ⟨y, hy, y1, y2, y3⟩ := hasF_way hh
      rw [hh, cond_true, y3, Bool.cond_decide]
      by_cases hle : yW y ≤ wt
      · rw [if_pos hle]
        intro w23 o23
        exact hK sL false w23 (ext_off e018 o23 (by omega)) (.inl ⟨rfl, y, hy, y1, y2, hle⟩)
      · rw [if_neg hle]
        refine hJ _ _ ⟨e018, by omega, fun z hz z1 z2 => ?_⟩
        have := hq.same hz hy (z1.trans y1.symm) (z2.trans y2.symm)
        subst this; omega
    · have hh' := hh
      rw [Bool.not_eq_true] at hh'
      rw [hh', cond_false]
      exact hJ _ _ ⟨e018, by omega, fun z hz z1 z2 => absurd (hasF_of hq hz z1 z2) hh⟩
  · rintro _ w25 ⟨e25, z25, hmin⟩
    refine Join.cut (fun (x : SV × Unit) w' => Acc RW w w25.heap.size w' x.1 (L.filter (offE a c))) (fun J hJ => ?_) ?_
    · refine LoopT.gh (γ := Nat) (fun i (st : SV × Int × Unit) w' => st.2.1 = i ∧ i ≤ L.length ∧ Acc RW w w25.heap.size w' st.1 ((L.take i).filter (offE a c))) (fun i => L.length - i) 0 ⟨rfl, Nat.zero_le _, Acc.nil e25 e25.size (Nat.le_refl _)⟩ ?_
      rintro i ⟨u, x, _⟩ w29 ⟨hx, hi, hA⟩ J1 hJ1
      simp only at hx hA
      subst hx
      dsimp only
      have z29 := hA.z
      rw [Bool.cond_decide]
      by_cases hci : (i : Int) < (sL.len : Int)
      · rw [if_pos hci]
        have hi' : i < L.length := by omega
        have hfl := List.length_filter_le (offE a c) (L.take i)
        rw [List.length_take] at hfl
        refine Join.cut (fun (x : SV × Unit) w' => Acc RW w w25.heap.size w' x.1 ((L.take (i + 1)).filter (offE a c))) (fun J2 hJ2 => ?_) ?_
        · rw [take_snoc' hi', List.filter_append] at hJ2
          have push : offE a c L[i] = true → NewB [(.int .i64 (yF L[i])), (.int .i64 (yT L[i])), (.int .i64 (yW L[i])), (.int .i64 (yM L[i])), (.int .i64 (yA L[i]))] w29 (fun b39 w40 => App 40 [(.int .i64 (0 : Int)), (.int .i64 (0 : Int)), (.int .i64 (0 : Int)), (.int .i64 (0 : Int)), (.int .i64 (0 : Int))] u ⟨(some ⟨b39, 0, none⟩), 1, 1⟩ w40 (fun s41 w42 => Keeps [b3, b10, b1] w40 w42 ∧ J2 (s41, ()) w42)) := fun ho => by
            refine hA.push (R := RW) (x := L[i]) (by omega) (by omega) fun w40 s41 w42 e40 c42 _ hA1 => ?_
            have z40 := e40.size
            refine ⟨hA.kp e40 c42 (by (intro b hb; simp only [List.mem_cons, List.not_mem_nil, or_false] at hb; omega)), hJ2 _ _ ?_⟩
            rw [List.filter_cons_of_pos ho]; exact hA1
          refine way_idx (h.l.ext hA.e) hi' fun _ _ a0 _ _ _ _ => ⟨_, a0, ?_⟩
          by_cases h1 : yF L[i] = (a : Int)
          · rw [show (yF L[i] != (a : Int)) = false by rw [bne_eq_false_iff_eq]; exact h1, cond_false]
            refine way_idx (h.l.ext hA.e) hi' fun _ _ _ a1 _ _ _ => ⟨_, a1, ?_⟩
            by_cases h2 : yT L[i] = (c : Int)
            · rw [show (yT L[i] != (c : Int)) = false by rw [bne_eq_false_iff_eq]; exact h2, cond_false]
              refine hJ2 _ _ ?_
              rw [List.filter_cons_of_neg (fun q => offE_iff.1 q ⟨h1, h2⟩)]
              simpa using hA
            · rw [show (yT L[i] != (c : Int)) = true by rw [bne_iff_ne]; exact h2, cond_true]
              exact way_idx (h.l.ext hA.e) hi' fun _ _ a0 a1 a2 a3 a4 => ⟨_, a0, _, a1, _, a2, _, a3, _, a4, push (offE_iff.2 fun q => h2 q.2)⟩
          · rw [show (yF L[i] != (a : Int)) = true by rw [bne_iff_ne]; exact h1, cond_true]
            exact way_idx (h.l.ext hA.e) hi' fun _ _ a0 a1 a2 a3 a4 => ⟨_, a0, _, a1, _, a2, _, a3, _, a4, push (offE_iff.2 fun q => h1 q.1)⟩
        · rintro ⟨u', _⟩ w56 hA'
          exact hJ1 (i + 1) _ _ ⟨wsucc (m := 2 ^ 40) (by omega) (by omega), by omega, hA'⟩ (by omega)
      · rw [if_neg hci]
        have : i = L.length := by omega
        subst this
        rw [List.take_length] at hA
        exact hJ _ _ hA
    · rintro ⟨u, _⟩ w58 hA
      simp only at hA
      have z58 := hA.z
      have hfl := List.length_filter_le (offE a c) L
      refine hA.push (R := RW) (x := ((a : Int), (c : Int), wt, mid, -1)) (by omega) (by omega) fun w60 s61 w62 e60 c62 _ hA1 => ?_
      have z60 := e60.size
      refine ⟨hA.kp e60 c62 (by (intro b hb; simp only [List.mem_cons, List.not_mem_nil, or_false] at hb; omega)), fun w63 o63 w64 o64 => ?_⟩
      have hA2 := (hA1.off o63 (by omega) (by omega)).off o64 (by omega) (by omega)
      exact hK s61 true w64 hA2.e (.inr ⟨hA2.o, fun k hk => by have := hA2.f k hk; have := e25.size; omega, hmin⟩)

def goneF (v : Nat) (y : Wy) : Bool := decide (yF y ≠ (v : Int) ∧ yT y ≠ (v : Int))
theorem Take8_ok {v : Nat} {K : Int → SV → SV → SV → Bool → World → Prop} (h : LeftV w n sI sL sO inn L lost) (hv : v < n) (hiv : inn v = 1)
    (hK : ∀ sI' sL' sO' lost' w', Ext w w' → LeftV w' n sI' sL' sO' (up1 inn v 0) (L.filter (goneF v)) lost' → Fsh w sI' → Fsh w sL' → Fsh w sO' → (∀ k, sI'.blk k → k < w'.heap.size) → (∀ k, sL'.blk k → k < w'.heap.size) → (∀ k, sO'.blk k → k < w'.heap.size) → K n sI' sL' sO' true w') : sh_postroadref08_Take n sI sL sO v K w := by
  unfold sh_postroadref08_Take
  intro b1 w2 e2 g1 g1' b3 w4 e4 g3 g3'
  have z2 := e2.size; have z4 := e4.size
  have hk40 := h.k; have hl := h.l.len; have hn := h.n40
  have e04 := e2.trans e4
  refine is_ok (h.ext e04) fun w6 e6 => ⟨kp_ext e6 (by (intro b hb; simp only [List.mem_cons, List.not_mem_nil, or_false] at hb; omega)), ?_⟩
  have z6 := e6.size
  rw [isF_of hv hiv, Bool.not_true, cond_false]
  intro b8 w9 e9 g8 g8' w10 o10
  have z9 := e9.size; have z10 := o10.size
  have e10 : Ext w w10 := ext_off ((e04.trans e6).trans e9) o10 (by omega)
  refine Join.cut (fun (x : (Int × SV × SV × SV × Unit) × Unit) w' => x.1.1 = n ∧ x.1.2.2.1 = ⟨none, 0, 0⟩ ∧ ∃ lo, Acc RI w w10.heap.size w' x.1.2.1 (fi n (up1 inn v 0)) ∧ Acc RI w w10.heap.size w' x.1.2.2.2.1 (fi n lo) ∧ Dj x.1.2.1.blk x.1.2.2.2.1.blk) (fun J hJ => ?_) ?_
  · refine LoopT.gh (γ := Nat × (Nat → Int)) (fun g (st : Int × (Int × SV × SV × SV × Unit) × Unit) w' => st.1 = g.1 ∧ g.1 ≤ n ∧ st.2.1.1 = n ∧ st.2.1.2.2.1 = ⟨none, 0, 0⟩ ∧ Acc RI w w10.heap.size w' st.2.1.2.1 (fi g.1 (up1 inn v 0)) ∧ Acc RI w w10.heap.size w' st.2.1.2.2.2.1 (fi g.1 g.2) ∧ Dj st.2.1.2.1.blk st.2.1.2.2.2.1.blk) (fun g => n - g.1) (0, fun _ => 0)
      ⟨rfl, Nat.zero_le _, rfl, rfl, Acc.nil e10 e10.size (Nat.le_refl _), Acc.nil e10 e10.size (Nat.le_refl _), fun _ ⟨_, h, _⟩ => (by cases h)⟩ ?_
    rintro ⟨i, lo⟩ ⟨x, ⟨m, tI, tL, tO, _⟩, _⟩ w14 ⟨hx, hi, hm, htL, hI, hO, d⟩ J1 hJ1
    simp only at hx hi hm htL hI hO d
    subst hx hm htL
    dsimp only
    have z14 := hI.z
    rw [Bool.cond_decide]
    by_cases hc : (i : Int) < (n : Int)
    · rw [if_pos hc]
      have hi' : i < n := by omega
      refine fi_rd (h.i.ext hI.e) hi' fun _ r1 => ⟨_, r1, ?_⟩
      refine fi_rd (h.o.ext hI.e) hi' fun _ r2 => ⟨_, r2, ?_⟩
      refine Way_ok (h.ext hI.e) fun w23 e23 => ⟨kp_ext e23 (by (intro b hb; simp only [List.mem_cons, List.not_mem_nil, or_false] at hb; omega)), ?_⟩
      have z23 := e23.size
      intro b24 w25 e25 g24 g24' w26 o26
      have z25 := e25.size; have z26 := o26.size
      have e14a : Ext w14 w26 := ext_off (e23.trans e25) o26 (by omega)
      refine Way_ok (h.ext (hI.e.trans e14a)) fun w31 e31 => ⟨kp_ext e31 (by (intro b hb; simp only [List.mem_cons, List.not_mem_nil, or_false] at hb; omega)), ?_⟩
      have z31 := e31.size
      intro b32 w33 e33 g32 g32' w34 o34
      have z33 := e33.size; have z34 := o34.size
      have e14b : Ext w14 w34 := ext_off ((e14a.trans e31).trans e33) o34 (by omega)
      rw [wayF_has, wayF_has]
      refine Join.cut (fun (x : Int × Unit) w' => x.1 = up1 inn v 0 i ∧ w' = w34) (fun J' hJ' => ?_) ?_
      · by_cases e : i = v
        · subst e
          rw [show ((i : Int) == (i : Int)) = true from beq_self_eq_true _, cond_true]
          exact hJ' _ _ ⟨up1_at.symm, rfl⟩
        · rw [show ((i : Int) == (v : Int)) = false by rw [beq_eq_false_iff_ne]; omega, cond_false]
          exact hJ' _ _ ⟨(up1_ne e).symm, rfl⟩
      rintro ⟨x36, _⟩ w37 ⟨hx36, rfl⟩
      simp only at hx36; subst hx36
      refine Join.cut (fun (x : Int × Unit) w' => w' = w37) (fun J' hJ' => ?_) ?_
      · cases hasF L v i with
        | true => rw [cond_true]; exact hJ' _ _ rfl
        | false =>
          rw [cond_false]
          cases hasF L i v with
          | true => rw [cond_true]; exact hJ' _ _ rfl
          | false => rw [cond_false]; exact hJ' _ _ rfl
      rintro ⟨x39, _⟩ w40 rfl
      dsimp only
      have hI1 := hI.ext e14b; have hO1 := hO.ext e14b
      refine hI1.push (R := RI) (x := up1 inn v 0 i) (by rw [fi_len]; omega) (by rw [fi_len]; omega) fun w42 s43 w44 e42 c44 hs43 hI2 => ?_
      have z42 := e42.size; have z44 := c44.size
      refine ⟨hI.kp (e14b.trans e42) c44 (by (intro b hb; simp only [List.mem_cons, List.not_mem_nil, or_false] at hb; omega)), fun w45 o45 => ?_⟩
      have hO2 := hO1.other e42 c44 d.symm hI2.e
      have d2 := hO1.dj d hs43
      have hI3 := hI2.off o45 (by omega) (by omega); have hO3 := hO2.off o45 (by omega) (by omega)
      have z45 := o45.size
      refine hO3.push (R := RI) (x := x39) (by rw [fi_len]; omega) (by rw [fi_len]; omega) fun w47 s48 w49 e47 c49 hs48 hO4 => ?_
      have z47 := e47.size
      refine ⟨kp_chg c49 fun b hb => ?_, fun w50 o50 => ?_⟩
      · simp only [List.mem_cons, List.not_mem_nil, or_false] at hb
        refine ⟨by omega, fun hk => ?_⟩
        have := hO.f _ hk; have := hO.o.lt hk
        omega
      have hI4 := hI3.other e47 c49 d2 hO4.e
      refine hJ1 (i + 1, fun j => if j = i then x39 else lo j) _ _ ⟨wsucc (m := 2 ^ 40) (by omega) (by omega), by simp only; omega, rfl, rfl, ?_, ?_, (hI3.dj d2.symm hs48).symm⟩ (by simp only; omega)
      · simp only; rw [fi_succ]; exact hI4.off o50 (by omega) (by omega)
      · simp only
        rw [fi_succ, if_pos rfl, show fi i (fun j => if j = i then x39 else lo j) = fi i lo from fi_congr fun j hj => by rw [if_neg (by omega)]]
        exact hO4.off o50 (by omega) (by omega)
    · rw [if_neg hc]
      have : i = n := by omega
      subst this
      exact hJ _ _ ⟨rfl, rfl, lo, hI, hO, d⟩
  · rintro ⟨⟨m, tI, tL, tO, _⟩, _⟩ w52 ⟨hm, htL, lo, hI, hO, d⟩
    simp only at hm htL hI hO d
    subst hm htL
    dsimp only
    have z52 := hI.z
    refine Join.cut (fun (x : (Int × SV × SV × SV × Unit) × Unit) w' => x.1.1 = n ∧ x.1.2.1 = tI ∧ x.1.2.2.2.1 = tO ∧ Acc RI w w10.heap.size w' tI (fi n (up1 inn v 0)) ∧ Acc RI w w10.heap.size w' tO (fi n lo) ∧ Acc RW w w10.heap.size w' x.1.2.2.1 (L.filter (goneF v))) (fun J hJ => ?_) ?_
    · refine LoopT.gh (γ := Nat) (fun i (st : Int × (Int × SV × SV × SV × Unit) × Unit) w' => st.1 = i ∧ i ≤ L.length ∧ st.2.1.1 = n ∧ st.2.1.2.1 = tI ∧ st.2.1.2.2.2.1 = tO ∧ Acc RI w w10.heap.size w' tI (fi n (up1 inn v 0)) ∧ Acc RI w w10.heap.size w' tO (fi n lo) ∧ Acc RW w w10.heap.size w' st.2.1.2.2.1 ((L.take i).filter (goneF v)) ∧
          Dj tI.blk st.2.1.2.2.1.blk ∧ Dj tO.blk st.2.1.2.2.1.blk) (fun i => L.length - i) 0
        ⟨rfl, Nat.zero_le _, rfl, rfl, rfl, hI, hO, Acc.nil hI.e hI.m hI.z, fun _ _ ⟨_, h, _⟩ => (by cases h), fun _ _ ⟨_, h, _⟩ => (by cases h)⟩ ?_
      rintro i ⟨x, ⟨m, rI, rL, rO, _⟩, _⟩ w56 ⟨hx, hi, hm, hrI, hrO, hI, hO, hL, d1, d2⟩ J1 hJ1
      simp only at hx hm hrI hrO hI hO hL d1 d2
      subst hx hm hrI hrO
      dsimp only
      have z56 := hI.z
      rw [Bool.cond_decide]
      by_cases hci : (i : Int) < (sL.len : Int)
      · rw [if_pos hci]
        have hi' : i < L.length := by omega
        have hfl := List.length_filter_le (goneF v) (L.take i)
        rw [List.length_take] at hfl
        refine Join.cut (fun (x : (Int × SV × SV × SV × Unit) × Unit) w' => x.1.1 = n ∧ x.1.2.1 = rI ∧ x.1.2.2.2.1 = rO ∧ Acc RI w w10.heap.size w' rI (fi n (up1 inn v 0)) ∧ Acc RI w w10.heap.size w' rO (fi n lo) ∧ Acc RW w w10.heap.size w' x.1.2.2.1 ((L.take (i + 1)).filter (goneF v)) ∧
          Dj rI.blk x.1.2.2.1.blk ∧ Dj rO.blk x.1.2.2.1.blk) (fun J2 hJ2 => ?_) ?_
        · rw [take_snoc' hi', List.filter_append] at hJ2
          have skip : ¬ goneF v L[i] = true → J2 (((n : Int), rI, rL, rO, ()), ()) w56 := fun hg => hJ2 _ _ ⟨rfl, rfl, rfl, hI, hO, by rw [List.filter_cons_of_neg hg]; simpa using hL, d1, d2⟩
          refine way_idx (h.l.ext hI.e) hi' fun _ _ a0 _ _ _ _ => ⟨_, a0, ?_⟩
          by_cases h1 : yF L[i] = (v : Int)
          · rw [show (yF L[i] != (v : Int)) = false by rw [bne_eq_false_iff_eq]; exact h1, cond_false]
            exact skip fun q => (of_decide_eq_true q).1 h1
          rw [show (yF L[i] != (v : Int)) = true by rw [bne_iff_ne]; exact h1, cond_true]
          refine way_idx (h.l.ext hI.e) hi' fun _ _ _ a1 _ _ _ => ⟨_, a1, ?_⟩
          by_cases h2 : yT L[i] = (v : Int)
          · rw [show (yT L[i] != (v : Int)) = false by rw [bne_eq_false_iff_eq]; exact h2, cond_false]
            exact skip fun q => (of_decide_eq_true q).2 h2
          rw [show (yT L[i] != (v : Int)) = true by rw [bne_iff_ne]; exact h2, cond_true]
          refine way_idx (h.l.ext hI.e) hi' fun _ _ a0 a1 a2 a3 a4 => ⟨_, a0, _, a1, _, a2, _, a3, _, a4, ?_⟩
          intro w68 e68
          have hL1 := hL.ext e68
          refine hL1.push' (R := RW) (x := L[i]) (by omega) (by omega) fun w71 s72 w73 e71 c73 hs72 hL2 => ?_
          have z68 := e68.size; have z71 := e71.size; have z73 := c73.size
          refine ⟨hL1.kp e71 c73 (by (intro b hb; simp only [List.mem_cons, List.not_mem_nil, or_false] at hb; omega)), fun w74 e74 w75 o75 w76 e76 => ?_⟩
          have z74 := e74.size
          have fin : ∀ {s : SV} {xs : List Int}, Acc RI w w10.heap.size w73 s xs → Acc RI w w10.heap.size w76 s xs := fun hh => ((hh.ext e74).off o75 (by omega) (by omega)).ext e76
          refine hJ2 _ _ ⟨rfl, rfl, rfl, fin ((hI.ext e68).other e71 c73 d1 hL2.e), fin ((hO.ext e68).other e71 c73 d2 hL2.e), ?_, ((hI.ext e68).dj d1.symm hs72).symm, ((hO.ext e68).dj d2.symm hs72).symm⟩
          rw [List.filter_cons_of_pos (show goneF v L[i] = true from decide_eq_true ⟨h1, h2⟩)]
          exact ((hL2.ext e74).off o75 (by omega) (by omega)).ext e76
        · rintro ⟨⟨m, qI, qL, qO, _⟩, _⟩ w78 ⟨hm, hqI, hqO, r1, r2, r3, r4, r5⟩
          simp only at hm hqI hqO r1 r2 r3 r4 r5
          subst hm hqI hqO
          exact hJ1 (i + 1) _ _ ⟨wsucc (m := 2 ^ 40) (by omega) (by omega), by omega, rfl, rfl, rfl, r1, r2, r3, r4, r5⟩ (by omega)
      · rw [if_neg hci]
        have : i = L.length := by omega
        subst this
        rw [List.take_length] at hL
        exact hJ _ _ ⟨rfl, rfl, rfl, hI, hO, hL⟩
    · rintro ⟨⟨m, rI, rL, rO, _⟩, _⟩ w80 ⟨hm, hrI, hrO, hI, hO, hL⟩ w81 o81
      simp only at hm hrI hrO hI hO hL
      subst hm hrI hrO
      have hI := hI.off o81 (by omega) (by omega); have hL := hL.off o81 (by omega) (by omega); have hO := hO.off o81 (by omega) (by omega)
      have hfl := List.length_filter_le (goneF v) L
      exact hK _ _ _ lo w81 hI.e ⟨hI.o.view, hL.o.view, hO.o.view, by omega, hn⟩ (fun k hk => by have := hI.f k hk; have := hI.m; omega) (fun k hk => by have := hL.f k hk; have := hI.m; omega) (fun k hk => by have := hO.f k hk; have := hI.m; omega) (fun k hk => hI.o.lt hk) (fun k hk => hL.o.lt hk) (fun k hk => hO.o.lt hk)
end
end Go.Sh

/- The reference hierarchy of a map. -/
set_option maxRecDepth 100000
namespace Go.Sh
open Go.RowKit

theorem kept_ex {N : Int} {arcs : List Arc} (ok : OkMap N arcs) : ∀ (m k : Nat), (wtA arcs k).toNat * arcs.length + k = m → k < arcs.length → frA arcs k ≠ toA arcs k → ∃ j, j < arcs.length ∧ Kept arcs j ∧ Same arcs j k ∧ wtA arcs j ≤ wtA arcs k := by
  intro m
  induction m using Nat.strongRecOn with
  | ind m ih =>
    intro k hm hk hne
    by_cases h : Kept arcs k
    · exact ⟨k, hk, h, .refl _ _, Int.le_refl _⟩
    · have : ∃ i, i < arcs.length ∧ Same arcs i k ∧ Less arcs i k := by
        apply Classical.byContradiction
        intro hno
        exact h ⟨hne, fun i hi hs hl => hno ⟨i, hi, hs, hl⟩⟩
      obtain ⟨i, hi, hs, hl⟩ := this
      have wi : 0 ≤ wtA arcs i := (ok.at hi).2.2.2.2.1
      have wk : 0 ≤ wtA arcs k := (ok.at hk).2.2.2.2.1
      have hlt : (wtA arcs i).toNat * arcs.length + i < m := by
        rcases hl with h1 | ⟨h1, h2⟩
        · have := Nat.mul_le_mul_right arcs.length (show (wtA arcs i).toNat + 1 ≤ (wtA arcs k).toNat by omega)
          rw [Nat.succ_mul] at this; omega
        · rw [h1]; omega
      obtain ⟨j, j1, j2, j3, j4⟩ := ih _ hlt i rfl hi (by rw [hs.1, hs.2]; exact hne)
      refine ⟨j, j1, j2, j3.trans hs, ?_⟩
      rcases hl with h1 | ⟨h1, _⟩ <;> omega

def BB (k : Nat) : Int := ((2147483648 * 2 ^ k : Nat) : Int)
theorem BB_succ (k : Nat) : 2 * BB k = BB (k + 1) := by unfold BB; rw [Nat.pow_succ]; omega
theorem BB_le {k : Nat} (h : k ≤ 12) : BB k ≤ 8796093022208 := by
  unfold BB
  have := Nat.pow_le_pow_right (n := 2) (by decide) h
  omega
theorem BB_nn (k : Nat) : 0 ≤ BB k := by unfold BB; omega

theorem EA_arc9 {N : Int} {arcs : List Arc} {u v : Nat} {x : Int} (h : EA arcs u v x) (ok : OkMap N arcs) : ∃ k, k < arcs.length ∧ arcA arcs k = ((u : Int), (v : Int), x) ∧ frA arcs k = u ∧ toA arcs k = v ∧ wtA arcs k = x := by
  obtain ⟨k, hk⟩ := h
  obtain ⟨h1, h2⟩ := List.getElem?_eq_some_iff.1 hk
  rw [arcA_get h1] at h2
  exact ⟨k, h1, h2, by unfold frA; rw [h2]; exact Int.toNat_natCast u, by unfold toA; rw [h2]; exact Int.toNat_natCast v, by unfold wtA; rw [h2]⟩

theorem begin8 {n : Nat} {arcs : List Arc} {L : List Wy} (ok : OkMap (n : Int) arcs) (hq : Uq L) (hm : ∀ y, y ∈ L ↔ ∃ k, k < arcs.length ∧ Kept arcs k ∧ y = wyK arcs k) : Ctr (EA arcs) arcs n 0 (BB 0) L [] (fun _ => (n : Int)) := by
  refine Ctr.begin (fun u v x h => ?_) (fun u v x h hu => ?_) hq (fun y hy => ?_) (fun y hy => ?_) (fun u v x h => ?_) fun u v x h hne hu => ?_
  · obtain ⟨k, hk, hA, _⟩ := EA_arc9 h ok
    have := (ok.at hk).2.2.2.2.1; rw [hA] at this; exact this
  · obtain ⟨k, hk, _, _, ht, _⟩ := EA_arc9 h ok
    have := ok.to hk; omega
  · obtain ⟨k, hk, hK, rfl⟩ := (hm y).1 hy
    have f := ok.fr hk; have t := ok.to hk; have a := ok.at hk
    refine ⟨⟨frA arcs k, by omega, f.1⟩, ⟨toA arcs k, by omega, t.1⟩, fun e => hK.1 ?_, a.2.2.2.2.1, ?_⟩
    · have e : (arcA arcs k).1 = (arcA arcs k).2.1 := e
      omega
    · have := a.2.2.2.2.2
      show (arcA arcs k).2.2 ≤ BB 0
      unfold BB; simpa using this
  · obtain ⟨k, hk, hK, rfl⟩ := (hm y).1 hy
    exact ⟨rfl, k, rfl, by rw [List.getElem?_eq_getElem hk, arcA_get hk]; rfl⟩
  · obtain ⟨y, hy, h1, h2, h3⟩ := h
    obtain ⟨k, hk, hK, rfl⟩ := (hm y).1 hy
    refine ⟨k, ?_⟩
    rw [List.getElem?_eq_getElem hk, arcA_get hk]
    have h1 : (arcA arcs k).1 = (u : Int) := h1
    have h2 : (arcA arcs k).2.1 = (v : Int) := h2
    have h3 : (arcA arcs k).2.2 = x := h3
    rw [← h1, ← h2, ← h3]
  · obtain ⟨k, hk, hA, hf, ht, hw⟩ := EA_arc9 h ok
    obtain ⟨j, j1, j2, j3, j4⟩ := kept_ex ok _ k rfl hk (by omega)
    have f := ok.fr j1; have t := ok.to j1
    exact ⟨wtA arcs j, by omega, wyK arcs j, (hm _).2 ⟨j, j1, j2, rfl⟩, by show (arcA arcs j).1 = _; rw [f.1, j3.1, hf], by show (arcA arcs j).2.1 = _; rw [t.1, j3.2, ht], rfl⟩

section
variable {E : Nat → Nat → Int → Prop} {arcs : List (Int × Int × Int)} {n k : Nat} {B : Int} {L H : List Wy} {r : Nat → Int}
theorem Ctr.left (h : Ctr E arcs n k B L H r) (hk : k < n) : ∃ v, v < n ∧ r v = n := by
  apply Classical.byContradiction
  intro hno
  have hno : ∀ v, v < n → 0 ≤ r v ∧ r v < k := fun v hv => (h.r1 v hv).elim (fun q => absurd ⟨v, hv, q⟩ hno) id
  have hnd : ((List.range n).map r).Nodup := by
    rw [List.nodup_iff_pairwise_ne, List.pairwise_map]
    refine List.Pairwise.imp_of_mem (fun {a c} ha hc hne e => ?_) List.pairwise_lt_range
    have := h.r2 a c (List.mem_range.1 ha) (List.mem_range.1 hc) e (hno a (List.mem_range.1 ha)).2
    omega
  have := sub_len _ ((List.range k).map fun (i : Nat) => (i : Int)) hnd fun x hx => by
    obtain ⟨v, hv, rfl⟩ := List.mem_map.1 hx
    have := hno v (List.mem_range.1 hv)
    rw [List.mem_map]
    exact ⟨(r v).toNat, List.mem_range.2 (by omega), by omega⟩
  simp only [List.length_map, List.length_range] at this
  omega
end

/-- The ways out of a place, as the code lays them. -/
def outW (L : List Wy) (v : Nat) (xs : List Int) : List Wy := xs.map fun c => ((v : Int), c, (wayF L v c).1, (wayF L v c).2.1, (wayF L v c).2.2.1)
def inW (L : List Wy) (v : Nat) (xs : List Int) : List Wy := xs.map fun c => (c, (v : Int), (wayF L c v).1, (wayF L c v).2.1, (wayF L c v).2.2.1)
theorem selL_nodup (p : Nat → Bool) (n : Nat) : (selL p n).Pairwise (· ≠ ·) := by
  unfold selL
  rw [List.pairwise_map]
  exact (List.Pairwise.filter _ List.pairwise_lt_range).imp fun h e => by omega
theorem outW_mem {L : List Wy} {n v : Nat} {M : Int} (hq : Uq L) (he : ∀ y ∈ L, Ends (fun u => u < n) M y) (y : Wy) : y ∈ outW L v (outsF L n v) ↔ y ∈ L ∧ yF y = (v : Int) := by
  unfold outW
  rw [List.mem_map]
  constructor
  · rintro ⟨x, hx, rfl⟩
    obtain ⟨c, hc, hF, rfl⟩ := mem_selL.1 hx
    obtain ⟨z, hz, z1, z2, z3⟩ := hasF_way hF
    rw [z3]
    have : ((v : Int), (c : Int), yW z, yM z, yA z) = z := by rw [← z1, ← z2]; rfl
    simp only [this]
    exact ⟨hz, z1⟩
  · rintro ⟨hy, h1⟩
    obtain ⟨_, ⟨c, hc, h2⟩, _⟩ := he y hy
    have hF := hasF_of hq hy h1 h2
    refine ⟨(c : Int), mem_selL.2 ⟨c, hc, hF, rfl⟩, ?_⟩
    obtain ⟨z, hz, z1, z2, z3⟩ := hasF_way hF
    have := hq.same hz hy (z1.trans h1.symm) (z2.trans h2.symm)
    subst this
    rw [z3, ← z1, ← z2]; rfl
theorem inW_mem {L : List Wy} {n v : Nat} {M : Int} (hq : Uq L) (he : ∀ y ∈ L, Ends (fun u => u < n) M y) (y : Wy) : y ∈ inW L v (insF L n v) ↔ y ∈ L ∧ yT y = (v : Int) := by
  unfold inW
  rw [List.mem_map]
  constructor
  · rintro ⟨x, hx, rfl⟩
    obtain ⟨c, hc, hF, rfl⟩ := mem_selL.1 hx
    obtain ⟨z, hz, z1, z2, z3⟩ := hasF_way hF
    rw [z3]
    have : ((c : Int), (v : Int), yW z, yM z, yA z) = z := by rw [← z1, ← z2]; rfl
    simp only [this]
    exact ⟨hz, z2⟩
  · rintro ⟨hy, h1⟩
    obtain ⟨⟨c, hc, h2⟩, _⟩ := he y hy
    have hF := hasF_of hq hy h2 h1
    refine ⟨(c : Int), mem_selL.2 ⟨c, hc, hF, rfl⟩, ?_⟩
    obtain ⟨z, hz, z1, z2, z3⟩ := hasF_way hF
    have := hq.same hz hy (z1.trans h2.symm) (z2.trans h1.symm)
    subst this
    rw [z3, ← z1, ← z2]; rfl
theorem outW_uq {L : List Wy} {v : Nat} {p : Nat → Bool} {n : Nat} : Uq (outW L v (selL p n)) := by
  unfold Uq outW
  rw [List.pairwise_map]
  exact (selL_nodup p n).imp fun h e => h e.2
theorem inW_uq {L : List Wy} {v : Nat} {p : Nat → Bool} {n : Nat} : Uq (inW L v (selL p n)) := by
  unfold Uq inW
  rw [List.pairwise_map]
  exact (selL_nodup p n).imp fun h e => h e.1

theorem Puts.ends {L N L1 : List Wy} {n v : Nat} {r : Nat → Int} {B : Int} (hP : Puts L N L1) (hN : ∀ y ∈ N, OfN L v y) (hL : ∀ y ∈ L, Ends (fun u => u < n ∧ r u = n) B y) (_hB : 0 ≤ B) : ∀ y ∈ L1, Ends (fun u => u < n ∧ r u = n) (2 * B) y := fun y hy => by
  rcases hP.o y hy with h | h
  · obtain ⟨h1, h2, h3, h4, h5⟩ := hL y h
    exact ⟨h1, h2, h3, h4, by omega⟩
  · obtain ⟨p, hp, q, hq, p1, _, _, q2, hw, _, _, hne⟩ := hN y h
    have a := hL p hp; have b := hL q hq
    exact ⟨by rw [← p1]; exact a.1, by rw [← q2]; exact b.2.1, hne, by have := a.2.2.2.1; have := b.2.2.2.1; omega, by have := a.2.2.2.2; have := b.2.2.2.2; omega⟩
theorem Ends.lt {n : Nat} {r : Nat → Int} {B : Int} {y : Wy} (h : Ends (fun u => u < n ∧ r u = n) B y) : Ends (fun u => u < n) B y := by
  obtain ⟨⟨a, a1, a2⟩, ⟨c, c1, c2⟩, h3⟩ := h
  exact ⟨⟨a, a1.1, a2⟩, ⟨c, c1.1, c2⟩, h3⟩
end Go.Sh

/- The reference hierarchy of a map: its walk. -/
set_option maxRecDepth 100000
namespace Go.Sh
open Go.RowKit

/-- The blocks of what is left. -/
def Lblk (sI sL sO : SV) (k : Nat) : Prop := sI.blk k ∨ sL.blk k ∨ sO.blk k
/-- Ranks as they lie in memory: 0 where none is told. -/
def rk0 (n : Nat) (r : Nat → Int) (v : Nat) : Int := if r v = n then 0 else r v

/-- Between two places taken. -/
structure BldM (w0 : World) (n0 b10 b13 : Nat) (arcs : List Arc) (n : Nat) (w : World) (sI sL sO sR sW : SV) (inn lost r : Nat → Int) (L H : List Wy) (k : Nat) : Prop where
  l : LeftV w n sI sL sO inn L lost
  rk : Acc RI w0 n0 w sR (fi n (rk0 n r))
  wy : Acc RW w0 n0 w sW H
  lb : ∀ i, Lblk sI sL sO i → i ≠ b10 ∧ i ≠ b13 ∧ i < w.heap.size
  dR : Dj (Lblk sI sL sO) sR.blk
  dW : Dj (Lblk sI sL sO) sW.blk
  dRW : Dj sR.blk sW.blk
  inn : ∀ v, v < n → (inn v = 1 ↔ r v = n)
  c : Ctr (EA arcs) arcs n k (BB k) L H r

section
variable {w : World} {n : Nat} {arcs : List Arc}
theorem LeftV.chgL {w w' : World} {n : Nat} {sI sL sO : SV} {inn lost : Nat → Int} {L : List Wy} {F : Nat → Prop} (h : LeftV w n sI sL sO inn L lost) (c : Chg F w w') (d : Dj (Lblk sI sL sO) F) : LeftV w' n sI sL sO inn L lost :=
  h.chg c (fun k hk => d k (.inl hk)) (fun k hk => d k (.inr (.inl hk))) (fun k hk => d k (.inr (.inr hk)))

/-- The ways that stand in are put, one by one. -/
theorem putLoop_ok {w0 w37 : World} {sI sL sO sR sW s36 : SV} {n0 b1 b3 b10 b13 : Nat} {inn lost r : Nat → Int} {L H N : List Wy} {v : Nat} {rl : List Int} {M : Int} {J : (Int × SV × SV × SV × Unit) × Unit → World → Prop}
    (hl : LeftV w37 n sI sL sO inn L lost) (hR : Acc RI w0 n0 w37 sR rl) (hW : Acc RW w0 n0 w37 sW H) (hlb : ∀ i, Lblk sI sL sO i → i ≠ b10 ∧ i ≠ b13 ∧ i < w37.heap.size) (hdR : Dj (Lblk sI sL sO) sR.blk) (hdW : Dj (Lblk sI sL sO) sW.blk)
    (hn : n ≤ 12) (hM : 0 ≤ M) (hq : Uq L) (hE : ∀ y ∈ L, Ends (fun u => u < n ∧ r u = n) M y) (hin : ∀ v, v < n → (inn v = 1 ↔ r v = n)) (hN : View RW w37 s36 N) (hNl : N.length ≤ n * n) (hNo : ∀ y ∈ N, OfN L v y)
    (l1 : b1 < n0) (l3 : b3 < n0) (l10 : b10 < n0) (l13 : b13 < n0) (f10 : w0.heap.size ≤ b10) (fN : ∀ i, s36.blk i → i ≠ b10)
    (hJ : ∀ sL' L1 w', LeftV w' n sI sL' sO inn L1 lost → Acc RI w0 n0 w' sR rl → Acc RW w0 n0 w' sW H → (∀ i, Lblk sI sL' sO i → i ≠ b10 ∧ i ≠ b13 ∧ i < w'.heap.size) → Dj (Lblk sI sL' sO) sR.blk → Dj (Lblk sI sL' sO) sW.blk → Puts L N L1 → J (((n : Int), sI, sL', sO, ()), ()) w') :
    LoopT (Int × (Int × SV × SV × SV × Unit) × Unit) (fun t40 again39 w41 =>
  (cond (decide (t40.1 < (s36.len : Int))) (Idx s36.a s36.len t40.1 5 (fun a42 =>
  (∃ x43 : Int, w41.cell? (a42.add 0) = some (.int .i64 x43) ∧
  (Idx s36.a s36.len t40.1 5 (fun a44 =>
  (∃ x45 : Int, w41.cell? (a44.add 1) = some (.int .i64 x45) ∧
  (Idx s36.a s36.len t40.1 5 (fun a46 =>
  (∃ x47 : Int, w41.cell? ((a46.add 2).add 0) = some (.int .i64 x47) ∧
  (Idx s36.a s36.len t40.1 5 (fun a48 =>
  (∃ x49 : Int, w41.cell? ((a48.add 2).add 1) = some (.int .i64 x49) ∧
  (∀ w55, Ext w41 w55 →
  (sh_postroadref08_Put t40.2.1.1 t40.2.1.2.1 t40.2.1.2.2.1 t40.2.1.2.2.2.1 x43 x45 x47 x49 (fun x50 s51 s52 s53 t54 w56 =>
  (KeepZ (zI (fun _ => False) w41 w55) w55 w56 ∧
  (Keeps [b10, b13, b3, b1] w55 w56 ∧
  (∀ b57 w58, Ext w56 w58 →
  ((zI (fun _ => False) w41 w55) b57 ∨ w56.heap.size ≤ b57) → b57 < w58.heap.size →
  (∀ w59, Ext w58 w59 →
  (∀ w60, Off b57 w59 w60 →
  (∀ w61, Ext w60 w61 →
  (∀ w62, Off b10 w61 w62 →
  (again39 ((IntKind.i64.wrap (t40.1 + (1 : Int))), (x50, s51, s52, s53, ()), ()) w62))))))))) w55)))))))))))))) (J ((t40.2.1.1, t40.2.1.2.1, t40.2.1.2.2.1, t40.2.1.2.2.2.1, ()), ()) w41))) ((0 : Int), ((n : Int), sI, sL, sO, ()), ()) w37 := by
  have hl36 := hN.len
  have n2 : n * n ≤ 12 * 12 := Nat.mul_le_mul hn hn
  refine LoopT.gh (γ := Nat × List Wy) (fun g (st : Int × (Int × SV × SV × SV × Unit) × Unit) w' => st.1 = g.1 ∧ g.1 ≤ N.length ∧ st.2.1.1 = n ∧ st.2.1.2.1 = sI ∧ st.2.1.2.2.2.1 = sO ∧ LeftV w' n sI st.2.1.2.2.1 sO inn g.2 lost ∧ Acc RI w0 n0 w' sR rl ∧ Acc RW w0 n0 w' sW H ∧
      (∀ i, Lblk sI st.2.1.2.2.1 sO i → i ≠ b10 ∧ i ≠ b13 ∧ i < w'.heap.size) ∧ Dj (Lblk sI st.2.1.2.2.1 sO) sR.blk ∧ Dj (Lblk sI st.2.1.2.2.1 sO) sW.blk ∧ View RW w' s36 N ∧ w37.heap.size ≤ w'.heap.size ∧ (∀ i, s36.blk i → i < w37.heap.size → True) ∧ Puts L (N.take g.1) g.2) (fun g => N.length - g.1) (0, L)
    ⟨rfl, Nat.zero_le _, rfl, rfl, rfl, hl, hR, hW, hlb, hdR, hdW, hN, Nat.le_refl _, fun _ _ _ => trivial, Puts.nil hq⟩ ?_
  rintro ⟨j, Lj⟩ ⟨x, ⟨m, tI, tL, tO, _⟩, _⟩ w41 ⟨hx, hj, hm, htI, htO, hl, hR, hW, hlb, hdR, hdW, hN, z41, _, hP⟩ J1 hJ1
  simp only at hx hj hm htI htO hl hR hW hlb hdR hdW hP
  subst hx hm htI htO
  dsimp only
  rw [Bool.cond_decide]
  by_cases hc : (j : Int) < (s36.len : Int)
  · rw [if_pos hc]
    have hj' : j < N.length := by omega
    obtain ⟨p, hp, q, hqm, p1, p2, q1, q2, hw, hm, ha, hne⟩ := hNo N[j] (List.getElem_mem hj')
    have ep := hE p hp; have eq := hE q hqm
    obtain ⟨a, ⟨ha1, ha2⟩, ha3⟩ := ep.1
    obtain ⟨c, ⟨hc1, hc2⟩, hc3⟩ := eq.2.1
    refine way_idx hN hj' fun _ _ a0 _ _ _ _ => ⟨_, a0, ?_⟩
    refine way_idx hN hj' fun _ _ _ a1 _ _ _ => ⟨_, a1, ?_⟩
    refine way_idx hN hj' fun p' hsp _ _ a2 _ _ => ⟨yW N[j], ?_, ?_⟩
    · obtain ⟨b, o, sp⟩ := p'
      simp only at hsp; subst hsp
      rw [addm] at a2 ⊢; rw [addm]; exact a2
    refine way_idx hN hj' fun p' hsp _ _ _ a3 _ => ⟨yM N[j], ?_, ?_⟩
    · obtain ⟨b, o, sp⟩ := p'
      simp only at hsp; subst hsp
      rw [addm] at a3 ⊢; rw [addm, Nat.add_assoc]; exact a3
    intro w55 e55
    have z55 := e55.size
    have hyF : yF N[j] = (a : Int) := by rw [← p1, ha3]
    have hyT : yT N[j] = (c : Int) := by rw [← q2, hc3]
    rw [hyF, hyT]
    have hL1 := hP.ends (fun y hy => hNo y (List.mem_of_mem_take hy)) hE hM
    refine Put8_ok (hl.ext e55) ha1 ((hin a ha1).2 ha2) hc1 ((hin c hc1).2 hc2) (by omega) (by have := ep.2.2.2.1; have := eq.2.2.2.1; omega) (by omega) hP.u fun s52 b54 w56 e56 hcase => ?_
    have z56 := e56.size
    refine ⟨⟨z56, fun b hb => e56.blk (by rcases hb with h | ⟨_, h⟩; exact h.elim; exact h)⟩, kp_ext e56 (by have := hR.z; (intro b hb; simp only [List.mem_cons, List.not_mem_nil, or_false] at hb; omega)), ?_⟩
    intro b57 w58 e58 g57 g57' w59 e59 w60 o60 w61 e61 w62 o62
    have z58 := e58.size; have z59 := e59.size; have z60 := o60.size; have z61 := e61.size; have z62 := o62.size
    have g57'' : w41.heap.size ≤ b57 := by
      rcases g57 with (h | h) | h
      · exact h.elim
      · exact h.1
      · omega
    have e41 : Ext w41 w59 := ((e55.trans e56).trans e58).trans e59
    have e41' : Ext w41 w61 := (ext_off e41 o60 g57'').trans e61
    have c62 : Chg (fun i => i = b10) w61 w62 := .of_off o62 rfl
    have hR' := (hR.ext e41').off o62 f10 l10
    have hW' := (hW.ext e41').off o62 f10 l10
    have hN' : View RW w62 s36 N := (hN.ext e41').chg c62 fun i hi e => fN i hi e
    have hz : w37.heap.size ≤ w62.heap.size := by omega
    rcases hcase with ⟨rfl, z, hz1, hz2, hz3, hz4⟩ | ⟨hO, hF, hmin⟩
    · refine hJ1 (j + 1, Lj) _ _ ⟨wsucc (m := 2 ^ 40) (by omega) (by omega), by simp only; omega, rfl, rfl, rfl, (hl.ext e41').chgL c62 fun i hi e => (hlb i hi).1 e, hR', hW', fun i hi => ⟨(hlb i hi).1, (hlb i hi).2.1, by have := (hlb i hi).2.2; omega⟩, hdR, hdW, hN', hz, fun _ _ _ => trivial, ?_⟩ (by simp only; omega)
      simp only
      rw [take_snoc' hj']
      exact hP.skip hz1 (by rw [hyF, hz2]) (by rw [hyT, hz3]) hz4
    · have hy : ((a : Int), (c : Int), yW N[j], yM N[j], (-1 : Int)) = N[j] := by rw [← hyF, ← hyT, ← ha]; rfl
      have hP' : Puts L (N.take (j + 1)) (Lj.filter (offE (a : Int) (c : Int)) ++ [N[j]]) := by
        have := hP.put (y := N[j]) fun z hz h1 h2 => hmin z hz (by rw [h1, hyF]) (by rw [h2, hyT])
        rw [hyF, hyT, ← take_snoc' hj'] at this
        exact this
      have hL2 := hP'.ends (fun y hy => hNo y (List.mem_of_mem_take hy)) hE hM
      have hlen := hP'.u.len (fun y hy => (hL2 y hy).lt)
      rw [hy] at hO
      have n57 : ∀ i, s52.blk i → i ≠ b57 := fun i hi e => by
        have h1 := hF i hi; have h2 := hO.lt hi
        subst e
        rcases g57 with (h | h) | h
        · exact h.elim
        · omega
        · omega
      have hO' : Own RW w61 s52 (Lj.filter (offE (a : Int) (c : Int)) ++ [N[j]]) := ((((hO.ext e58).ext e59).off o60 fun h => n57 _ h rfl).ext e61)
      have n52 : ∀ i, s52.blk i → w41.heap.size ≤ i := fun i hi => by have := hF i hi; omega
      have lb52 : ∀ i, Lblk tI s52 tO i → i ≠ b10 ∧ i ≠ b13 ∧ i < w62.heap.size := fun i hi => by
        have hrz := hR.z
        rcases hi with hi | hi | hi
        · have := hlb i (.inl hi); exact ⟨this.1, this.2.1, by omega⟩
        · have := n52 i hi; have := hO'.lt hi; exact ⟨by omega, by omega, by omega⟩
        · have := hlb i (.inr (.inr hi)); exact ⟨this.1, this.2.1, by omega⟩
      refine hJ1 (j + 1, Lj.filter (offE (a : Int) (c : Int)) ++ [N[j]]) _ _ ⟨wsucc (m := 2 ^ 40) (by omega) (by omega), by simp only; omega, rfl, rfl, rfl, ?_, hR', hW', lb52, ?_, ?_, hN', hz, fun _ _ _ => trivial, hP'⟩ (by simp only; omega)
      · have hl' := (hl.ext e41').chgL c62 fun i hi e => (hlb i hi).1 e
        exact ⟨hl'.i, (hO'.view).chg c62 fun i hi e => by have := n52 i hi; have := hR.z; omega, hl'.o, by simp only; omega, hl.n40⟩
      · intro i hi hr
        rcases hi with hi | hi | hi
        · exact hdR i (.inl hi) hr
        · have := n52 i hi; have := hR.o.lt hr; omega
        · exact hdR i (.inr (.inr hi)) hr
      · intro i hi hr
        rcases hi with hi | hi | hi
        · exact hdW i (.inl hi) hr
        · have := n52 i hi; have := hW.o.lt hr; omega
        · exact hdW i (.inr (.inr hi)) hr
  · rw [if_neg hc]
    have : j = N.length := by omega
    subst this
    rw [List.take_length] at hP
    exact hJ tL Lj w41 hl hR hW hlb hdR hdW hP

theorem Build_ok {s t : SV} {K : SV → SV → World → Prop} (h : View RD w s arcs) (ht : View RI w t (fi arcs.length (kI arcs))) (ok : OkMap (n : Int) arcs) (hn : n ≤ 12)
    (hK : ∀ sR sW w' rank ways, Ext w w' → Own RI w' sR rank → Own RW w' sW ways → Fsh w sR → Fsh w sW → Dj sR.blk sW.blk → MapH n arcs rank ways → K sR sW w') : sh_postroadref09_Build n s t K w := by
  unfold sh_postroadref09_Build
  intro b1 w2 e2 g1 g1' b3 w4 e4 g3 g3'
  have z2 := e2.size; have z4 := e4.size
  have e04 := e2.trans e4
  refine New8_ok (h.ext e04) (ht.ext e04) ok (by omega) fun sI sL sO w9 L0 e9 hl fI fL fO tI tL tO hq0 hm0 => ⟨kp_ext e9 (by (intro b hb; simp only [List.mem_cons, List.not_mem_nil, or_false] at hb; omega)), ?_⟩
  have z9 := e9.size
  intro b10 w11 e11 g10 g10' w12 o12 b13 w14 e14 g13 g13' w15 o15
  have z11 := e11.size; have z12 := o12.size; have z14 := e14.size; have z15 := o15.size
  have e9' : Ext w9 w15 := ext_off ((ext_off e11 o12 g10).trans e14) o15 (by omega)
  have e15 : Ext w w15 := (e04.trans e9).trans e9'
  have hl := hl.ext e9'
  have hlb0 : ∀ i, Lblk sI sL sO i → i < w9.heap.size := fun i hi => by
    rcases hi with hi | hi | hi
    · exact tI i hi
    · exact tL i hi
    · exact tO i hi
  have big : ∀ k, k ≤ n → (n : Int) * BB k ≤ 1152921504606846976 ∧ 2 * BB k ≤ 1152921504606846976 := fun k hk => by
    have h1 := BB_le (show k ≤ 12 by omega)
    have h2 : (n : Int) * BB k ≤ 12 * BB k := Int.mul_le_mul_of_nonneg_right (by omega) (BB_nn k)
    exact ⟨by omega, by omega⟩
  have n2 : n * n ≤ 12 * 12 := Nat.mul_le_mul hn hn
  refine Join.cut (fun (x : (SV × SV × Unit) × Unit) w' => x.1.2.1 = ⟨none, 0, 0⟩ ∧ Acc RI w w15.heap.size w' x.1.1 (fi n fun _ => 0) ∧ Ext w15 w' ∨ x.1.2.1 = ⟨none, 0, 0⟩ ∧ Acc RI w w15.heap.size w' x.1.1 (fi n fun _ => 0) ∧ LeftV w' n sI sL sO (fun _ => 1) L0 (fun _ => 0)) (fun J hJ => ?_) ?_
  · refine LoopT.gh (γ := Nat) (fun i (st : Int × (SV × SV × Unit) × Unit) w' => st.1 = i ∧ i ≤ n ∧ st.2.1.2.1 = ⟨none, 0, 0⟩ ∧ Acc RI w w15.heap.size w' st.2.1.1 (fi i fun _ => 0) ∧ LeftV w' n sI sL sO (fun _ => 1) L0 (fun _ => 0)) (fun i => n - i) 0
      ⟨rfl, Nat.zero_le _, rfl, Acc.nil e15 e15.size (Nat.le_refl _), hl⟩ ?_
    rintro i ⟨x, ⟨u, u2, _⟩, _⟩ w19 ⟨hx, hi, hu2, hA, hl⟩ J1 hJ1
    simp only at hx hu2 hA
    subst hx hu2
    dsimp only
    have z19 := hA.z
    rw [Bool.cond_decide]
    by_cases hc : (i : Int) < (n : Int)
    · rw [if_pos hc]
      refine hA.push (R := RI) (x := 0) (by rw [fi_len]; omega) (by rw [fi_len]; omega) fun w21 s22 w23 e21 c23 _ hA1 => ?_
      have z21 := e21.size
      refine ⟨hA.kp e21 c23 (by (intro b hb; simp only [List.mem_cons, List.not_mem_nil, or_false] at hb; omega)), fun w24 o24 => ?_⟩
      refine hJ1 (i + 1) _ _ ⟨wsucc (m := 2 ^ 40) (by omega) (by omega), by omega, rfl, by rw [fi_succ]; exact hA1.off o24 (by omega) (by omega), ?_⟩ (by omega)
      refine ((hl.ext e21).chgL c23 fun k hk hu => ?_).chgL (.of_off (F := fun k => k = b13) o24 rfl) fun k hk e => ?_
      · have := hlb0 k hk; have := hA.f k hu; omega
      · have := hlb0 k hk; omega
    · rw [if_neg hc]
      have : i = n := by omega
      subst this
      exact hJ _ _ (.inr ⟨rfl, hA, hl⟩)
  · rintro ⟨⟨sR, u2, _⟩, _⟩ w26 hx
    have hx : u2 = ⟨none, 0, 0⟩ ∧ Acc RI w w15.heap.size w26 sR (fi n fun _ => 0) ∧ LeftV w26 n sI sL sO (fun _ => 1) L0 (fun _ => 0) := hx.elim (fun ⟨a, b, c⟩ => ⟨a, b, hl.ext c⟩) id
    obtain ⟨rfl, hR, hl⟩ := hx
    dsimp only
    have z26 := hR.z
    refine Join.cut (fun (x : (SV × SV × Unit) × Unit) w' => ∃ inn lost r L H sI sL sO, BldM w w15.heap.size b10 b13 arcs n w' sI sL sO x.1.1 x.1.2.1 inn lost r L H n) (fun J hJ => ?_) ?_
    · refine LoopT.gh (γ := Nat) (fun k (st : Int × (Int × SV × SV × SV × Unit) × (SV × SV × Unit) × Unit) w' => st.1 = k ∧ k ≤ n ∧ st.2.1.1 = n ∧ ∃ inn lost r L H, BldM w w15.heap.size b10 b13 arcs n w' st.2.1.2.1 st.2.1.2.2.1 st.2.1.2.2.2.1 st.2.2.1.1 st.2.2.1.2.1 inn lost r L H k) (fun k => n - k) 0
        ⟨rfl, Nat.zero_le _, rfl, _, _, _, _, [], ⟨hl, ?_, Acc.nil hR.e hR.m hR.z, fun i hi => ?_, fun i hi hr => ?_, fun _ _ ⟨_, h, _⟩ => (by cases h), fun _ _ ⟨_, h, _⟩ => (by cases h), fun _ _ => ⟨fun _ => rfl, fun _ => rfl⟩, begin8 ok hq0 hm0⟩⟩ ?_
      · rw [show fi n (rk0 n fun _ => (n : Int)) = fi n (fun _ => 0) from fi_congr fun j _ => by unfold rk0; rw [if_pos rfl]]
        exact hR
      · have := hlb0 i hi; exact ⟨by omega, by omega, by omega⟩
      · have := hlb0 i hi; have := hR.f i hr; omega
      clear hl fI fL fO tI tL tO hlb0 hq0 hm0
      rintro k ⟨x, ⟨m, sI, sL, sO, _⟩, ⟨sR, sW, _⟩, _⟩ w30 ⟨hx, hk, hm, inn, lost, r, L, H, hB⟩ J1 hJ1
      simp only at hx hm hB
      subst hx hm
      dsimp only
      rw [Bool.cond_decide]
      by_cases hc : (k : Int) < (n : Int)
      · rw [if_pos hc]
        have hk' : k < n := by omega
        refine Join.cut (fun (x : (Int × SV × SV × SV × Unit) × (SV × SV × Unit) × Unit) w' => x.1.1 = n ∧ ∃ inn lost r L H, BldM w w15.heap.size b10 b13 arcs n w' x.1.2.1 x.1.2.2.1 x.1.2.2.2.1 x.2.1.1 x.2.1.2.1 inn lost r L H (k + 1)) (fun J31 hJ31 => ?_) ?_
        · obtain ⟨hl, hR, hW, hlb, hdR, hdW, hdRW, hin, hC⟩ := hB
          have z30 := hR.z
          refine Next_ok hl fun x32 w33 e33 hx => ⟨kp_ext e33 (by (intro b hb; simp only [List.mem_cons, List.not_mem_nil, or_false] at hb; omega)), ?_⟩
          have z33 := e33.size
          obtain ⟨v, hv, hiv, rfl⟩ : ∃ v : Nat, v < n ∧ inn v = 1 ∧ x32 = (v : Int) := hx.elim (fun ⟨_, hno⟩ => by
            obtain ⟨v, hv, hrv⟩ := hC.left hk'
            exact absurd ((hin v hv).2 hrv) (hno v hv)) id
          have hrv := (hin v hv).1 hiv
          have hR1 := hR.ext e33
          refine hR1.wr hv fun p put => put w33 (k : Int) _ (.refl _) fun w35 c35 hR2 => ⟨hR1.kp (.refl _) c35 (by (intro b hb; simp only [List.mem_cons, List.not_mem_nil, or_false] at hb; omega)), ?_⟩
          have z35 := c35.size
          have hl2 := (hl.ext e33).chgL c35 hdR
          have hW2 := (hW.ext e33).other (.refl _) c35 hdRW.symm hR2.e
          have hE := hC.le
          have bg := big k (by omega)
          refine Needed_ok hl2 (BB_nn k) bg.1 bg.2 (fun y hy => (hE y hy).lt) hC.lu fun s36 w37 N e37 hN fN hNl hneed => ⟨kp_ext e37 (by (intro b hb; simp only [List.mem_cons, List.not_mem_nil, or_false] at hb; omega)), ?_⟩
          have z37 := e37.size
          have hNo : ∀ y ∈ N, OfN L v y := hneed.a
          refine Join.cut (fun (x : (Int × SV × SV × SV × Unit) × Unit) w' => ∃ L1, x.1.1 = n ∧ x.1.2.1 = sI ∧ x.1.2.2.2.1 = sO ∧ LeftV w' n sI x.1.2.2.1 sO inn L1 lost ∧ Acc RI w w15.heap.size w' sR (fi n (up1 (rk0 n r) v k)) ∧ Acc RW w w15.heap.size w' sW H ∧
              (∀ i, Lblk sI x.1.2.2.1 sO i → i ≠ b10 ∧ i ≠ b13 ∧ i < w'.heap.size) ∧ Dj (Lblk sI x.1.2.2.1 sO) sR.blk ∧ Dj (Lblk sI x.1.2.2.1 sO) sW.blk ∧ Puts L N L1) (fun J38 hJ38 => ?_) ?_
          · exact putLoop_ok (hl2.ext e37) (hR2.ext e37) (hW2.ext e37) (fun i hi => ⟨(hlb i hi).1, (hlb i hi).2.1, by have := (hlb i hi).2.2; omega⟩) hdR hdW hn (BB_nn k) hC.lu hE hin hN.view hNl hNo (by omega) (by omega) (by omega) (by omega) (by omega) (fun i hi => by have := fN i hi; omega)
              fun sL' L1 w' q1 q2 q3 q4 q5 q6 q7 => hJ38 _ _ ⟨L1, rfl, rfl, rfl, q1, q2, q3, q4, q5, q6, q7⟩
          clear hl hl2 hR hR1 hR2 hW hW2 hlb hdR hdW
          rintro ⟨⟨m, tI, sL, tO, _⟩, _⟩ w64 ⟨L1, hm, htI, htO, hl, hR, hW, hlb, hdR, hdW, hP⟩
          simp only at hm htI htO hl hlb hdR hdW
          subst hm htI htO
          dsimp only
          have z64 := hR.z
          have hE1 := hP.ends hNo hE (BB_nn k)
          have hE1' : ∀ y ∈ L1, Ends (fun u => u < n) (2 * BB k) y := fun y hy => (hE1 y hy).lt
          have hHl := hC.hu.len hC.he
          refine Outs_ok hl fun s65 w66 e66 hX fX => ⟨kp_ext e66 (by (intro b hb; simp only [List.mem_cons, List.not_mem_nil, or_false] at hb; omega)), ?_⟩
          have z66 := e66.size
          have hXl := selL_len (fun u => hasF L1 v u) n
          have hXv := hX.view
          have l65 := hXv.len
          have dX : Dj s65.blk sW.blk := fun i h1 h2 => by have := fX i h1; have := hW.o.lt h2; omega
          have lX : ∀ i, s65.blk i → w64.heap.size ≤ i ∧ i < w66.heap.size := fun i hi => ⟨fX i hi, hX.lt hi⟩
          have mO := outW_mem hP.u hE1' (v := v)
          unfold outsF at mO
          have uO := @outW_uq L1 v (fun u => hasF L1 v u) n
          generalize selL (fun u => hasF L1 v u) n = xs at hXl hXv l65 mO uO
          clear hX
          refine Join.cut (fun (x : (SV × SV × Unit) × Unit) w' => x.1.1 = sR ∧ LeftV w' n tI sL tO inn L1 lost ∧ Acc RI w w15.heap.size w' sR (fi n (up1 (rk0 n r) v k)) ∧ Acc RW w w15.heap.size w' x.1.2.1 (H ++ outW L1 v xs) ∧ Dj (Lblk tI sL tO) x.1.2.1.blk ∧ Dj sR.blk x.1.2.1.blk ∧ w66.heap.size ≤ w'.heap.size) (fun J67 hJ67 => ?_) ?_
          · refine LoopT.gh (γ := Nat) (fun j (st : Int × (SV × SV × Unit) × Unit) w' => st.1 = j ∧ j ≤ xs.length ∧ st.2.1.1 = sR ∧ LeftV w' n tI sL tO inn L1 lost ∧ Acc RI w w15.heap.size w' sR (fi n (up1 (rk0 n r) v k)) ∧ Acc RW w w15.heap.size w' st.2.1.2.1 (H ++ outW L1 v (xs.take j)) ∧ Dj (Lblk tI sL tO) st.2.1.2.1.blk ∧ Dj sR.blk st.2.1.2.1.blk ∧
                Dj s65.blk st.2.1.2.1.blk ∧ View RI w' s65 xs ∧ w66.heap.size ≤ w'.heap.size) (fun j => xs.length - j) 0 ⟨rfl, Nat.zero_le _, rfl, hl.ext e66, hR.ext e66, by simpa [outW] using hW.ext e66, hdW, hdRW, dX, hXv, Nat.le_refl _⟩ ?_
            clear hl hR hW hdW hdRW dX hXv
            rintro j ⟨x, ⟨uR, uW, _⟩, _⟩ w70 ⟨hx, hj, huR, hl, hR, hW, hdW, hdRW, dX, hXv, z70⟩ J2 hJ2
            simp only at hx huR hW hdW hdRW dX
            subst hx huR
            dsimp only
            rw [Bool.cond_decide]
            by_cases hcj : (j : Int) < (s65.len : Int)
            · rw [if_pos hcj]
              have hj' : j < xs.length := by omega
              refine int_idx hXv hj' fun _ a0 => ⟨_, a0, ?_⟩
              refine Way_quiet hl ?_
              intro b80 w81 e81 g80 g80' w82 e82 w83 o83 w84 e84
              have z81 := e81.size; have z82 := e82.size; have z83 := o83.size; have z84 := e84.size
              have e70 : Ext w70 w84 := (ext_off (e81.trans e82) o83 g80).trans e84
              refine int_idx (hXv.ext e70) hj' fun _ a0 => ⟨_, a0, ?_⟩
              intro w87 e87
              have z87 := e87.size
              have hl70 : (H ++ outW L1 v (xs.take j)).length ≤ n * n + j := by simp [outW]; omega
              have hW1 := hW.ext (e70.trans e87)
              refine hW1.push' (R := RW) (x := ((v : Int), xs[j], (wayF L1 v xs[j]).1, (wayF L1 v xs[j]).2.1, (wayF L1 v xs[j]).2.2.1)) (by omega) (by omega) fun w90 s91 w92 e90 c92 hs91 hW2 => ?_
              have z90 := e90.size; have z92 := c92.size
              refine ⟨hW.kp ((e70.trans e87).trans e90) c92 (by (intro b hb; simp only [List.mem_cons, List.not_mem_nil, or_false] at hb; omega)), fun w93 e93 w94 o94 w95 e95 => ?_⟩
              have z93 := e93.size; have z94 := o94.size; have z95 := e95.size
              have e90' := (e70.trans e87).trans e90
              have c94 : Chg (fun i => i = b13) w93 w94 := .of_off o94 rfl
              have hR2 := ((((hR.other e90' c92 hdRW hW2.e).ext e93).off o94 (by omega) (by omega)).ext e95)
              have hW3 := ((hW2.ext e93).off o94 (by omega) (by omega)).ext e95
              have hl2 := ((((hl.ext e90').chgL c92 hdW).ext e93).chgL c94 fun i hi e => (hlb i hi).2.1 e).ext e95
              have hX2 : View RI w95 s65 xs := ((((hXv.ext e90').chg c92 dX).ext e93).chg c94 fun i hi e => by have := (lX i hi).1; omega).ext e95
              refine hJ2 (j + 1) _ _ ⟨wsucc (m := 2 ^ 40) (by omega) (by omega), by omega, rfl, hl2, hR2, ?_, ?_, ?_, ?_, hX2, by omega⟩ (by omega)
              · rw [take_snoc' hj', show outW L1 v (xs.take j ++ [xs[j]]) = outW L1 v (xs.take j) ++ [((v : Int), xs[j], (wayF L1 v xs[j]).1, (wayF L1 v xs[j]).2.1, (wayF L1 v xs[j]).2.2.1)] by unfold outW; rw [List.map_append]; rfl, ← List.append_assoc]
                exact hW3
              · intro i hi hw
                rcases hs91 i hw with q | q
                · exact hdW i hi q
                · have := (hlb i hi).2.2; omega
              · intro i hi hw
                rcases hs91 i hw with q | q
                · exact hdRW i hi q
                · have := hR.o.lt hi; omega
              · intro i hi hw
                rcases hs91 i hw with q | q
                · exact dX i hi q
                · have := (lX i hi).2; omega
            · rw [if_neg hcj]
              have : j = xs.length := by omega
              subst this
              rw [List.take_length] at hW
              exact hJ67 _ _ ⟨rfl, hl, hR, hW, hdW, hdRW, z70⟩
          clear hl hR hW hdW hdRW dX hXv
          rintro ⟨⟨uR, sW, _⟩, _⟩ w97 ⟨huR, hl, hR, hW, hdW, hdRW, z97⟩
          simp only at huR hW hdW hdRW
          subst huR
          dsimp only
          have hOl : (outW L1 v xs).length ≤ n := by unfold outW; rw [List.length_map]; exact hXl
          clear lX l65 fX hXl
          generalize outW L1 v xs = O at mO uO hW hOl
          refine Ins_ok hl fun s98 w99 e99 hX fX => ⟨kp_ext e99 (by (intro b hb; simp only [List.mem_cons, List.not_mem_nil, or_false] at hb; omega)), ?_⟩
          have z99 := e99.size
          have hXl := selL_len (fun u => hasF L1 u v) n
          have hXv := hX.view
          have l98 := hXv.len
          have dX : Dj s98.blk sW.blk := fun i h1 h2 => by have := fX i h1; have := hW.o.lt h2; omega
          have lX : ∀ i, s98.blk i → w97.heap.size ≤ i ∧ i < w99.heap.size := fun i hi => ⟨fX i hi, hX.lt hi⟩
          have mI := inW_mem hP.u hE1' (v := v)
          unfold insF at mI
          have uI := @inW_uq L1 v (fun u => hasF L1 u v) n
          generalize selL (fun u => hasF L1 u v) n = ys at hXl hXv l98 mI uI
          clear hX
          refine Join.cut (fun (x : (SV × SV × Unit) × Unit) w' => x.1.1 = uR ∧ LeftV w' n tI sL tO inn L1 lost ∧ Acc RI w w15.heap.size w' uR (fi n (up1 (rk0 n r) v k)) ∧ Acc RW w w15.heap.size w' x.1.2.1 (H ++ O ++ inW L1 v ys) ∧ Dj (Lblk tI sL tO) x.1.2.1.blk ∧ Dj uR.blk x.1.2.1.blk ∧ w99.heap.size ≤ w'.heap.size) (fun J100 hJ100 => ?_) ?_
          · refine LoopT.gh (γ := Nat) (fun j (st : Int × (SV × SV × Unit) × Unit) w' => st.1 = j ∧ j ≤ ys.length ∧ st.2.1.1 = uR ∧ LeftV w' n tI sL tO inn L1 lost ∧ Acc RI w w15.heap.size w' uR (fi n (up1 (rk0 n r) v k)) ∧ Acc RW w w15.heap.size w' st.2.1.2.1 (H ++ O ++ inW L1 v (ys.take j)) ∧ Dj (Lblk tI sL tO) st.2.1.2.1.blk ∧ Dj uR.blk st.2.1.2.1.blk ∧
                Dj s98.blk st.2.1.2.1.blk ∧ View RI w' s98 ys ∧ w99.heap.size ≤ w'.heap.size) (fun j => ys.length - j) 0 ⟨rfl, Nat.zero_le _, rfl, hl.ext e99, hR.ext e99, by simpa [inW] using hW.ext e99, hdW, hdRW, dX, hXv, Nat.le_refl _⟩ ?_
            clear hl hR hW hdW hdRW dX hXv
            rintro j ⟨x, ⟨uR, uW, _⟩, _⟩ w103 ⟨hx, hj, huR, hl, hR, hW, hdW, hdRW, dX, hXv, z103⟩ J2 hJ2
            simp only at hx huR hW hdW hdRW dX
            subst hx huR
            dsimp only
            rw [Bool.cond_decide]
            by_cases hcj : (j : Int) < (s98.len : Int)
            · rw [if_pos hcj]
              have hj' : j < ys.length := by omega
              refine int_idx hXv hj' fun _ a0 => ⟨_, a0, ?_⟩
              refine Way_quiet hl ?_
              intro b113 w114 e114 g113 g113' w115 e115 w116 o116 w117 e117
              have z114 := e114.size; have z115 := e115.size; have z116 := o116.size; have z117 := e117.size
              have e103 : Ext w103 w117 := (ext_off (e114.trans e115) o116 g113).trans e117
              refine int_idx (hXv.ext e103) hj' fun _ a0 => ⟨_, a0, ?_⟩
              intro w120 e120
              have z120 := e120.size
              have hl103 : (H ++ O ++ inW L1 v (ys.take j)).length ≤ n * n + n + j := by simp [inW]; omega
              have hW1 := hW.ext (e103.trans e120)
              refine hW1.push' (R := RW) (x := (ys[j], (v : Int), (wayF L1 ys[j] v).1, (wayF L1 ys[j] v).2.1, (wayF L1 ys[j] v).2.2.1)) (by omega) (by omega) fun w123 s124 w125 e123 c125 hs124 hW2 => ?_
              have z123 := e123.size; have z125 := c125.size
              refine ⟨hW.kp ((e103.trans e120).trans e123) c125 (by (intro b hb; simp only [List.mem_cons, List.not_mem_nil, or_false] at hb; omega)), fun w126 e126 w127 o127 w128 e128 => ?_⟩
              have z126 := e126.size; have z127 := o127.size; have z128 := e128.size
              have e123' := (e103.trans e120).trans e123
              have c127 : Chg (fun i => i = b13) w126 w127 := .of_off o127 rfl
              have hR2 := ((((hR.other e123' c125 hdRW hW2.e).ext e126).off o127 (by omega) (by omega)).ext e128)
              have hW3 := ((hW2.ext e126).off o127 (by omega) (by omega)).ext e128
              have hl2 := ((((hl.ext e123').chgL c125 hdW).ext e126).chgL c127 fun i hi e => (hlb i hi).2.1 e).ext e128
              have hX2 : View RI w128 s98 ys := ((((hXv.ext e123').chg c125 dX).ext e126).chg c127 fun i hi e => by have := (lX i hi).1; omega).ext e128
              refine hJ2 (j + 1) _ _ ⟨wsucc (m := 2 ^ 40) (by omega) (by omega), by omega, rfl, hl2, hR2, ?_, ?_, ?_, ?_, hX2, by omega⟩ (by omega)
              · rw [take_snoc' hj', show inW L1 v (ys.take j ++ [ys[j]]) = inW L1 v (ys.take j) ++ [(ys[j], (v : Int), (wayF L1 ys[j] v).1, (wayF L1 ys[j] v).2.1, (wayF L1 ys[j] v).2.2.1)] by unfold inW; rw [List.map_append]; rfl, ← List.append_assoc]
                exact hW3
              · intro i hi hw
                rcases hs124 i hw with q | q
                · exact hdW i hi q
                · have := (hlb i hi).2.2; omega
              · intro i hi hw
                rcases hs124 i hw with q | q
                · exact hdRW i hi q
                · have := hR.o.lt hi; omega
              · intro i hi hw
                rcases hs124 i hw with q | q
                · exact dX i hi q
                · have := (lX i hi).2; omega
            · rw [if_neg hcj]
              have : j = ys.length := by omega
              subst this
              rw [List.take_length] at hW
              exact hJ100 _ _ ⟨rfl, hl, hR, hW, hdW, hdRW, z103⟩
          clear hl hR hW hdW hdRW dX hXv
          rintro ⟨⟨uR, sW, _⟩, _⟩ w130 ⟨huR, hl, hR, hW, hdW, hdRW, z130⟩
          simp only at huR hW hdW hdRW
          subst huR
          dsimp only
          refine Take8_ok hl hv hiv fun vI vL vO lost' w136 e136 hl' fI fL fO tI tL tO => ⟨kp_ext e136 (by (intro b hb; simp only [List.mem_cons, List.not_mem_nil, or_false] at hb; omega)), ?_⟩
          have z136 := e136.size
          intro b137 w138 e138 g137 g137' w139 o139 w140 o140
          have z138 := e138.size; have z139 := o139.size; have z140 := o140.size
          have e139 : Ext w136 w139 := ext_off e138 o139 g137
          have lbN : ∀ i, Lblk vI vL vO i → w130.heap.size ≤ i ∧ i < w136.heap.size := fun i hi => by
            rcases hi with hi | hi | hi
            · exact ⟨fI i hi, tI i hi⟩
            · exact ⟨fL i hi, tL i hi⟩
            · exact ⟨fO i hi, tO i hi⟩
          have c140 : Chg (fun i => i = b10) w139 w140 := .of_off o140 rfl
          refine hJ31 _ _ ⟨rfl, up1 inn v 0, lost', up1 r v k, L1.filter (goneF v), H ++ (O ++ inW L1 v ys), ⟨(hl'.ext e139).chgL c140 fun i hi e => by have := (lbN i hi).1; omega, ?_, ?_, fun i hi => ?_, fun i hi hr => ?_, fun i hi hr => ?_, hdRW, fun u hu => ?_, ?_⟩⟩
          · rw [show fi n (rk0 n (up1 r v k)) = fi n (up1 (rk0 n r) v k) from fi_congr fun j hj => by
              unfold rk0 up1
              by_cases e : j = v
              · rw [if_pos e, if_neg (by omega), if_pos e]
              · rw [if_neg e, if_neg e]]
            exact (hR.ext (e136.trans e139)).off o140 (by omega) (by omega)
          · rw [← List.append_assoc]
            exact (hW.ext (e136.trans e139)).off o140 (by omega) (by omega)
          · have := lbN i hi; exact ⟨by omega, by omega, by omega⟩
          · have := lbN i hi; have := hR.o.lt hr; omega
          · have := lbN i hi; have := hW.o.lt hr; omega
          · unfold up1
            by_cases e : u = v
            · rw [if_pos e, if_pos e]; exact ⟨fun q => by omega, fun q => by omega⟩
            · rw [if_neg e, if_neg e]; exact hin u hu
          · rw [← BB_succ]
            exact hC.step hv hrv hk' (BB_nn k) hneed hP mO mI uO uI (fun y => by rw [List.mem_filter]; unfold goneF; rw [decide_eq_true_iff]) (List.Pairwise.filter _ hP.u)
        · rintro ⟨⟨m, vI, vL, vO, _⟩, ⟨vR, vW, _⟩, _⟩ w142 ⟨hm, hB'⟩
          simp only at hm hB'
          subst hm
          exact hJ1 (k + 1) _ _ ⟨wsucc (m := 2 ^ 40) (by omega) (by omega), by omega, rfl, hB'⟩ (by omega)
      · rw [if_neg hc]
        have : k = n := by omega
        subst this
        exact hJ _ _ ⟨inn, lost, r, L, H, sI, sL, sO, hB⟩
    · rintro ⟨⟨sR, sW, _⟩, _⟩ w144 ⟨inn, lost, r, L, H, vI, vL, vO, hB⟩ w145 o145
      simp only at hB
      have hR := hB.rk.off o145 (by omega) (by omega); have hW := hB.wy.off o145 (by omega) (by omega)
      have hb := BB_le (show n ≤ 12 from hn)
      have hM := hB.c.mapH (by omega) ok.len (by omega)
      refine hK sR sW w145 (fi n r) H hR.e ?_ hW.o (fun i hi => by have := hR.f i hi; have := e15.size; omega) (fun i hi => by have := hW.f i hi; have := e15.size; omega) hB.dRW hM
      rw [show fi n r = fi n (rk0 n r) from fi_congr fun j hj => by unfold rk0; rw [if_neg (hB.c.full hj)]]
      exact hR.o

theorem Of9_ok {s : SV} {K : SV → SV → World → Prop} (h : View RD w s arcs) (ok : OkMap (n : Int) arcs) (hn : n ≤ 12)
    (hK : ∀ sR sW w' rank ways, Ext w w' → Own RI w' sR rank → Own RW w' sW ways → Fsh w sR → Fsh w sW → Dj sR.blk sW.blk → MapH n arcs rank ways → K sR sW w') : sh_postroadref09_Of n s K w := by
  unfold sh_postroadref09_Of
  intro b1 w2 e2 g1 g1' b3 w4 e4 g3 g3'
  have z2 := e2.size; have z4 := e4.size
  have e04 := e2.trans e4
  refine mNew_ok (h.ext e04) ok fun t w9 e9 hT fT => ⟨kp_ext e9 (by (intro b hb; simp only [List.mem_cons, List.not_mem_nil, or_false] at hb; omega)), ?_⟩
  have z9 := e9.size
  intro b10 w11 e11 g10 g10' w12 o12
  have z11 := e11.size; have z12 := o12.size
  have e9' : Ext w9 w12 := ext_off e11 o12 g10
  have e012 := (e04.trans e9).trans e9'
  refine Build_ok (h.ext e012) (hT.ext e9').view ok hn fun sR sW w15 rank ways e15 hR hW fR fW d hM => ⟨kp_ext e15 (by (intro b hb; simp only [List.mem_cons, List.not_mem_nil, or_false] at hb; omega)), fun w16 o16 => ?_⟩
  have nR : ¬ sR.blk b3 := fun hk => by have := fR _ hk; omega
  have nW : ¬ sW.blk b3 := fun hk => by have := fW _ hk; omega
  exact hK sR sW w16 rank ways (ext_off (e012.trans e15) o16 (by omega)) (hR.off o16 nR) (hW.off o16 nW) (fR.ext e012) (fW.ext e012) d hM
end
end Go.Sh

/- HierOfMaps. -/
set_option maxRecDepth 100000
namespace Go.Sh
open Go.RowKit

section
variable {w : World}
theorem Of07_ok {n0 : Int} {s : SV} {arcs0 : List Arc} {K : Int → SV → World → Prop} (h : View RD w s arcs0)
    (hk : ∀ n t w' arcs, Ext w w' → 1 ≤ n → n ≤ 12 → OkMap n arcs → arcs.length ≤ 40 → Own RD w' t arcs → Fsh w t → K n t w') : sh_postroadref07_Of n0 s K w := by
  unfold sh_postroadref07_Of
  intro b1 w2 e2 g1 g1'
  have z2 := e2.size
  refine Of_ok (h.ext e2) fun n t w5 arcs e5 h1 h2 ok hl hO hF => ⟨kp_ext e5 (by (intro b hb; simp only [List.mem_cons, List.not_mem_nil, or_false] at hb; omega)), fun w6 o6 => ?_⟩
  exact hk n t w6 arcs (ext_off (e2.trans e5) o6 g1) h1 h2 ok hl (hO.off o6 fun hk => by have := hF _ hk; omega) (hF.ext e2)

end
end Go.Sh
