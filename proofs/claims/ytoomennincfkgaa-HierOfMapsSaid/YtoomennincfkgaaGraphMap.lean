/- Maps and what of them counts, in plain lists. -/
import Derived.Test.YtoomennincfkgaaGraphPure
set_option maxRecDepth 100000
namespace Go.Sh
open Go.RowKit

abbrev Arc := Int × Int × Int
def arcA (arcs : List Arc) (k : Nat) : Arc := arcs.getD k (0, 0, 0)
def frA (arcs : List Arc) (k : Nat) : Nat := (arcA arcs k).1.toNat
def toA (arcs : List Arc) (k : Nat) : Nat := (arcA arcs k).2.1.toNat
def wtA (arcs : List Arc) (k : Nat) : Int := (arcA arcs k).2.2
theorem arcA_get {arcs : List Arc} {k : Nat} (h : k < arcs.length) : arcs[k] = arcA arcs k := by
  unfold arcA; rw [List.getD_eq_getElem?_getD, List.getElem?_eq_getElem h]; rfl
theorem arcA_mem {arcs : List Arc} {k : Nat} (h : k < arcs.length) : arcA arcs k ∈ arcs := by rw [← arcA_get h]; exact List.getElem_mem h

/-- One arc may be. -/
def OkArc (n : Int) (a : Arc) : Prop := 0 ≤ a.1 ∧ a.1 < n ∧ 0 ≤ a.2.1 ∧ a.2.1 < n ∧ 0 ≤ a.2.2 ∧ a.2.2 ≤ 2147483648
/-- A map may be. -/
structure OkMap (n : Int) (arcs : List Arc) : Prop where
  n0 : 0 ≤ n
  n1 : n ≤ 16777216
  len : arcs.length ≤ 67108864
  arc : ∀ a ∈ arcs, OkArc n a
section
variable {n : Int} {arcs : List Arc}
theorem OkMap.at (h : OkMap n arcs) {k : Nat} (hk : k < arcs.length) : OkArc n (arcA arcs k) := h.arc _ (arcA_mem hk)
theorem OkMap.fr (h : OkMap n arcs) {k : Nat} (hk : k < arcs.length) : (arcA arcs k).1 = (frA arcs k : Int) ∧ frA arcs k < n.toNat := by
  have := h.at hk; unfold OkArc at this; unfold frA; omega
theorem OkMap.to (h : OkMap n arcs) {k : Nat} (hk : k < arcs.length) : (arcA arcs k).2.1 = (toA arcs k : Int) ∧ toA arcs k < n.toNat := by
  have := h.at hk; unfold OkArc at this; unfold toA; omega
end

/-- The same ends. -/
def Same (arcs : List Arc) (i k : Nat) : Prop := frA arcs i = frA arcs k ∧ toA arcs i = toA arcs k
/-- One arc is less. -/
def Less (arcs : List Arc) (i k : Nat) : Prop := wtA arcs i < wtA arcs k ∨ wtA arcs i = wtA arcs k ∧ i < k
instance (arcs : List Arc) (i k : Nat) : Decidable (Same arcs i k) := by unfold Same; infer_instance
instance (arcs : List Arc) (i k : Nat) : Decidable (Less arcs i k) := by unfold Less; infer_instance
/-- It counts. -/
def Kept (arcs : List Arc) (k : Nat) : Prop := frA arcs k ≠ toA arcs k ∧ ∀ i, i < arcs.length → Same arcs i k → ¬ Less arcs i k
instance (arcs : List Arc) (k : Nat) : Decidable (Kept arcs k) := by unfold Kept; infer_instance
def keptL (arcs : List Arc) : List Nat := (List.range arcs.length).filter fun k => decide (Kept arcs k)
theorem mem_keptL {arcs : List Arc} {k : Nat} : k ∈ keptL arcs ↔ k < arcs.length ∧ Kept arcs k := by simp [keptL, List.mem_filter]
theorem keptL_sorted (arcs : List Arc) : (keptL arcs).Pairwise (· < ·) := List.Pairwise.filter _ List.pairwise_lt_range
theorem keptL_len (arcs : List Arc) : (keptL arcs).length ≤ arcs.length := by
  have := List.length_filter_le (fun k => decide (Kept arcs k)) (List.range arcs.length)
  rw [List.length_range] at this; exact this

theorem Less.irrefl {arcs : List Arc} (k : Nat) : ¬ Less arcs k k := by unfold Less; omega
theorem Less.trans {arcs : List Arc} {i j k : Nat} (h1 : Less arcs i j) (h2 : Less arcs j k) : Less arcs i k := by unfold Less at *; omega
theorem Less.total {arcs : List Arc} {i k : Nat} (h1 : ¬ Less arcs i k) (h2 : ¬ Less arcs k i) : i = k := by unfold Less at *; omega
theorem Same.symm {arcs : List Arc} {i k : Nat} (h : Same arcs i k) : Same arcs k i := ⟨h.1.symm, h.2.symm⟩
theorem Same.trans {arcs : List Arc} {i j k : Nat} (h : Same arcs i j) (h2 : Same arcs j k) : Same arcs i k := ⟨h.1.trans h2.1, h.2.trans h2.2⟩
theorem Same.refl (arcs : List Arc) (i : Nat) : Same arcs i i := ⟨rfl, rfl⟩

theorem sortedL_pw {n : Nat} {l : List Nat} {e : Nat → Nat} {R : Nat → Nat → Prop} (h : l.Pairwise R) : (sortedL n l e).Pairwise fun a b => e a < e b ∨ e a = e b ∧ R a b := by
  induction n with
  | zero => simp [sortedL]
  | succ n ih =>
    rw [sortedL_succ, List.pairwise_append]
    refine ⟨ih, ?_, ?_⟩
    · have h1 := List.Pairwise.filter (e · == n) h
      refine (List.Pairwise.and_mem.1 h1).imp fun {a b} ⟨ha, hb, hr⟩ => .inr ⟨?_, hr⟩
      simp only [List.mem_filter, beq_iff_eq] at ha hb
      rw [ha.2, hb.2]
    · intro a ha b hb
      rw [mem_sortedL] at ha
      simp only [List.mem_filter, beq_iff_eq] at hb
      exact .inl (by omega)

theorem sortedL_perm_lt (n : Nat) (l : List Nat) (e : Nat → Nat) : (sortedL n l e).Perm (l.filter fun k => decide (e k < n)) := by
  induction n with
  | zero => simp [sortedL]
  | succ n ih =>
    rw [sortedL_succ]
    have h := List.filter_append_perm (fun k => decide (e k < n)) (l.filter fun k => decide (e k < n + 1))
    rw [List.filter_filter, List.filter_filter] at h
    have e1 : (l.filter fun k => decide (e k < n) && decide (e k < n + 1)) = l.filter fun k => decide (e k < n) := List.filter_congr fun k _ => by
      by_cases hk : e k < n
      · simp [hk]; omega
      · simp [hk]
    have e2 : (l.filter fun k => (!decide (e k < n)) && decide (e k < n + 1)) = l.filter (e · == n) := List.filter_congr fun k _ => by
      by_cases hk : e k = n
      · simp [hk]
      · rw [show (e k == n) = false by simpa using hk]
        by_cases h1 : e k < n
        · simp [h1]
        · simp [h1]; omega
    rw [e1, e2] at h
    exact (List.Perm.append_right _ ih).trans h
theorem sortedL_perm {n : Nat} {l : List Nat} {e : Nat → Nat} (h : ∀ k ∈ l, e k < n) : (sortedL n l e).Perm l := by
  have := sortedL_perm_lt n l e
  rwa [List.filter_eq_self.2 fun k hk => by simpa using h k hk] at this
theorem cnt_perm {l l' : List Nat} (h : l.Perm l') (e : Nat → Nat) (v : Nat) : cnt l e v = cnt l' e v := (h.filter _).length_eq
theorem pre_perm {l l' : List Nat} (h : l.Perm l') (e : Nat → Nat) (v : Nat) : pre l e v = pre l' e v := by
  induction v with
  | zero => rfl
  | succ v ih => rw [pre_succ, pre_succ, ih, cnt_perm h]
theorem sortedL_part {n : Nat} {l : List Nat} {e : Nat → Nat} {v : Nat} (hv : v < n) : ((sortedL n l e).drop (pre l e v)).take (cnt l e v) = l.filter (e · == v) := by
  have h1 := pre_lt l e hv
  apply List.ext_getElem?
  intro j
  rw [List.getElem?_take]
  split
  · rename_i hj
    rw [List.getElem?_drop]; exact sortedL_get hv j hj
  · rename_i hj
    rw [List.getElem?_eq_none (by unfold cnt at hj; omega)]

/-- The arcs by both ends. -/
def byBoth (n : Nat) (l : List Nat) (fr to : Nat → Nat) : List Nat := sortedL n (sortedL n l to) fr
/-- The arcs of one place, by the other end. -/
def outK (n : Nat) (l : List Nat) (fr to : Nat → Nat) (v : Nat) : List Nat := (sortedL n l to).filter (fr · == v)
theorem byBoth_perm {n : Nat} {l : List Nat} {fr to : Nat → Nat} (h : ∀ k ∈ l, fr k < n ∧ to k < n) : (byBoth n l fr to).Perm l := by
  have h1 := sortedL_perm (l := l) (e := to) fun k hk => (h k hk).2
  exact (sortedL_perm fun k hk => (h k (h1.mem_iff.1 hk)).1).trans h1
theorem byBoth_part {n : Nat} {l : List Nat} {fr to : Nat → Nat} (h : ∀ k ∈ l, fr k < n ∧ to k < n) {v : Nat} (hv : v < n) :
    ((byBoth n l fr to).drop (pre (byBoth n l fr to) fr v)).take (pre (byBoth n l fr to) fr (v + 1) - pre (byBoth n l fr to) fr v) = outK n l fr to v := by
  have h1 := sortedL_perm (l := l) (e := to) fun k hk => (h k hk).2
  have h2 := sortedL_perm (l := sortedL n l to) (e := fr) (n := n) fun k hk => (h k (h1.mem_iff.1 hk)).1
  unfold byBoth outK
  rw [pre_succ, Nat.add_sub_cancel_left, pre_perm h2, cnt_perm h2]
  exact sortedL_part hv
theorem byBoth_lex {n : Nat} {l : List Nat} {fr to : Nat → Nat} (h : l.Pairwise (· < ·)) :
    (byBoth n l fr to).Pairwise fun a b => fr a < fr b ∨ fr a = fr b ∧ (to a < to b ∨ to a = to b ∧ a < b) := sortedL_pw (sortedL_pw h)
theorem mem_outK {n : Nat} {l : List Nat} {fr to : Nat → Nat} {v k : Nat} : k ∈ outK n l fr to v ↔ k ∈ l ∧ to k < n ∧ fr k = v := by
  simp only [outK, List.mem_filter, mem_sortedL, beq_iff_eq, and_assoc]
theorem outK_pw {n : Nat} {l : List Nat} {fr to : Nat → Nat} {v : Nat} (h : l.Pairwise (· < ·)) : (outK n l fr to v).Pairwise fun a b => to a < to b ∨ to a = to b ∧ a < b :=
  List.Pairwise.filter _ (sortedL_pw h)

/-- The arcs that lead from one place to another one. -/
def noLoops (arcs : List Arc) : List Nat := (List.range arcs.length).filter fun k => (arcA arcs k).1 != (arcA arcs k).2.1

/-- The scan: what counts of the first ones. -/
def Best (arcs : List Arc) (T : List Nat) (k : Nat) : Prop := k ∈ T ∧ ∀ j ∈ T, Same arcs j k → ¬ Less arcs j k
structure Scan (arcs : List Arc) (T : List Nat) (last : Int) (c : Nat → Bool) : Prop where
  c : ∀ k, c k = true ↔ Best arcs T k
  none : T = [] → last = -1
  last : T ≠ [] → ∃ k : Nat, last = (k : Int) ∧ Best arcs T k ∧ ∀ t, T.getLast? = some t → Same arcs k t
def Lex (arcs : List Arc) (a b : Nat) : Prop := frA arcs a < frA arcs b ∨ frA arcs a = frA arcs b ∧ (toA arcs a < toA arcs b ∨ toA arcs a = toA arcs b ∧ a < b)

theorem lex_last {arcs : List Arc} {T : List Nat} {k : Nat} (hp : (T ++ [k]).Pairwise (Lex arcs)) {j t : Nat} (hj : j ∈ T) (ht : T.getLast? = some t) (hs : Same arcs j k) : Same arcs t k := by
  rw [List.pairwise_append] at hp
  have h1 := hp.2.2 t (List.mem_of_getLast? ht) k (by simp)
  have h2 : j = t ∨ Lex arcs j t := by
    obtain ⟨T', rfl⟩ : ∃ T', T = T' ++ [t] := List.getLast?_eq_some_iff.1 ht
    rcases List.mem_append.1 hj with hj | hj
    · exact .inr ((List.pairwise_append.1 hp.1).2.2 j hj t (by simp))
    · simp at hj; exact .inl hj
  rcases h2 with rfl | h2
  · exact hs
  · unfold Lex at h1 h2; unfold Same at *; omega

/-- It is the first of its ends. -/
theorem Scan.fresh {arcs : List Arc} {T : List Nat} {last : Int} {c : Nat → Bool} {k : Nat} (h : Scan arcs T last c) (hp : (T ++ [k]).Pairwise (Lex arcs)) (hn : ∀ i : Nat, last = (i : Int) → ¬ Same arcs i k) :
    Scan arcs (T ++ [k]) k (fun j => if j = k then true else c j) := by
  have no : ∀ j ∈ T, ¬ Same arcs j k := fun j hj hs => by
    obtain ⟨l, hl, _, hg⟩ := h.last (fun e => by subst e; simp at hj)
    obtain ⟨t, ht⟩ : ∃ t, T.getLast? = some t := by
      cases hT : T.getLast? with
      | none => rw [List.getLast?_eq_none_iff] at hT; subst hT; simp at hj
      | some t => exact ⟨t, rfl⟩
    exact hn l hl ((hg t ht).trans (lex_last hp hj ht hs))
  have hkT : k ∉ T := fun hk => no k hk (.refl _ _)
  refine ⟨fun j => ?_, fun e => by simp at e, fun _ => ⟨k, rfl, ?_, fun t ht => by simp at ht; subst ht; exact .refl _ _⟩⟩
  · by_cases hj : j = k
    · subst hj
      simp only [if_true, true_iff]
      refine ⟨by simp, fun i hi hs => ?_⟩
      rcases List.mem_append.1 hi with hi | hi
      · exact absurd hs (no i hi)
      · simp at hi; subst hi; exact Less.irrefl _
    · rw [if_neg hj, h.c]
      constructor
      · rintro ⟨h1, h2⟩
        refine ⟨List.mem_append_left _ h1, fun i hi hs => ?_⟩
        rcases List.mem_append.1 hi with hi | hi
        · exact h2 i hi hs
        · simp at hi; subst hi; exact absurd hs.symm (no j h1)
      · rintro ⟨h1, h2⟩
        rcases List.mem_append.1 h1 with h1 | h1
        · exact ⟨h1, fun i hi hs => h2 i (List.mem_append_left _ hi) hs⟩
        · simp at h1; exact absurd h1 hj
  · refine ⟨by simp, fun i hi hs => ?_⟩
    rcases List.mem_append.1 hi with hi | hi
    · exact absurd hs (no i hi)
    · simp at hi; subst hi; exact Less.irrefl _

/-- It is of the last one's ends, and less. -/
theorem Scan.less {arcs : List Arc} {T : List Nat} {l k : Nat} {c : Nat → Bool} (h : Scan arcs T l c) (hp : (T ++ [k]).Pairwise (Lex arcs)) (hs : Same arcs l k) (hw : wtA arcs k < wtA arcs l) :
    Scan arcs (T ++ [k]) k (fun j => if j = k then true else if j = l then false else c j) := by
  have hT : T ≠ [] := fun e => by have := h.none e; omega
  obtain ⟨l', hl, hb, hg⟩ := h.last hT
  obtain rfl : l' = l := by omega
  have kl : Less arcs k l' := .inl hw
  have bk : Best arcs (T ++ [k]) k := ⟨by simp, fun i hi hsi => by
    rcases List.mem_append.1 hi with hi | hi
    · intro hlt; exact hb.2 i hi (hsi.trans hs.symm) (hlt.trans kl)
    · simp at hi; subst hi; exact Less.irrefl _⟩
  have hkT : k ∉ T := fun hk => by
    have := (List.pairwise_append.1 hp).2.2 k hk k (by simp)
    unfold Lex at this; omega
  have hlk : l' ≠ k := fun e => hkT (e ▸ hb.1)
  refine ⟨fun j => ?_, fun e => by simp at e, fun _ => ⟨k, rfl, bk, fun t ht => by simp at ht; subst ht; exact .refl _ _⟩⟩
  by_cases hj : j = k
  · subst hj; simp [bk]
  · rw [if_neg hj]
    by_cases hjl : j = l'
    · subst hjl
      simp only [if_true, Bool.false_eq_true, false_iff]
      exact fun hB => hB.2 k (by simp) hs.symm kl
    · rw [if_neg hjl, h.c]
      constructor
      · rintro ⟨h1, h2⟩
        refine ⟨List.mem_append_left _ h1, fun i hi hsi => ?_⟩
        rcases List.mem_append.1 hi with hi | hi
        · exact h2 i hi hsi
        · simp at hi; subst hi
          exact absurd (Less.total (h2 l' hb.1 (hs.trans hsi)) (hb.2 j h1 (hsi.symm.trans hs.symm))) (fun e => hjl e.symm)
      · rintro ⟨h1, h2⟩
        rcases List.mem_append.1 h1 with h1 | h1
        · exact ⟨h1, fun i hi hs => h2 i (List.mem_append_left _ hi) hs⟩
        · simp at h1; exact absurd h1 hj

/-- It is of the last one's ends, and no less. -/
theorem Scan.more {arcs : List Arc} {T : List Nat} {l k : Nat} {c : Nat → Bool} (h : Scan arcs T l c) (hp : (T ++ [k]).Pairwise (Lex arcs)) (hs : Same arcs l k) (hw : ¬ wtA arcs k < wtA arcs l) :
    Scan arcs (T ++ [k]) l c := by
  have hT : T ≠ [] := fun e => by have := h.none e; omega
  obtain ⟨l', hl, hb, hg⟩ := h.last hT
  obtain rfl : l' = l := by omega
  have hlex := (List.pairwise_append.1 hp).2.2 l' hb.1 k (by simp)
  have lk : Less arcs l' k := by unfold Lex at hlex; unfold Same at hs; unfold Less; omega
  have up : ∀ {j}, Best arcs T j → Best arcs (T ++ [k]) j := fun {j} ⟨h1, h2⟩ => ⟨List.mem_append_left _ h1, fun i hi hsi => by
    rcases List.mem_append.1 hi with hi | hi
    · exact h2 i hi hsi
    · simp at hi; subst hi
      intro hlt
      exact h2 l' hb.1 (hs.trans hsi) (lk.trans hlt)⟩
  refine ⟨fun j => ?_, fun e => by simp at e, fun _ => ⟨l', rfl, up hb, fun t ht => by simp at ht; subst ht; exact hs⟩⟩
  rw [h.c]
  constructor
  · exact up
  · rintro ⟨h1, h2⟩
    rcases List.mem_append.1 h1 with h1 | h1
    · exact ⟨h1, fun i hi hs => h2 i (List.mem_append_left _ hi) hs⟩
    · simp at h1; subst h1
      exact absurd lk (h2 l' (List.mem_append_left _ hb.1) hs)

theorem scan_start (arcs : List Arc) : Scan arcs [] (-1) (fun _ => false) := ⟨fun k => by simp [Best], fun _ => rfl, fun h => absurd rfl h⟩

/-- All are scanned. -/
theorem Scan.all {n : Int} {arcs : List Arc} {last : Int} {c : Nat → Bool} (ok : OkMap n arcs) (h : Scan arcs (byBoth n.toNat (noLoops arcs) (frA arcs) (toA arcs)) last c) :
    (List.range arcs.length).filter c = keptL arcs := by
  have hm : ∀ k, k ∈ byBoth n.toNat (noLoops arcs) (frA arcs) (toA arcs) ↔ k < arcs.length ∧ frA arcs k ≠ toA arcs k := fun k => by
    unfold byBoth
    rw [mem_sortedL, mem_sortedL]
    simp only [noLoops, List.mem_filter, List.mem_range, bne_iff_ne, and_assoc]
    constructor
    · rintro ⟨h1, h2, _, _⟩
      have f := ok.fr h1; have t := ok.to h1
      exact ⟨h1, fun e => h2 (by omega)⟩
    · rintro ⟨h1, h2⟩
      have f := ok.fr h1; have t := ok.to h1
      exact ⟨h1, fun e => h2 (by omega), t.2, f.2⟩
  unfold keptL
  apply List.filter_congr
  intro k hk
  rw [List.mem_range] at hk
  rw [Bool.eq_iff_iff, h.c, decide_eq_true_iff]
  constructor
  · rintro ⟨h1, h2⟩
    have := ((hm k).1 h1).2
    refine ⟨this, fun i hi hs => h2 i ((hm i).2 ⟨hi, ?_⟩) hs⟩
    unfold Same at hs; omega
  · rintro ⟨h1, h2⟩
    exact ⟨(hm k).2 ⟨hk, h1⟩, fun j hj hs => h2 j ((hm j).1 hj).1 hs⟩
end Go.Sh
