/- GraphLeast. -/
import Derived.Test.YtachbdfhbpmaeaaGraphLoops
set_option maxRecDepth 100000
namespace Go.Sh
open Go.RowKit

theorem kept_exists {arcs : List Arc} {i : Nat} (hi : i < arcs.length) (hne : frA arcs i ≠ toA arcs i) : ∃ k, k ∈ keptL arcs ∧ Same arcs k i := by
  have h : ∀ m, (∃ j, j < m ∧ Same arcs j i) → ∃ k, k < m ∧ Same arcs k i ∧ ∀ j, j < m → Same arcs j i → ¬ Less arcs j k := by
    intro m
    induction m with
    | zero => rintro ⟨j, hj, _⟩; omega
    | succ m ih =>
      rintro ⟨j, hj, hs⟩
      by_cases hex : ∃ j, j < m ∧ Same arcs j i
      · obtain ⟨k, hk, hks, hmin⟩ := ih hex
        by_cases hm : Same arcs m i ∧ Less arcs m k
        · refine ⟨m, by omega, hm.1, fun j' hj' hs' hl => ?_⟩
          by_cases e : j' = m
          · subst e; exact Less.irrefl _ hl
          · exact hmin j' (by omega) hs' (hl.trans hm.2)
        · refine ⟨k, by omega, hks, fun j' hj' hs' hl => ?_⟩
          by_cases e : j' = m
          · subst e; exact hm ⟨hs', hl⟩
          · exact hmin j' (by omega) hs' hl
      · have e : j = m := Nat.le_antisymm (by omega) (Nat.le_of_not_lt fun h => hex ⟨j, h, hs⟩)
        subst e
        refine ⟨j, by omega, hs, fun j' hj' hs' hl => ?_⟩
        by_cases e : j' = j
        · subst e; exact Less.irrefl _ hl
        · exact hex ⟨j', by omega, hs'⟩
  obtain ⟨k, hk, hks, hmin⟩ := h arcs.length ⟨i, hi, .refl _ _⟩
  refine ⟨k, mem_keptL.2 ⟨hk, ?_, fun j hj hs => hmin j hj (hs.trans hks)⟩, hks⟩
  unfold Same at hks; omega

/-- An edge out of a place. -/
theorem mem_outE {N : Int} {arcs : List Arc} (ok : OkMap N arcs) {v : Int} {e : Arc} : e ∈ outE N arcs v ↔ ∃ k, k ∈ keptL arcs ∧ (frA arcs k : Int) = v ∧ e = ((toA arcs k : Int), wtA arcs k, (k : Int)) := by
  unfold outE
  have hn := ok.n0
  split
  · rename_i hv
    unfold edgeL
    rw [List.mem_map]
    constructor
    · rintro ⟨k, hk, rfl⟩
      rw [mem_outK] at hk
      exact ⟨k, hk.1, by omega, rfl⟩
    · rintro ⟨k, hk, hf, rfl⟩
      exact ⟨k, mem_outK.2 ⟨hk, (ok.to (kept_lt hk)).2, by omega⟩, rfl⟩
  · rename_i hv
    constructor
    · intro h; simp at h
    · rintro ⟨k, hk, hf, _⟩
      have := (ok.fr (kept_lt hk)).2
      omega
theorem mem_inE {N : Int} {arcs : List Arc} (ok : OkMap N arcs) {v : Int} {e : Arc} : e ∈ inE N arcs v ↔ ∃ k, k ∈ keptL arcs ∧ (toA arcs k : Int) = v ∧ e = ((frA arcs k : Int), wtA arcs k, (k : Int)) := by
  rw [← outE_turn, mem_outE (ok_turn ok), keptL_turn, fr_turn, to_turn, wt_turn]

theorem best_some {N : Int} {arcs : List Arc} (ok : OkMap N arcs) {u v : Int} {e : Arc} (h : bestF N arcs u v = some e) : ∃ k, k ∈ keptL arcs ∧ (frA arcs k : Int) = u ∧ (toA arcs k : Int) = v ∧ e = (v, wtA arcs k, (k : Int)) := by
  unfold bestF at h
  have h1 := List.mem_of_find?_eq_some h
  have h2 := List.find?_some h
  obtain ⟨k, hk, hf, rfl⟩ := (mem_outE ok).1 h1
  simp only [beq_iff_eq] at h2
  exact ⟨k, hk, hf, h2, by rw [h2]⟩
theorem best_none {N : Int} {arcs : List Arc} (ok : OkMap N arcs) {u v : Int} (h : bestF N arcs u v = none) : ∀ k, k ∈ keptL arcs → (frA arcs k : Int) = u → (toA arcs k : Int) = v → False := by
  intro k hk hf ht
  unfold bestF at h
  rw [List.find?_eq_none] at h
  refine h _ ((mem_outE ok).2 ⟨k, hk, hf, rfl⟩) ?_
  simpa using ht

/-- One arc more, no less than one that is in. -/
theorem keptL_more {arcs : List Arc} {i : Nat} {x : Arc} (hi : i < arcs.length) (h1 : x.1 = (arcA arcs i).1) (h2 : x.2.1 = (arcA arcs i).2.1) (h3 : (arcA arcs i).2.2 ≤ x.2.2) : keptL (arcs ++ [x]) = keptL arcs := by
  have hlast : arcA (arcs ++ [x]) arcs.length = x := by
    unfold arcA; rw [List.getD_eq_getElem?_getD, List.getElem?_append_right (Nat.le_refl _)]; simp
  have sl : Same (arcs ++ [x]) arcs.length i := by
    unfold Same frA toA; rw [hlast, arcA_front hi, h1, h2]; exact ⟨rfl, rfl⟩
  have ll : ¬ wtA (arcs ++ [x]) arcs.length < wtA (arcs ++ [x]) i := by
    unfold wtA; rw [hlast, arcA_front hi]; omega
  unfold keptL
  rw [List.length_append, List.range_add, List.filter_append]
  have e2 : ((List.range [x].length).map (arcs.length + ·)).filter (fun k => decide (Kept (arcs ++ [x]) k)) = [] := by
    rw [List.filter_eq_nil_iff]
    intro k hk
    obtain ⟨j, hj, rfl⟩ := List.mem_map.1 hk
    have : j = 0 := by simpa using hj
    subst this
    simp only [decide_eq_true_eq, Nat.add_zero]
    refine fun hK => hK.2 i (by rw [List.length_append]; omega) sl.symm ?_
    unfold Less; omega
  rw [e2, List.append_nil]
  apply List.filter_congr
  intro k hk
  rw [List.mem_range] at hk
  rw [decide_eq_decide]
  have fk : frA (arcs ++ [x]) k = frA arcs k := by unfold frA; rw [arcA_front hk]
  have tk : toA (arcs ++ [x]) k = toA arcs k := by unfold toA; rw [arcA_front hk]
  have same : ∀ {a b}, a < arcs.length → b < arcs.length → (Same (arcs ++ [x]) a b ↔ Same arcs a b) := fun ha hb => by
    unfold Same frA toA; rw [arcA_front ha, arcA_front hb]
  have less : ∀ {a b}, a < arcs.length → b < arcs.length → (Less (arcs ++ [x]) a b ↔ Less arcs a b) := fun ha hb => by
    unfold Less wtA; rw [arcA_front ha, arcA_front hb]
  unfold Kept
  rw [fk, tk]
  constructor
  · rintro ⟨q1, q2⟩
    exact ⟨q1, fun j hj hs hl => q2 j (by rw [List.length_append]; omega) ((same hj hk).2 hs) ((less hj hk).2 hl)⟩
  · rintro ⟨q1, q2⟩
    refine ⟨q1, fun j hj hs hl => ?_⟩
    by_cases hj' : j < arcs.length
    · exact q2 j hj' ((same hj' hk).1 hs) ((less hj' hk).1 hl)
    · have : j = arcs.length := by rw [List.length_append] at hj; simp at hj; omega
      subst this
      have hs2 := (same hi hk).1 (sl.symm.trans hs)
      have := q2 i hi hs2
      rw [← less hi hk] at this
      unfold Less at this hl; omega

theorem GNew_any {CV : CVT} (hcv : GraphCV CV) {w : World} {N : Int} {s : SV} {arcs : List Arc} {K : Option Addr → World → Prop} (h : View RD w s arcs)
    (hk : ∀ p w', Ext w w' → (p = none ∨ ∃ F, GraphA w' p N arcs F) → K p w') : sh_graph_New CV N s K w :=
  GNew_ok hcv h (fun _ p w' F e hG _ => hk p w' e (.inr ⟨F, hG⟩)) (fun _ w' e => hk none w' e (.inl rfl))

end Go.Sh
