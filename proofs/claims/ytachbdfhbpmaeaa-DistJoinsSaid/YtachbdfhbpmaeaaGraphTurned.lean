/- GraphTurned. -/
import Derived.Test.YtachbdfhbpmaeaaGraphRef
set_option maxRecDepth 100000
namespace Go.Sh
open Go.RowKit

def turn (a : Arc) : Arc := (a.2.1, a.1, a.2.2)
theorem arcA_turn (arcs : List Arc) (k : Nat) : arcA (arcs.map turn) k = turn (arcA arcs k) := by
  unfold arcA
  rw [List.getD_eq_getElem?_getD, List.getD_eq_getElem?_getD, List.getElem?_map]
  cases arcs[k]? <;> rfl
theorem fr_turn (arcs : List Arc) : frA (arcs.map turn) = toA arcs := funext fun k => by unfold frA toA; rw [arcA_turn]; rfl
theorem to_turn (arcs : List Arc) : toA (arcs.map turn) = frA arcs := funext fun k => by unfold frA toA; rw [arcA_turn]; rfl
theorem wt_turn (arcs : List Arc) : wtA (arcs.map turn) = wtA arcs := funext fun k => by unfold wtA; rw [arcA_turn]; rfl
theorem keptL_turn (arcs : List Arc) : keptL (arcs.map turn) = keptL arcs := by
  unfold keptL
  rw [List.length_map]
  apply List.filter_congr
  intro k _
  rw [decide_eq_decide]
  unfold Kept Same Less
  rw [fr_turn, to_turn, wt_turn, List.length_map]
  constructor
  · rintro ⟨h1, h2⟩; exact ⟨Ne.symm h1, fun i hi hs => h2 i hi ⟨hs.2, hs.1⟩⟩
  · rintro ⟨h1, h2⟩; exact ⟨Ne.symm h1, fun i hi hs => h2 i hi ⟨hs.2, hs.1⟩⟩
theorem edgeL_turn (arcs : List Arc) (to : Nat → Nat) (S : List Nat) : edgeL (arcs.map turn) to S = edgeL arcs to S := by unfold edgeL; rw [wt_turn]
theorem inE_turn (N : Int) (arcs : List Arc) (v : Int) : inE N (arcs.map turn) v = outE N arcs v := by
  unfold inE outE; rw [fr_turn, to_turn, keptL_turn, edgeL_turn]
theorem outE_turn (N : Int) (arcs : List Arc) (v : Int) : outE N (arcs.map turn) v = inE N arcs v := by
  unfold inE outE; rw [fr_turn, to_turn, keptL_turn, edgeL_turn]
theorem ok_turn {N : Int} {arcs : List Arc} (h : OkMap N arcs) : OkMap N (arcs.map turn) :=
  ⟨h.n0, h.n1, by rw [List.length_map]; exact h.len, fun a ha => by
    obtain ⟨b, hb, rfl⟩ := List.mem_map.1 ha
    have := h.arc b hb
    unfold OkArc at *; unfold turn; simp only; omega⟩
theorem outE_len {N : Int} {arcs : List Arc} (ok : OkMap N arcs) (v : Int) : (outE N arcs v).length < 2 ^ 40 := by
  have hl := ok.len
  unfold outE
  split
  · rw [edgeL_len]
    have h1 := List.length_filter_le (frA arcs · == v.toNat) (sortedL N.toNat (keptL arcs) (toA arcs))
    have h2 := sortedL_len (n := N.toNat) (l := keptL arcs) (e := toA arcs) fun k hk => (ok.to (kept_lt hk)).2
    have h3 := keptL_len arcs
    unfold outK; omega
  · simp
theorem inE_len {N : Int} {arcs : List Arc} (ok : OkMap N arcs) (v : Int) : (inE N arcs v).length < 2 ^ 40 := by
  rw [← outE_turn]; exact outE_len (ok_turn ok) v
theorem kept_len40 {N : Int} {arcs : List Arc} (ok : OkMap N arcs) : (ints (keptL arcs)).length < 2 ^ 40 := by
  have := keptL_len arcs; have := ok.len; rw [ints_len]; omega

end Go.Sh
