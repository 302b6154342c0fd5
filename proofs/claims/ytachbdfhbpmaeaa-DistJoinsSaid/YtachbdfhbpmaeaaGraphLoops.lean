/- GraphLoops. -/
import Derived.Test.YtachbdfhbpmaeaaGraphTurned
set_option maxRecDepth 100000
namespace Go.Sh
open Go.RowKit

def RU8 : Rc Int where
  sz := 1
  enc e := [.int .u8 e]
  len _ := rfl
  pos := by decide
  z := 0
  one := by intro x v hv; simp at hv; subst hv; rfl
theorem u8_idx {w : World} {s : SV} {xs : List Int} (h : View RU8 w s xs) {i : Nat} (hl : i < xs.length) {K : Addr → Prop}
    (hk : ∀ a, w.cell? a = some (.int .u8 xs[i]) → K a) : Idx s.a s.len (i : Int) 1 K := by
  refine View.idx (R := RU8) h (by omega) (by simpa using hl) fun a ha hc => ?_
  have := hc 0 _ rfl
  simp only [Int.toNat_natCast] at this
  obtain ⟨b, o, sp⟩ := a
  simp only at ha; subst ha
  rw [add0] at this
  exact hk _ this

/-- Loops put behind: they count for nothing. -/
def IsLoop (a : Arc) : Prop := a.1 = a.2.1
theorem arcA_front {as ls : List Arc} {k : Nat} (h : k < as.length) : arcA (as ++ ls) k = arcA as k := by
  unfold arcA; rw [List.getD_eq_getElem?_getD, List.getD_eq_getElem?_getD, List.getElem?_append_left h]
theorem arcA_back {as ls : List Arc} (hl : ∀ a ∈ ls, IsLoop a) {k : Nat} (h : ¬ k < as.length) : frA (as ++ ls) k = toA (as ++ ls) k := by
  unfold frA toA arcA
  rw [List.getD_eq_getElem?_getD, List.getElem?_append_right (by omega)]
  cases hk : ls[k - as.length]? with
  | none => rfl
  | some a => have := hl a (List.mem_of_getElem? hk); unfold IsLoop at this; simp [this]
theorem keptL_loops {as ls : List Arc} (hl : ∀ a ∈ ls, IsLoop a) : keptL (as ++ ls) = keptL as := by
  unfold keptL
  rw [List.length_append, List.range_add, List.filter_append]
  have h2 : ((List.range ls.length).map (as.length + ·)).filter (fun k => decide (Kept (as ++ ls) k)) = [] := by
    rw [List.filter_eq_nil_iff]
    intro k hk
    obtain ⟨j, _, rfl⟩ := List.mem_map.1 hk
    simp only [decide_eq_true_eq]
    exact fun hK => hK.1 (arcA_back hl (by omega))
  rw [h2, List.append_nil]
  apply List.filter_congr
  intro k hk
  rw [List.mem_range] at hk
  rw [decide_eq_decide]
  have fk : frA (as ++ ls) k = frA as k := by unfold frA; rw [arcA_front hk]
  have tk : toA (as ++ ls) k = toA as k := by unfold toA; rw [arcA_front hk]
  have wk : wtA (as ++ ls) k = wtA as k := by unfold wtA; rw [arcA_front hk]
  unfold Kept Same Less
  constructor
  · rintro ⟨h1, h2⟩
    refine ⟨by rw [fk, tk] at h1; exact h1, fun i hi hs => ?_⟩
    have := h2 i (by rw [List.length_append]; omega)
    rw [fk, tk, wk] at this
    unfold frA toA wtA at *
    rw [arcA_front hi] at this
    exact this hs
  · rintro ⟨h1, h2⟩
    refine ⟨by rw [fk, tk]; exact h1, fun i hi hs => ?_⟩
    by_cases hi' : i < as.length
    · have := h2 i hi'
      rw [fk, tk] at hs
      rw [wk]
      unfold frA toA wtA at *
      rw [arcA_front hi'] at hs ⊢
      exact this hs
    · exfalso
      have := arcA_back hl hi'
      rw [hs.1, hs.2, fk, tk] at this
      exact h1 this
theorem outK_congr {n : Nat} {l : List Nat} {fr to fr' to' : Nat → Nat} (h : ∀ k ∈ l, fr k = fr' k ∧ to k = to' k) (v : Nat) : outK n l fr to v = outK n l fr' to' v := by
  have h1 : sortedL n l to = sortedL n l to' := by
    unfold sortedL
    exact congrArg (fun f => (List.range n).flatMap f) (funext fun u => List.filter_congr fun k hk => by rw [(h k hk).2])
  unfold outK
  rw [h1]
  exact List.filter_congr fun k hk => by rw [(h k (mem_sortedL.1 hk).1).1]
theorem outE_loops {N : Int} {as ls : List Arc} (hl : ∀ a ∈ ls, IsLoop a) (v : Int) : outE N (as ++ ls) v = outE N as v := by
  unfold outE
  rw [keptL_loops hl]
  have fk : ∀ k ∈ keptL as, frA (as ++ ls) k = frA as k ∧ toA (as ++ ls) k = toA as k := fun k hk => ⟨by unfold frA; rw [arcA_front (kept_lt hk)], by unfold toA; rw [arcA_front (kept_lt hk)]⟩
  rw [outK_congr fk]
  split
  · unfold edgeL
    refine List.map_congr_left fun k hk => ?_
    have hk' := (mem_outK.1 hk).1
    rw [(fk k hk').2]
    unfold wtA; rw [arcA_front (kept_lt hk')]
  · rfl
theorem keptL_nil : keptL [] = [] := rfl
theorem outE_nil (N v : Int) : outE N [] v = [] := by
  unfold outE
  split
  · have : outK N.toNat (keptL []) (frA []) (toA []) v.toNat = [] := List.eq_nil_iff_forall_not_mem.2 fun k hk => by
      have := (mem_outK.1 hk).1; rw [keptL_nil] at this; simp at this
    rw [this]; rfl
  · rfl
theorem inE_nil (N v : Int) : inE N [] v = [] := by
  have := outE_turn N [] v
  rw [List.map_nil, outE_nil] at this; exact this.symm

end Go.Sh
