/- What spoils a hierarchy, in plain lists. -/
import Derived.Test.YtoomennincfkgaaHierRef2
set_option maxRecDepth 100000
namespace Go.Sh
open Go.RowKit

theorem odd_rank {rank : List Int} {f t : Nat} (hf : f < rank.length) (ht : t < rank.length) (hne : f ≠ t) : ¬ OkR (rank.set f rank[t]) := fun h => by
  have hf' : f < (rank.set f rank[t]).length := by simpa using hf
  have ht' : t < (rank.set f rank[t]).length := by simpa using ht
  have e : (rank.set f rank[t])[f] = (rank.set f rank[t])[t] := by rw [List.getElem_set_self, List.getElem_set_ne hne]
  exact hne ((List.getElem_inj (h₀ := hf') (h₁ := ht') h.2).1 e)

theorem odd_twice {n : Nat} {ways : List Wy} {k : Nat} (hk : k < ways.length) : ¬ OkFs n (ways ++ [ways[k]]) := fun h => by
  have h1 := (h ways.length (by simp)).1
  have e1 : (ways ++ [ways[k]])[ways.length]'(by simp) = ways[k] := by simp
  have e2 : (ways ++ [ways[k]]).take ways.length = ways := by simp
  rw [e1, e2] at h1
  exact findW_none h1 k hk ⟨rfl, rfl⟩

def setW (y : Wy) (x : Int) : Wy := (yF y, yT y, x, yM y, yA y)
theorem findW_set {ways : List Wy} {k : Nat} (hk : k < ways.length) (x : Int) (u v : Int) : findW (ways.set k (setW ways[k] x)) u v = findW ways u v := by
  have key : ∀ l : List Wy, findW l u v = (l.map fun y => (yF y, yT y)).findIdx? fun p => p.1 == u && p.2 == v := fun l => by
    rw [List.findIdx?_map]; rfl
  rw [key, key]
  congr 1
  apply List.ext_getElem
  · simp
  · intro i h1 h2
    simp only [List.getElem_map, List.getElem_set]
    split
    · rename_i e; subst e; rfl
    · rfl
theorem odd_long {rank : List Int} {ways : List Wy} (ok : OkH rank ways) {k : Nat} (hk : k < ways.length) {x : Int} (hm : yM ways[k] ≠ -1) (hx : x ≠ yW ways[k]) : ¬ OkH rank (ways.set k (setW ways[k] x)) := fun h => by
  have hmem : setW ways[k] x ∈ ways.set k (setW ways[k] x) := List.mem_set hk _
  have h1 := h.w _ hmem
  have h0 := ok.w _ (List.getElem_mem hk)
  unfold OkW at h0 h1
  rw [if_neg hm] at h0
  rw [if_neg (show ¬ yM (setW ways[k] x) = -1 from hm)] at h1
  obtain ⟨_, _, _, q4, q5, a, b, q6, q7, q8⟩ := h0
  obtain ⟨_, _, _, _, _, a', b', p6, p7, p8⟩ := h1
  rw [findW_set hk] at p6 p7
  change findW ways (yF ways[k]) (yM ways[k]) = some a' at p6
  change findW ways (yM ways[k]) (yT ways[k]) = some b' at p7
  rw [q6] at p6; rw [q7] at p7
  injection p6 with p6; injection p7 with p7
  subst p6 p7
  obtain ⟨ha, a1, a2, _⟩ := findW_some q6
  obtain ⟨hb, b1, b2, _⟩ := findW_some q7
  have ea : a ≠ k := fun e => by subst e; rw [← a2] at q5; omega
  have eb : b ≠ k := fun e => by subst e; rw [← b1] at q4; omega
  have w1 : ∀ j, j ≠ k → wW (ways.set k (setW ways[k] x)) j = wW ways j := fun j hj => by
    unfold wW
    rw [List.getD_eq_getElem?_getD, List.getD_eq_getElem?_getD, List.getElem?_set_ne (Ne.symm hj)]
  rw [w1 a ea, w1 b eb] at p8
  change wW ways a + wW ways b = x at p8
  omega
end Go.Sh
