/- The graph's methods. -/
import Derived.Test.YtoomennincfkgaaGraphNew
set_option maxRecDepth 100000
namespace Go.Sh
open Go.RowKit

/-- The edges out of a place, and into it. -/
def outE (N : Int) (arcs : List Arc) (v : Int) : List Arc := if 0 ≤ v ∧ v < N then edgeL arcs (toA arcs) (outK N.toNat (keptL arcs) (frA arcs) (toA arcs) v.toNat) else []
def inE (N : Int) (arcs : List Arc) (v : Int) : List Arc := if 0 ≤ v ∧ v < N then edgeL arcs (frA arcs) (outK N.toNat (keptL arcs) (toA arcs) (frA arcs) v.toNat) else []

theorem edgeL_part (arcs : List Arc) (to : Nat → Nat) (S : List Nat) (a b : Nat) : ((edgeL arcs to S).drop a).take b = edgeL arcs to ((S.drop a).take b) := by
  unfold edgeL; rw [← List.map_drop, ← List.map_take]

section
variable {w w' : World} {p : Option Addr} {N : Int} {arcs : List Arc} {F : Nat → Prop}

theorem GraphA.some (h : GraphA w p N arcs F) : p.isNone = false := by
  obtain ⟨_, gb, _, _, _, _, _, _, _, _, rfl, _⟩ := h; rfl

theorem kept_lt {arcs : List Arc} {k : Nat} (h : k ∈ keptL arcs) : k < arcs.length := (mem_keptL.1 h).1

/-- One number more. -/
def stirF (h x : Int) : Int := bxor .u64 (IntKind.u64.wrap (bxor .u64 h (IntKind.u64.wrap x) * 1099511628211)) (bshr .u64 (IntKind.u64.wrap (bxor .u64 h (IntKind.u64.wrap x) * 1099511628211)) 32)
def stirA (h : Int) (a : Arc) : Int := stirF (stirF (stirF h a.1) a.2.1) a.2.2
def printF (N : Int) (arcs : List Arc) : Int := arcs.foldl stirA (stirF 14695981039346656037 N)
/-- What is told of two places. -/
def bestF (N : Int) (arcs : List Arc) (u v : Int) : Option Arc := (outE N arcs u).find? (fun e => e.1 == v)

theorem outE_pw (N : Int) (arcs : List Arc) (u : Int) : (outE N arcs u).Pairwise fun a b => a.1 < b.1 := by
  unfold outE
  split
  · unfold edgeL
    rw [List.pairwise_map]
    have h := outK_pw (n := N.toNat) (fr := frA arcs) (to := toA arcs) (v := u.toNat) (keptL_sorted arcs)
    refine (List.Pairwise.and_mem.1 h).imp fun {a b} ⟨ha, hb, hab⟩ => ?_
    rw [mem_outK] at ha hb
    have ka := mem_keptL.1 ha.1
    have kb := mem_keptL.1 hb.1
    simp only
    rcases hab with hab | ⟨hab, hlt⟩
    · omega
    · exfalso
      have hs : Same arcs a b := ⟨ha.2.2.trans hb.2.2.symm, hab⟩
      have := Less.total (kb.2.2 a ka.1 hs) (ka.2.2 b kb.1 hs.symm)
      omega
  · exact List.Pairwise.nil

theorem find_none {xs : List Arc} {v : Int} (h : ∀ i (hi : i < xs.length), xs[i].1 ≠ v) : xs.find? (fun e => e.1 == v) = none := by
  rw [List.find?_eq_none]
  intro x hx
  obtain ⟨i, hi, rfl⟩ := List.getElem_of_mem hx
  simpa using h i hi
theorem find_at {xs : List Arc} {v : Int} {i : Nat} (hi : i < xs.length) (h : xs[i].1 = v) (hb : ∀ j (hj : j < i), (xs[j]'(by omega)).1 ≠ v) : xs.find? (fun e => e.1 == v) = some xs[i] := by
  rw [List.find?_eq_some_iff_getElem]
  refine ⟨by simpa using h, i, hi, rfl, fun j hj => ?_⟩
  simpa using hb j hj

end
end Go.Sh
