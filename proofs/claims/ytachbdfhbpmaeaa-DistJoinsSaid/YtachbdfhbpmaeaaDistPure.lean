/- How far it is in a map, in plain words; the graph's edges tell the same. -/
import Derived.Test.YtachbdfhbpmaeaaGraphLeast
import Derived.Test.YtachbdfhbpmaeaaContr2
set_option maxRecDepth 100000
namespace Go.Sh
open Go.RowKit

/-- How far it is by arcs; below 0: there is no way. -/
noncomputable def dst (arcs : List Arc) (s v : Nat) : Int := by
  classical exact if h : ∃ x, IsD (EA arcs) s v x then h.choose else -1

section
variable {N : Int} {arcs : List Arc}
theorem EA_arc (ok : OkMap N arcs) {u v : Nat} {x : Int} (h : EA arcs u v x) : ∃ k, k < arcs.length ∧ frA arcs k = u ∧ toA arcs k = v ∧ wtA arcs k = x ∧ (u : Int) < N ∧ (v : Int) < N ∧ 0 ≤ x ∧ x ≤ 2147483648 := by
  obtain ⟨k, hk⟩ := h
  have hl := (List.getElem?_eq_some_iff.1 hk).1
  have he := (List.getElem?_eq_some_iff.1 hk).2
  rw [arcA_get hl] at he
  have := ok.at hl
  unfold OkArc at this
  rw [he] at this
  simp only at this
  exact ⟨k, hl, by unfold frA; rw [he]; simp, by unfold toA; rw [he]; simp, by unfold wtA; rw [he], by omega, by omega, by omega, by omega⟩
theorem EA_of (ok : OkMap N arcs) {k : Nat} (hk : k < arcs.length) : EA arcs (frA arcs k) (toA arcs k) (wtA arcs k) := by
  refine ⟨k, ?_⟩
  rw [List.getElem?_eq_getElem hk, arcA_get hk]
  have h1 := (ok.fr hk).1
  have h2 := (ok.to hk).1
  rw [← h1, ← h2]; rfl
theorem EA_pos (ok : OkMap N arcs) : ∀ u v x, EA arcs u v x → 0 ≤ x := fun u v x h => by
  obtain ⟨_, _, _, _, _, _, _, h, _⟩ := EA_arc ok h; exact h
theorem dst_is (ok : OkMap N arcs) (s v : Nat) : IsD (EA arcs) s v (dst arcs s v) := by
  have h := IsD.ex (EA_pos ok) s v
  unfold dst
  rw [dif_pos h]; exact h.choose_spec

theorem Wk.loops {E F : Nat → Nat → Int → Prop} (h0 : ∀ u v x, E u v x → 0 ≤ x) (hE : ∀ u v x, E u v x → u ≠ v → ∃ y, y ≤ x ∧ F u v y) {s v : Nat} {d : Int} (h : Wk E s v d) : ∃ y, y ≤ d ∧ Wk F s v y := by
  induction h with
  | nil => exact ⟨0, by omega, .nil⟩
  | snoc hw e ih =>
    rename_i u v d x
    obtain ⟨y, hy, hyw⟩ := ih
    by_cases huv : u = v
    · subst huv; have := h0 _ _ _ e; exact ⟨y, by omega, hyw⟩
    · obtain ⟨z, hz, hz2⟩ := hE u v x e huv
      exact ⟨y + z, by omega, hyw.snoc hz2⟩

theorem outE_EA (ok : OkMap N arcs) {u : Nat} {e : Arc} (he : e ∈ outE N arcs (u : Int)) : ∃ v : Nat, e.1 = (v : Int) ∧ EA arcs u v e.2.1 ∧ u ≠ v := by
  obtain ⟨k, hk, hf, rfl⟩ := (mem_outE ok).1 he
  have := EA_of ok (kept_lt hk)
  refine ⟨toA arcs k, rfl, ?_, ?_⟩
  · rw [show frA arcs k = u by omega] at this; exact this
  · have h := (mem_keptL.1 hk).2.1
    rw [show frA arcs k = u by omega] at h; exact h
theorem EA_outE (ok : OkMap N arcs) {u v : Nat} {x : Int} (h : EA arcs u v x) (hne : u ≠ v) : ∃ e ∈ outE N arcs (u : Int), e.1 = (v : Int) ∧ e.2.1 ≤ x := by
  obtain ⟨i, hi, rfl, rfl, rfl, _⟩ := EA_arc ok h
  obtain ⟨k, hk, hs⟩ := kept_exists hi hne
  refine ⟨_, (mem_outE ok).2 ⟨k, hk, by rw [hs.1], rfl⟩, by simp only; rw [hs.2], ?_⟩
  have := (mem_keptL.1 hk).2.2 i hi hs.symm
  unfold Less at this
  simp only; omega

theorem EE_EA (ok : OkMap N arcs) {n : Nat} (_hn : N = (n : Int)) {u v : Nat} {x : Int} (h : EE' n (fun u => outE N arcs (u : Int)) u v x) : EA arcs u v x := by
  obtain ⟨hu, e, he, h1, h2⟩ := h
  obtain ⟨v', q1, q2, _⟩ := outE_EA ok he
  rw [show v = v' by omega, ← h2]; exact q2
theorem isD_out (ok : OkMap N arcs) {n : Nat} (hn : N = (n : Int)) {s v : Nat} {x : Int} (h : IsD (EE' n fun u => outE N arcs (u : Int)) s v x) : x = dst arcs s v := by
  refine IsD.uniq (h.same (F := EA arcs) (fun d hd => ⟨d, by omega, hd.mono fun u v x e => EE_EA ok hn e⟩) fun d hd => ?_) (dst_is ok s v)
  refine hd.loops (EA_pos ok) fun u v x e hne => ?_
  obtain ⟨_, _, _, _, _, hu, _⟩ := EA_arc ok e
  obtain ⟨a, ha, h1, h2⟩ := EA_outE ok e hne
  exact ⟨a.2.1, h2, by omega, a, ha, h1, rfl⟩
theorem EA_turn {u v : Nat} {x : Int} : EA (arcs.map turn) u v x ↔ EA arcs v u x := by
  unfold EA
  constructor
  · rintro ⟨k, hk⟩
    rw [List.getElem?_map] at hk
    refine ⟨k, ?_⟩
    cases h : arcs[k]? with
    | none => rw [h] at hk; cases hk
    | some a =>
      rw [h] at hk
      simp only [Option.map_some, Option.some.injEq] at hk
      obtain ⟨a1, a2, a3⟩ := a
      unfold turn at hk
      simp only [Prod.mk.injEq] at hk
      obtain ⟨rfl, rfl, rfl⟩ := hk
      rfl
  · rintro ⟨k, hk⟩
    exact ⟨k, by rw [List.getElem?_map, hk]; rfl⟩
theorem wk_turn {s v : Nat} {d : Int} : Wk (EA (arcs.map turn)) s v d ↔ Wk (EA arcs) v s d := by
  constructor
  · intro h
    exact (h.mono (F := fun a b x => EA arcs b a x) fun u v x e => EA_turn.1 e).rev
  · intro h
    exact (h.rev).mono fun u v x e => EA_turn.2 e
theorem dst_turn (ok : OkMap N arcs) (s v : Nat) : dst (arcs.map turn) s v = dst arcs v s := by
  have h := dst_is ok v s
  refine IsD.uniq (dst_is (ok_turn ok) s v) ?_
  rcases h with ⟨h1, h2⟩ | ⟨h1, h2, h3⟩
  · rw [h1]; exact .inl ⟨rfl, fun d hd => h2 d (wk_turn.1 hd)⟩
  · exact .inr ⟨h1, wk_turn.2 h2, fun d hd => h3 d (wk_turn.1 hd)⟩

/-- From a place; to a place; between two. -/
noncomputable def distL (N : Int) (arcs : List Arc) (s : Int) : List Int := if 0 ≤ s ∧ s < N then fi N.toNat fun v => dst arcs s.toNat v else []
noncomputable def toL (N : Int) (arcs : List Arc) (t : Int) : List Int := if 0 ≤ t ∧ t < N then fi N.toNat fun v => dst arcs v t.toNat else []
noncomputable def betF (N : Int) (arcs : List Arc) (s t : Int) : Int := if 0 ≤ s ∧ s < N ∧ 0 ≤ t ∧ t < N then dst arcs s.toNat t.toNat else -1
noncomputable def arndL (N : Int) (arcs : List Arc) (s most : Int) : List Int := if 0 ≤ s ∧ s < N then ((List.range N.toNat).filter fun v => decide (0 ≤ dst arcs s.toNat v ∧ dst arcs s.toNat v ≤ most)).map (fun (v : Nat) => (v : Int)) else []
theorem toL_turn (ok : OkMap N arcs) (t : Int) : distL N (arcs.map turn) t = toL N arcs t := by
  unfold distL toL
  split
  · exact fi_congr fun j _ => dst_turn ok _ _
  · rfl
theorem dst_ge (ok : OkMap N arcs) (s v : Nat) : dst arcs s v = -1 ∨ 0 ≤ dst arcs s v := (dst_is ok s v).ge
theorem dst_self (ok : OkMap N arcs) (s : Nat) : dst arcs s s = 0 := IsD.uniq (dst_is ok s s) (IsD.self (EA_pos ok))
/-- No distance is great. -/
theorem dst_le (ok : OkMap N arcs) {B : Int} (hB : ∀ s v d, Wk (EA arcs) s v d → ∃ d', d' ≤ B ∧ Wk (EA arcs) s v d') (s v : Nat) : dst arcs s v ≤ B ∨ dst arcs s v = -1 := by
  rcases dst_is ok s v with ⟨h, _⟩ | ⟨h0, h1, h2⟩
  · exact .inr h
  · obtain ⟨d', hd, hw⟩ := hB _ _ _ h1
    have := h2 d' hw
    exact .inl (by omega)
end
end Go.Sh
