/- No place is farther than all arcs together. -/
import Derived.Test.YtachbdfhbpmaeaaDistPure
set_option maxRecDepth 100000
namespace Go.Sh
open Go.RowKit

/-- The lengths of the arcs to some places. -/
def tsum (Q : Nat → Bool) : List Arc → Int
  | [] => 0
  | a :: l => (if Q a.2.1.toNat then a.2.2 else 0) + tsum Q l
def totW : List Arc → Int
  | [] => 0
  | a :: l => a.2.2 + totW l
theorem tsum_le {Q : Nat → Bool} : ∀ {l : List Arc}, (∀ a ∈ l, 0 ≤ a.2.2) → tsum Q l ≤ totW l
  | [], _ => Int.le_refl _
  | a :: l, h => by
    have := tsum_le (Q := Q) (l := l) fun b hb => h b (List.mem_cons_of_mem _ hb)
    have := h a List.mem_cons_self
    unfold tsum totW; split <;> omega
theorem tsum_nn {Q : Nat → Bool} : ∀ {l : List Arc}, (∀ a ∈ l, 0 ≤ a.2.2) → 0 ≤ tsum Q l
  | [], _ => Int.le_refl _
  | a :: l, h => by
    have := tsum_nn (Q := Q) (l := l) fun b hb => h b (List.mem_cons_of_mem _ hb)
    have := h a List.mem_cons_self
    unfold tsum; split <;> omega
theorem tsum_mono {Q R : Nat → Bool} (hQ : ∀ j, Q j = true → R j = true) : ∀ {l : List Arc}, (∀ a ∈ l, 0 ≤ a.2.2) → tsum Q l ≤ tsum R l
  | [], _ => Int.le_refl _
  | a :: l, h => by
    have := tsum_mono hQ (l := l) fun b hb => h b (List.mem_cons_of_mem _ hb)
    have := h a List.mem_cons_self
    unfold tsum
    by_cases hq : Q a.2.1.toNat = true
    · rw [if_pos hq, if_pos (hQ _ hq)]; omega
    · rw [if_neg hq]; split <;> omega
theorem tsum_split {Q R : Nat → Bool} {u : Nat} (hQ : ∀ j, Q j = true → R j = true ∧ j ≠ u) (hu : R u = true) : ∀ {l : List Arc}, (∀ a ∈ l, 0 ≤ a.2.2) → ∀ a ∈ l, a.2.1.toNat = u → tsum Q l + a.2.2 ≤ tsum R l
  | [], _, a, ha, _ => by simp at ha
  | b :: l, h, a, ha, hau => by
    have hb := h b List.mem_cons_self
    have hl : ∀ c ∈ l, 0 ≤ c.2.2 := fun c hc => h c (List.mem_cons_of_mem _ hc)
    unfold tsum
    rcases List.mem_cons.1 ha with rfl | ha
    · have := tsum_mono (fun j hj => (hQ j hj).1) hl
      rw [if_neg (fun hq => (hQ _ hq).2 hau), if_pos (by rw [hau]; exact hu)]; omega
    · have := tsum_split hQ hu hl a ha hau
      by_cases hq : Q b.2.1.toNat = true
      · rw [if_pos hq, if_pos (hQ _ hq).1]; omega
      · rw [if_neg hq]; split <;> omega

/-- The last departure. -/
theorem Wk.depart {E : Nat → Nat → Int → Prop} {s v : Nat} {d : Int} (h : Wk E s v d) : v = s ∨ ∃ u x y, E s u x ∧ u ≠ s ∧ Wk (fun a b z => E a b z ∧ a ≠ s ∧ b ≠ s) u v y := by
  induction h with
  | nil => exact .inl rfl
  | snoc hw e ih =>
    rename_i u' v d x
    by_cases hv : v = s
    · exact .inl hv
    right
    rcases ih with rfl | ⟨u, x', y, h1, h2, h3⟩
    · exact ⟨v, x, 0, e, hv, .nil⟩
    · have hu' : u' ≠ s := h3.keep (P := fun j => j ≠ s) (fun _ _ _ q _ => q.2.2) h2
      exact ⟨u, x', y + x, h1, h2, h3.snoc ⟨e, hu', hv⟩⟩

theorem wk_tot {N : Int} {arcs : List Arc} (ok : OkMap N arcs) : ∀ (m : Nat) (A : List Nat), A.length ≤ m → ∀ (s v : Nat) (d : Int), s ∈ A → Wk (fun a b z => EA arcs a b z ∧ a ∈ A ∧ b ∈ A) s v d →
    ∃ y, y ≤ tsum (fun j => decide (j ∈ A ∧ j ≠ s)) arcs ∧ Wk (EA arcs) s v y
  | 0, A, hA, s, v, d, hs, _ => by
    have : A = [] := List.eq_nil_of_length_eq_zero (by omega)
    subst this; simp at hs
  | m + 1, A, hA, s, v, d, hs, hw => by
    have pos : ∀ a ∈ arcs, 0 ≤ a.2.2 := fun a ha => (ok.arc a ha).2.2.2.2.1
    rcases hw.depart with rfl | ⟨u, x, y, ⟨h1, _, h1u⟩, h2, h3⟩
    · exact ⟨0, tsum_nn pos, .nil⟩
    · have hlen : (A.filter (· != s)).length ≤ m := by
        have h4 : ∀ l : List Nat, s ∈ l → (l.filter (· != s)).length < l.length := by
          intro l
          induction l with
          | nil => intro h; simp at h
          | cons b l ih =>
            intro h
            by_cases hb : b = s
            · rw [List.filter_cons_of_neg (by simpa using hb)]
              have := List.length_filter_le (· != s) l
              simp only [List.length_cons]; omega
            · rw [List.filter_cons_of_pos (by simpa using hb)]
              have := ih ((List.mem_cons.1 h).resolve_left (fun e => hb e.symm))
              simp only [List.length_cons]; omega
        have := h4 A hs; omega
      have hm : ∀ j, j ∈ A.filter (· != s) ↔ j ∈ A ∧ j ≠ s := fun j => by rw [List.mem_filter]; simp
      obtain ⟨z, hz, hzw⟩ := wk_tot ok m (A.filter (· != s)) hlen u v y ((hm u).2 ⟨h1u, h2⟩) (h3.mono fun a b q ⟨⟨e1, e2, e3⟩, e4, e5⟩ => ⟨e1, (hm a).2 ⟨e2, e4⟩, (hm b).2 ⟨e3, e5⟩⟩)
      obtain ⟨k, hk, q1, q2, q3, _⟩ := EA_arc ok h1
      refine ⟨x + z, ?_, Wk.cons h1 hzw⟩
      have := tsum_split (Q := fun j => decide (j ∈ A.filter (· != s) ∧ j ≠ u)) (R := fun j => decide (j ∈ A ∧ j ≠ s)) (u := u) (fun j hj => by
        have hj := of_decide_eq_true hj
        exact ⟨decide_eq_true ((hm j).1 hj.1), hj.2⟩) (decide_eq_true ⟨h1u, h2⟩) pos (arcA arcs k) (arcA_mem hk) q2
      have hx : (arcA arcs k).2.2 = x := q3
      omega

theorem dst_tot {N : Int} {arcs : List Arc} (ok : OkMap N arcs) (s v : Nat) (hs : (s : Int) < N) : dst arcs s v ≤ totW arcs := by
  have pos : ∀ a ∈ arcs, 0 ≤ a.2.2 := fun a ha => (ok.arc a ha).2.2.2.2.1
  have h0 : 0 ≤ totW arcs := Int.le_trans (tsum_nn (Q := fun _ => true) pos) (tsum_le pos)
  rcases dst_is ok s v with ⟨h, _⟩ | ⟨_, h1, h2⟩
  · omega
  · have hw : Wk (fun a b z => EA arcs a b z ∧ a ∈ List.range N.toNat ∧ b ∈ List.range N.toNat) s v (dst arcs s v) := h1.mono fun a b x e => by
      obtain ⟨_, _, _, _, _, q1, q2, _⟩ := EA_arc ok e
      exact ⟨e, List.mem_range.2 (by omega), List.mem_range.2 (by omega)⟩
    obtain ⟨y, hy, hyw⟩ := wk_tot ok _ _ (Nat.le_refl _) s v _ (List.mem_range.2 (by omega)) hw
    have := h2 y hyw
    have := tsum_le (Q := fun j => decide (j ∈ List.range N.toNat ∧ j ≠ s)) pos
    omega
theorem totW_snoc (l : List Arc) (a : Arc) : totW (l ++ [a]) = totW l + a.2.2 := by
  induction l with
  | nil => simp [totW]
  | cons b l ih => rw [List.cons_append]; unfold totW; rw [ih]; omega
theorem totW_le : ∀ {l : List Arc}, (∀ a ∈ l, 0 ≤ a.2.2 ∧ a.2.2 ≤ 2147483648) → 0 ≤ totW l ∧ totW l ≤ 2147483648 * (l.length : Int)
  | [], _ => by simp [totW]
  | a :: l, h => by
    have := totW_le (l := l) fun b hb => h b (List.mem_cons_of_mem _ hb)
    have := h a List.mem_cons_self
    unfold totW; simp only [List.length_cons]; omega
theorem totW_ok {N : Int} {arcs : List Arc} (ok : OkMap N arcs) : 0 ≤ totW arcs ∧ totW arcs < 2 ^ 58 := by
  have := totW_le (l := arcs) fun a ha => ⟨(ok.arc a ha).2.2.2.2.1, (ok.arc a ha).2.2.2.2.2⟩
  have := ok.len
  omega
end Go.Sh
