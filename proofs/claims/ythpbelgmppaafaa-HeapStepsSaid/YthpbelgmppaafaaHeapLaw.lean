/- Layer 3's laws: what is known of a heap. -/
import Derived.Test.YthpbelgmppaafaaHeapApi
import Derived.Test.YthpbelgmppaafaaLaw3Def
set_option maxRecDepth 100000
namespace Go.Sh
open Go.RowKit

theorem eLt_total {a b : Int × Int} (h1 : eLt a b = false) (h2 : eLt b a = false) : a = b := by
  obtain ⟨a1, a2⟩ := a; obtain ⟨b1, b2⟩ := b
  unfold eLt at h1 h2
  simp at h1 h2
  have e2 : a2 = b2 := by omega
  subst e2
  have e1 : a1 = b1 := by omega
  rw [e1]
theorem Least.uniq {L : List (Int × Int)} {m m' : Int × Int} (h : Least L m) (h' : Least L m') : m = m' :=
  eLt_total (h'.2 m h.1) (h.2 m' h'.1)

def minE : List (Int × Int) → Option (Int × Int)
  | [] => none
  | e :: L => match minE L with
    | none => some e
    | some m => some (if eLt m e then m else e)
theorem minE_least : ∀ {L : List (Int × Int)} {m : Int × Int}, minE L = some m → Least L m
  | [], _, h => by cases h
  | e :: L, m, h => by
    simp only [minE] at h
    cases hm : minE L with
    | none =>
      rw [hm] at h; injection h with h; subst h
      have : L = [] := by
        cases L with
        | nil => rfl
        | cons a l => simp only [minE] at hm; split at hm <;> cases hm
      subst this
      exact ⟨by simp, fun y hy => by simp at hy; subst hy; exact eLt_irrefl _⟩
    | some m0 =>
      rw [hm] at h; injection h with h
      obtain ⟨h1, h2⟩ := minE_least hm
      split at h
      · rename_i hlt; subst h
        exact ⟨List.mem_cons_of_mem _ h1, fun y hy => by
          rcases List.mem_cons.1 hy with rfl | hy
          · exact eLt_asymm hlt
          · exact h2 y hy⟩
      · rename_i hlt; subst h
        exact ⟨List.mem_cons_self, fun y hy => by
          rcases List.mem_cons.1 hy with rfl | hy
          · exact eLt_irrefl _
          · exact eLt_trans (by simpa using hlt) (h2 y hy)⟩
theorem minE_some {L : List (Int × Int)} (h : L ≠ []) : ∃ m, minE L = some m := by
  cases L with
  | nil => exact absurd rfl h
  | cons a l => simp only [minE]; split <;> exact ⟨_, rfl⟩
theorem Least.min {L : List (Int × Int)} {m : Int × Int} (h : Least L m) : minE L = some m := by
  obtain ⟨m', h'⟩ := minE_some (L := L) (fun e => by subst e; cases h.1)
  rw [h', (minE_least h').uniq h]

/-- What is told, and what is in then. -/
def stepF (N : Nat) (L : List (Int × Int)) (kind id key : Int) : (Int × Int × Bool) × List (Int × Int) :=
  if kind = 1 then (if 0 ≤ id ∧ id.toNat < N then ((0, 0, true), (id, key) :: rid L id) else ((0, 0, false), L))
  else if kind = 2 then (match minE L with | none => ((0, 0, false), L) | some m => ((m.1, m.2, true), rid L m.1))
  else if kind = 3 then (if L.any (fun e => e.1 == id) then ((0, 0, true), rid L id) else ((0, 0, false), L))
  else if kind = 4 then ((0, 0, false), [])
  else ((0, 0, false), L)

section
variable {w w' : World} {p : Option Addr} {N : Nat} {L : List (Int × Int)} {F : Nat → Prop}

theorem known_ok {K : Bool → World → Prop} (hk : ∀ w', Ext w w' → K true w') : sh_postroadlaw03_known K w := by
  unfold sh_postroadlaw03_known
  refine New_ok (by decide) (by decide) fun p w2 F e2 h2 f2 => ?_
  refine Set_ok h2 (by decide) (by decide) fun w4 F4 c4 f4 h4 => ?_
  refine Set_ok h4 (by decide) (by decide) fun w6 F6 c6 f6 h6 => ?_
  refine Set_ok h6 (by decide) (by decide) fun w8 F8 c8 f8 h8 => ?_
  have hl : ((3, 7) :: rid ((2, 7) :: rid ((4, 9) :: rid [] 4) 2) 3 : List (Int × Int)) = [(3, 7), (2, 7), (4, 9)] := by decide
  rw [hl] at h8
  refine Pop_ok h8 (by simp) fun m w12 F' hm c12 f12 h12 => ?_
  have : m = (2, 7) := by
    have := hm.min
    rw [show minE [((3, 7) : Int × Int), (2, 7), (4, 9)] = some (2, 7) by decide] at this
    injection this with this; exact this.symm
  subst this
  simp only [show ((2 : Int) == 2) = true from rfl, show ((7 : Int) == 7) = true from rfl, cond_true]
  refine Len_nil ?_
  simp only [show ((0 : Int) == 0) = true from rfl]
  have g4 : ∀ k, F4 k → w.heap.size ≤ k := fun k hk => by rcases f4 k hk with h | h; exact f2 k h; have := e2.size; omega
  have g6 : ∀ k, F6 k → w.heap.size ≤ k := fun k hk => by rcases f6 k hk with h | h; exact g4 k h; have := e2.size; have := c4.size; omega
  have g8 : ∀ k, F8 k → w.heap.size ≤ k := fun k hk => by rcases f8 k hk with h | h; exact g6 k h; have := e2.size; have := c4.size; have := c6.size; omega
  have hc : Chg (fun k => w.heap.size ≤ k) w w12 := ((((Chg.of_ext e2).trans c4 (fun i _ h => f2 i h)).trans c6 (fun i _ h => g4 i h)).trans c8 (fun i _ h => g6 i h)).trans c12 (fun i _ h => g8 i h)
  exact hk w12 (hc.ext fun i hi h => by omega)

theorem did_ok {kind id key : Int} {K : Int → Int → Bool → World → Prop} (h : HeapA w p N L F)
    (hk : ∀ w' F', Chg F w w' → (∀ k, F' k → F k ∨ w.heap.size ≤ k) → HeapA w' p N (stepF N L kind id key).2 F' → K (stepF N L kind id key).1.1 (stepF N L kind id key).1.2.1 (stepF N L kind id key).1.2.2 w') :
    sh_postroadlaw03_did p kind id key K w := by
  unfold sh_postroadlaw03_did
  intro b1 w2 e2 hb1 hb2
  have h2 := h.ext e2
  have nb : ¬ F b1 := fun hF => by have := h.lt hF; omega
  have ret : ∀ w3 F', Chg F w2 w3 → (∀ k, F' k → F k ∨ w2.heap.size ≤ k) → HeapA w3 p N (stepF N L kind id key).2 F' → Keeps [b1] w2 w3 ∧ K (stepF N L kind id key).1.1 (stepF N L kind id key).1.2.1 (stepF N L kind id key).1.2.2 w3 := fun w3 F' c f hh =>
    ⟨c.keep hb2 nb, hk w3 F' ((Chg.of_ext e2).trans c fun _ _ h => h) (fun k hk => (f k hk).imp (fun h => h) (fun h => Nat.le_trans e2.size h)) hh⟩
  dsimp only [Join]
  unfold stepF at ret
  by_cases k1 : kind = 1
  · subst k1
    simp only [show ((1 : Int) == 1) = true from rfl, cond_true]
    simp only [if_true] at ret
    by_cases hr : 0 ≤ id ∧ id.toNat < N
    · rw [if_pos hr] at ret
      exact Set_ok h2 hr.1 hr.2 ret
    · rw [if_neg hr] at ret
      exact Set_out h2 hr (ret w2 F (.refl _ _) (fun k hk => .inl hk) h2)
  · rw [if_neg k1] at ret
    rw [show (kind == 1) = false by simpa using k1, cond_false]
    by_cases k2 : kind = 2
    · subst k2
      simp only [show ((2 : Int) == 2) = true from rfl, cond_true]
      simp only [if_true] at ret
      by_cases hl : L = []
      · subst hl
        exact Pop_no h2 (ret w2 F (.refl _ _) (fun k hk => .inl hk) h2)
      · refine Pop_ok h2 hl fun m w3 F' hm c f hh => ?_
        rw [hm.min] at ret
        exact ret w3 F' c f hh
    · rw [if_neg k2] at ret
      rw [show (kind == 2) = false by simpa using k2, cond_false]
      by_cases k3 : kind = 3
      · subst k3
        simp only [show ((3 : Int) == 3) = true from rfl, cond_true]
        simp only [if_true] at ret
        refine Drop_ok h2 (fun kk hin w3 F' c f hh => ?_) (fun hno => ?_)
        · rw [if_pos (List.any_eq_true.2 ⟨_, hin, by simp⟩)] at ret
          exact ret w3 F' c f hh
        · rw [if_neg (fun ha => by
            obtain ⟨e, he, hi⟩ := List.any_eq_true.1 ha
            simp at hi; subst hi
            exact hno e.2 he)] at ret
          exact ret w2 F (.refl _ _) (fun k hk => .inl hk) h2
      · rw [if_neg k3] at ret
        rw [show (kind == 3) = false by simpa using k3, cond_false]
        by_cases k4 : kind = 4
        · subst k4
          simp only [show ((4 : Int) == 4) = true from rfl, cond_true]
          simp only [if_true] at ret
          exact Clear_ok h2 ret
        · rw [if_neg k4] at ret
          rw [show (kind == 4) = false by simpa using k4, cond_false]
          exact (ret w2 F (.refl _ _) (fun k hk => .inl hk) h2).2
end
end Go.Sh
