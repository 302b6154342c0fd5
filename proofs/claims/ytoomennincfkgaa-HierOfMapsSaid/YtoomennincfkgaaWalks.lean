/- Walks, and how far it is, in plain words; arc by arc till nothing is nearer; the nearest first. -/
import Derived.Test.YtoomennincfkgaaBase
set_option maxRecDepth 100000
namespace Go.Sh

/-- A walk from s, by edges: where it ends, how long it is. -/
inductive Wk (E : Nat → Nat → Int → Prop) (s : Nat) : Nat → Int → Prop
  | nil : Wk E s s 0
  | snoc {u v : Nat} {d x : Int} : Wk E s u d → E u v x → Wk E s v (d + x)

section
variable {E F : Nat → Nat → Int → Prop} {s u v : Nat} {a b d x y : Int}

theorem Wk.of_eq (h : Wk E s v a) (e : a = b) : Wk E s v b := e ▸ h
theorem Wk.trans (h : Wk E s u a) (k : Wk E u v b) : Wk E s v (a + b) := by
  induction k with
  | nil => exact h.of_eq (by omega)
  | snoc _ e ih => exact (ih.snoc e).of_eq (by omega)
theorem Wk.edge (h : E s v x) : Wk E s v x := (Wk.nil.snoc h).of_eq (by omega)
theorem Wk.cons (h : E s u x) (k : Wk E u v b) : Wk E s v (x + b) := (Wk.edge h).trans k
theorem Wk.le (hE : ∀ u v x, E u v x → ∃ y, y ≤ x ∧ F u v y) (h : Wk E s v d) : ∃ y, y ≤ d ∧ Wk F s v y := by
  induction h with
  | nil => exact ⟨0, by omega, .nil⟩
  | snoc _ e ih =>
    obtain ⟨y, hy, hw⟩ := ih
    obtain ⟨z, hz, hz2⟩ := hE _ _ _ e
    exact ⟨y + z, by omega, hw.snoc hz2⟩
theorem Wk.mono (hE : ∀ u v x, E u v x → F u v x) (h : Wk E s v d) : Wk F s v d := by
  induction h with
  | nil => exact .nil
  | snoc _ e ih => exact ih.snoc (hE _ _ _ e)
/-- Each edge is a walk of another kind. -/
theorem Wk.bind (hE : ∀ u v x, E u v x → Wk F u v x) (h : Wk E s v d) : Wk F s v d := by
  induction h with
  | nil => exact .nil
  | snoc _ e ih => exact ih.trans (hE _ _ _ e)
theorem Wk.rev (h : Wk E s v d) : Wk (fun a b x => E b a x) v s d := by
  induction h with
  | nil => exact .nil
  | snoc _ e ih => exact (Wk.cons (E := fun a b x => E b a x) e ih).of_eq (by omega)
theorem Wk.nonneg (hE : ∀ u v x, E u v x → 0 ≤ x) (h : Wk E s v d) : 0 ≤ d := by
  induction h with
  | nil => omega
  | snoc _ e ih => have := hE _ _ _ e; omega
theorem Wk.keep {P : Nat → Prop} (hE : ∀ u v x, E u v x → P u → P v) (h : Wk E s v d) (hs : P s) : P v := by
  induction h with
  | nil => exact hs
  | snoc _ e ih => exact hE _ _ _ e ih
/-- Either it goes nowhere, or it has a first edge. -/
theorem Wk.first (h : Wk E s v d) : (v = s ∧ d = 0) ∨ ∃ u x y, E s u x ∧ Wk E u v y ∧ d = x + y := by
  induction h with
  | nil => exact .inl ⟨rfl, rfl⟩
  | snoc k e ih =>
    rename_i u v d x
    right
    rcases ih with ⟨rfl, rfl⟩ | ⟨u', x', y', h1, h2, h3⟩
    · exact ⟨v, x, 0, e, .nil, by omega⟩
    · exact ⟨u', x', y' + x, h1, h2.snoc e, by omega⟩

/-- How far it is: below 0, if there is no walk. -/
def IsD (E : Nat → Nat → Int → Prop) (s v : Nat) (x : Int) : Prop := (x = -1 ∧ ∀ d, ¬ Wk E s v d) ∨ (0 ≤ x ∧ Wk E s v x ∧ ∀ d, Wk E s v d → x ≤ d)
theorem IsD.uniq (h : IsD E s v x) (k : IsD E s v y) : x = y := by
  rcases h with ⟨rfl, h⟩ | ⟨_, h1, h2⟩ <;> rcases k with ⟨rfl, k⟩ | ⟨_, k1, k2⟩
  · rfl
  · exact absurd k1 (h _)
  · exact absurd h1 (k _)
  · have := h2 _ k1; have := k2 _ h1; omega
theorem IsD.wk (h : IsD E s v x) (h0 : 0 ≤ x) : Wk E s v x := by
  rcases h with ⟨rfl, _⟩ | ⟨_, h1, _⟩
  · omega
  · exact h1
theorem IsD.min (h : IsD E s v x) (k : Wk E s v d) : 0 ≤ x ∧ x ≤ d := by
  rcases h with ⟨_, h⟩ | ⟨h0, _, h2⟩
  · exact absurd k (h _)
  · exact ⟨h0, h2 _ k⟩
theorem IsD.ge (h : IsD E s v x) : x = -1 ∨ 0 ≤ x := by
  rcases h with ⟨rfl, _⟩ | ⟨h, _⟩
  · exact .inl rfl
  · exact .inr h
theorem IsD.self (hE : ∀ u v x, E u v x → 0 ≤ x) : IsD E s s 0 := .inr ⟨by omega, .nil, fun _ h => h.nonneg hE⟩
theorem IsD.ex (hE : ∀ u v x, E u v x → 0 ≤ x) (s v : Nat) : ∃ x, IsD E s v x := by
  classical
  by_cases h : ∃ d, Wk E s v d
  · obtain ⟨d, hd⟩ := h
    have key : ∀ n : Nat, ∀ d : Int, d.toNat ≤ n → Wk E s v d → ∃ x, IsD E s v x := by
      intro n
      induction n with
      | zero => exact fun d hn hd => ⟨d, .inr ⟨hd.nonneg hE, hd, fun d' hd' => by have := hd'.nonneg hE; have := hd.nonneg hE; omega⟩⟩
      | succ n ih =>
        intro d hn hd
        by_cases hs : ∃ d', Wk E s v d' ∧ d' < d
        · obtain ⟨d', h1, h2⟩ := hs
          exact ih d' (by have := h1.nonneg hE; omega) h1
        · exact ⟨d, .inr ⟨hd.nonneg hE, hd, fun d' hd' => Classical.byContradiction fun hn => hs ⟨d', hd', by omega⟩⟩⟩
    exact key _ d (Nat.le_refl _) hd
  · exact ⟨-1, .inl ⟨rfl, fun d hd => h ⟨d, hd⟩⟩⟩
/-- The distances of two kinds of edges are alike. -/
theorem IsD.same (h1 : ∀ d, Wk E s v d → ∃ y, y ≤ d ∧ Wk F s v y) (h2 : ∀ d, Wk F s v d → ∃ y, y ≤ d ∧ Wk E s v y) (h : IsD E s v x) : IsD F s v x := by
  rcases h with ⟨rfl, h⟩ | ⟨h0, hw, hm⟩
  · exact .inl ⟨rfl, fun d hd => by obtain ⟨y, _, hy⟩ := h2 d hd; exact h y hy⟩
  · right
    obtain ⟨y, hy, hyw⟩ := h1 x hw
    obtain ⟨z, hz, hzw⟩ := h2 y hyw
    have := hm z hzw
    have e : x = y := by omega
    subst e
    exact ⟨h0, hyw, fun d hd => by obtain ⟨q, hq, hqw⟩ := h2 d hd; have := hm q hqw; omega⟩
end

/-- f, but for one. -/
def up1 (f : Nat → Int) (i : Nat) (x : Int) : Nat → Int := fun j => if j = i then x else f j
theorem up1_at {f : Nat → Int} {i : Nat} {x : Int} : up1 f i x i = x := if_pos rfl
theorem up1_ne {f : Nat → Int} {i j : Nat} {x : Int} (h : j ≠ i) : up1 f i x j = f j := if_neg h

/-- How many of the first ones are reached. -/
def cntR (f : Nat → Int) : Nat → Nat
  | 0 => 0
  | n + 1 => cntR f n + (if 0 ≤ f n then 1 else 0)
theorem cntR_le (f : Nat → Int) (n : Nat) : cntR f n ≤ n := by
  induction n with
  | zero => exact Nat.le_refl _
  | succ n ih => unfold cntR; split <;> omega
theorem cntR_congr {f g : Nat → Int} {n : Nat} (h : ∀ j, j < n → (0 ≤ f j ↔ 0 ≤ g j)) : cntR f n = cntR g n := by
  induction n with
  | zero => rfl
  | succ n ih =>
    unfold cntR
    rw [ih fun j hj => h j (by omega)]
    by_cases h1 : 0 ≤ f n
    · rw [if_pos h1, if_pos ((h n (by omega)).1 h1)]
    · rw [if_neg h1, if_neg (fun h2 => h1 ((h n (by omega)).2 h2))]
theorem cntR_up {f : Nat → Int} {n i : Nat} {x : Int} (hi : i < n) (h0 : f i < 0) (hx : 0 ≤ x) : cntR (up1 f i x) n = cntR f n + 1 := by
  induction n with
  | zero => omega
  | succ n ih =>
    unfold cntR
    by_cases e : i = n
    · subst e
      rw [up1_at, if_pos hx, if_neg (by omega)]
      have : cntR (up1 f i x) i = cntR f i := cntR_congr fun j hj => by rw [up1_ne (by omega)]
      rw [this]
    · rw [ih (by omega), up1_ne (Ne.symm e)]; omega
theorem cntR_pos {f : Nat → Int} {n i : Nat} (hi : i < n) (h : 0 ≤ f i) : 0 < cntR f n := by
  induction n with
  | zero => omega
  | succ n ih =>
    unfold cntR
    by_cases e : i = n
    · subst e; rw [if_pos h]; omega
    · have := ih (by omega); omega

/-- What a table sums up to; far is the most. -/
def sumB (B : Nat) (f : Nat → Int) : Nat → Nat
  | 0 => 0
  | n + 1 => sumB B f n + (if f n < 0 then B + 1 else (f n).toNat)
theorem sumB_congr {B : Nat} {f g : Nat → Int} {n : Nat} (h : ∀ j, j < n → f j = g j) : sumB B f n = sumB B g n := by
  induction n with
  | zero => rfl
  | succ n ih => unfold sumB; rw [ih fun j hj => h j (by omega), h n (by omega)]
theorem sumB_up {B : Nat} {f : Nat → Int} {n i : Nat} {x : Int} (hi : i < n) (hx0 : 0 ≤ x) (hx : x ≤ (B : Int)) (h : f i < 0 ∨ x < f i) : sumB B (up1 f i x) n < sumB B f n := by
  induction n with
  | zero => omega
  | succ n ih =>
    unfold sumB
    by_cases e : i = n
    · subst e
      rw [up1_at, sumB_congr (g := f) fun j hj => up1_ne (by omega), if_neg (by omega)]
      split <;> omega
    · have := ih (by omega)
      rw [up1_ne (Ne.symm e)]; omega

section
variable {E : Nat → Nat → Int → Prop} {n s : Nat} {M : Int} {f : Nat → Int}
/-- A table on its way to the distances: what is told is a walk, and not too long. -/
structure Tab (E : Nat → Nat → Int → Prop) (n s : Nat) (M : Int) (f : Nat → Int) : Prop where
  sn : s < n
  z : f s = 0
  r : ∀ v, v < n → f v = -1 ∨ 0 ≤ f v ∧ Wk E s v (f v) ∧ f v ≤ ((cntR f n : Int) - 1) * M
  m : 0 ≤ M

theorem Tab.begin (hs : s < n) (hM : 0 ≤ M) : Tab E n s M (up1 (fun _ => -1) s 0) := by
  refine ⟨hs, up1_at, fun v hv => ?_, hM⟩
  by_cases e : v = s
  · subst e
    right
    rw [up1_at]
    refine ⟨by omega, .nil, ?_⟩
    rw [cntR_up hs (by omega) (by omega)]
    exact Int.mul_nonneg (by omega) hM
  · left; exact up1_ne e
theorem Tab.bound (h : Tab E n s M f) {v : Nat} (hv : v < n) : -1 ≤ f v ∧ f v ≤ (n : Int) * M := by
  have hm := h.m
  have h1 : ((cntR f n : Int) - 1) * M ≤ (n : Int) * M := Int.mul_le_mul_of_nonneg_right (by have := cntR_le f n; omega) hm
  have h2 : 0 ≤ (n : Int) * M := Int.mul_nonneg (by omega) hm
  rcases h.r v hv with e | ⟨h0, _, hb⟩ <;> omega
theorem Tab.lt (h : Tab E n s M f) {v : Nat} (hv : v < n) (h0 : 0 ≤ f v) {x : Int} (hx : x ≤ M) : f v + x ≤ (n : Int) * M := by
  rcases h.r v hv with e | ⟨_, _, hb⟩
  · omega
  · have := cntR_le f n
    have : (cntR f n : Int) * M ≤ (n : Int) * M := Int.mul_le_mul_of_nonneg_right (by omega) h.m
    rw [Int.sub_mul, Int.one_mul] at hb
    omega
theorem Tab.step (h : Tab E n s M f) {u v : Nat} {x : Int} (hu : u < n) (hv : v < n) (he : E u v x) (h0 : 0 ≤ x) (hM : x ≤ M) (hfu : 0 ≤ f u) (hlt : f v < 0 ∨ f u + x < f v) :
    Tab E n s M (up1 f v (f u + x)) ∧ ∀ B : Nat, (n : Int) * M ≤ (B : Int) → sumB B (up1 f v (f u + x)) n < sumB B f n := by
  have hb := h.lt hu hfu hM
  refine ⟨⟨h.sn, ?_, fun j hj => ?_, h.m⟩, fun B hB => sumB_up hv (by omega) (by omega) hlt⟩
  · by_cases e : s = v
    · subst e; have := h.z; omega
    · rw [up1_ne e]; exact h.z
  · have hc : (cntR f n : Int) ≤ cntR (up1 f v (f u + x)) n := by
      by_cases h1 : f v < 0
      · rw [cntR_up hv h1 (by omega)]; omega
      · rw [cntR_congr (f := up1 f v (f u + x)) (g := f)]
        · omega
        · intro j hj
          by_cases e : j = v
          · subst e; rw [up1_at]; omega
          · rw [up1_ne e]
    have hc2 : ((cntR f n : Int) - 1) * M ≤ ((cntR (up1 f v (f u + x)) n : Int) - 1) * M := Int.mul_le_mul_of_nonneg_right (by omega) h.m
    by_cases e : j = v
    · subst e
      right
      rw [up1_at]
      obtain hu1 | ⟨_, hw, hub⟩ := h.r u hu
      · omega
      refine ⟨by omega, hw.snoc he, ?_⟩
      by_cases h1 : f j < 0
      · rw [cntR_up hv h1 (by omega)]
        have : ((cntR f n : Int) - 1) * M = (cntR f n : Int) * M - M := by rw [Int.sub_mul, Int.one_mul]
        have : (((cntR f n + 1 : Nat) : Int) - 1) * M = (cntR f n : Int) * M := by congr 1; omega
        omega
      · rcases h.r j hj with e | ⟨_, _, hjb⟩
        · omega
        · omega
    · rw [up1_ne e]
      rcases h.r j hj with e1 | ⟨h1, h2, h3⟩
      · exact .inl e1
      · exact .inr ⟨h1, h2, by omega⟩
/-- Nothing is nearer: these are the distances. -/
theorem Tab.done (h : Tab E n s M f) (hd : ∀ u v x, E u v x → u < n → v < n) (hr : ∀ u v x, E u v x → u < n → 0 ≤ f u → 0 ≤ f v ∧ f v ≤ f u + x) {v : Nat} (hv : v < n) : IsD E s v (f v) := by
  have key : ∀ v d, Wk E s v d → v < n ∧ 0 ≤ f v ∧ f v ≤ d := by
    intro v d hw
    induction hw with
    | nil => exact ⟨h.sn, by rw [h.z]; omega, by rw [h.z]; omega⟩
    | snoc _ e ih =>
      obtain ⟨h1, h2, h3⟩ := ih
      have := hr _ _ _ e h1 h2
      exact ⟨hd _ _ _ e h1, this.1, by omega⟩
  rcases h.r v hv with e | ⟨h0, hw, _⟩
  · exact .inl ⟨e, fun d hd => by have := (key v d hd).2.1; omega⟩
  · exact .inr ⟨h0, hw, fun d hd => (key v d hd).2.2⟩
end

/-- The nearest first: what is settled has its distance; what is open has a walk; what is beside the settled is settled or open. Nodes are numbers below n; L is what is open. -/
structure Dij (E : Nat → Nat → Int → Prop) (n s : Nat) (M : Int) (f : Nat → Int) (L : List (Int × Int)) : Prop where
  sn : s < n
  m : 0 ≤ M
  d : ∀ v, v < n → f v = -1 ∨ IsD E s v (f v) ∧ 0 ≤ f v ∧ f v ≤ ((cntR f n : Int) - 1) * M
  o : ∀ e ∈ L, 0 ≤ e.1 ∧ e.1.toNat < n ∧ f e.1.toNat = -1 ∧ Wk E s e.1.toNat e.2 ∧ e.2 ≤ (cntR f n : Int) * M
  b : ∀ u v x, E u v x → u < n → 0 ≤ f u → 0 ≤ f v ∨ ∃ k, ((v : Int), k) ∈ L ∧ k ≤ f u + x
  z : 0 ≤ f s ∨ ∃ k, ((s : Int), k) ∈ L ∧ k ≤ 0

section
variable {E : Nat → Nat → Int → Prop} {n s : Nat} {M : Int} {f : Nat → Int} {L : List (Int × Int)}
theorem Dij.begin (hs : s < n) (hM : 0 ≤ M) : Dij E n s M (fun _ => -1) [((s : Int), 0)] := by
  have c0 : ∀ n, cntR (fun _ => (-1 : Int)) n = 0 := fun n => by
    induction n with
    | zero => rfl
    | succ n ih => unfold cntR; rw [ih]; rfl
  refine ⟨hs, hM, fun v _ => .inl rfl, fun e he => ?_, fun u v x _ _ h => absurd h (by omega), .inr ⟨0, by simp, by omega⟩⟩
  simp only [List.mem_singleton] at he
  subst he
  refine ⟨by simp only; omega, by simpa using hs, rfl, by simpa using Wk.nil, ?_⟩
  rw [c0]; simp
theorem Dij.ex (h : Dij E n s M f L) (hE : ∀ u v x, E u v x → 0 ≤ x) (hd : ∀ u v x, E u v x → u < n → v < n) {v : Nat} {d : Int} (hw : Wk E s v d) : v < n ∧ (f v = -1 → ∃ e ∈ L, e.2 ≤ d) := by
  induction hw with
  | nil =>
    refine ⟨h.sn, fun hf => ?_⟩
    rcases h.z with h0 | ⟨k, hk, hle⟩
    · omega
    · exact ⟨_, hk, hle⟩
  | snoc hw e ih =>
    rename_i u v d x
    obtain ⟨hu, ih⟩ := ih
    refine ⟨hd _ _ _ e hu, fun hf => ?_⟩
    have hx := hE _ _ _ e
    rcases h.d u hu with h1 | ⟨h1, h2, _⟩
    · obtain ⟨q, hq, hle⟩ := ih h1
      exact ⟨q, hq, by omega⟩
    · rcases h.b u v x e hu h2 with h3 | ⟨k, hk, hle⟩
      · omega
      · exact ⟨_, hk, by have := (h1.min hw).2; simp only; omega⟩
/-- What is least is settled. -/
theorem Dij.least (h : Dij E n s M f L) (hE : ∀ u v x, E u v x → 0 ≤ x) (hd : ∀ u v x, E u v x → u < n → v < n) {m : Int × Int} (hm : m ∈ L) (hmin : ∀ y ∈ L, m.2 ≤ y.2) : IsD E s m.1.toNat m.2 := by
  obtain ⟨h0, h1, h2, h3, _⟩ := h.o m hm
  refine .inr ⟨h3.nonneg hE, h3, fun d hw => ?_⟩
  obtain ⟨q, hq, hle⟩ := (h.ex hE hd hw).2 h2
  have := hmin q hq; omega
/-- When none is open all is told. -/
theorem Dij.done (h : Dij E n s M f []) (hE : ∀ u v x, E u v x → 0 ≤ x) (hd : ∀ u v x, E u v x → u < n → v < n) {v : Nat} (hv : v < n) : IsD E s v (f v) := by
  rcases h.d v hv with h1 | ⟨h1, _⟩
  · rw [h1]
    exact .inl ⟨rfl, fun d hw => by obtain ⟨q, hq, _⟩ := (h.ex hE hd hw).2 h1; simp at hq⟩
  · exact h1
theorem Dij.bound (h : Dij E n s M f L) {v : Nat} (hv : v < n) : -1 ≤ f v ∧ f v ≤ (n : Int) * M := by
  have h1 : ((cntR f n : Int) - 1) * M ≤ (n : Int) * M := Int.mul_le_mul_of_nonneg_right (by have := cntR_le f n; omega) h.m
  have h2 : 0 ≤ (n : Int) * M := Int.mul_nonneg (by omega) h.m
  rcases h.d v hv with e | ⟨_, h0, hb⟩ <;> omega
theorem Dij.kb (h : Dij E n s M f L) {e : Int × Int} (he : e ∈ L) : e.2 ≤ (n : Int) * M := by
  have h1 : (cntR f n : Int) * M ≤ (n : Int) * M := Int.mul_le_mul_of_nonneg_right (by have := cntR_le f n; omega) h.m
  have := (h.o e he).2.2.2.2; omega

/-- While what was settled last, v, looks about: the edges P of it were looked at. -/
structure DijP (E : Nat → Nat → Int → Prop) (n s : Nat) (M : Int) (f : Nat → Int) (L : List (Int × Int)) (c : Nat) (P : Nat → Int → Prop) : Prop where
  sn : s < n
  m : 0 ≤ M
  cn : c < n
  fc : 0 ≤ f c
  d : ∀ v, v < n → f v = -1 ∨ IsD E s v (f v) ∧ 0 ≤ f v ∧ f v ≤ ((cntR f n : Int) - 1) * M
  o : ∀ e ∈ L, 0 ≤ e.1 ∧ e.1.toNat < n ∧ f e.1.toNat = -1 ∧ Wk E s e.1.toNat e.2 ∧ e.2 ≤ (cntR f n : Int) * M
  b : ∀ u v x, E u v x → u < n → 0 ≤ f u → (u = c → P v x) → 0 ≤ f v ∨ ∃ k, ((v : Int), k) ∈ L ∧ k ≤ f u + x
  z : 0 ≤ f s ∨ ∃ k, ((s : Int), k) ∈ L ∧ k ≤ 0

theorem Dij.pop (h : Dij E n s M f L) (hE : ∀ u v x, E u v x → 0 ≤ x) (hd : ∀ u v x, E u v x → u < n → v < n) {m : Int × Int} (hm : m ∈ L) (hmin : ∀ y ∈ L, m.2 ≤ y.2) {L' : List (Int × Int)} (hL : ∀ e, e ∈ L' ↔ e ∈ L ∧ e.1 ≠ m.1) :
    DijP E n s M (up1 f m.1.toNat m.2) L' m.1.toNat (fun _ _ => False) ∧ (∀ v, v < n → f v = -1 → v ≠ m.1.toNat → up1 f m.1.toNat m.2 v = -1) ∧ cntR (up1 f m.1.toNat m.2) n = cntR f n + 1 := by
  have hD := h.least hE hd hm hmin
  obtain ⟨h0, h1, h2, h3, h4⟩ := h.o m hm
  have hk0 : 0 ≤ m.2 := h3.nonneg hE
  have hc := cntR_up (f := f) h1 (by omega) hk0
  have hcM : ((cntR f n : Int) - 1) * M ≤ (cntR f n : Int) * M := Int.mul_le_mul_of_nonneg_right (by omega) h.m
  have hcM2 : (cntR f n : Int) * M ≤ ((cntR f n + 1 : Nat) : Int) * M := Int.mul_le_mul_of_nonneg_right (by omega) h.m
  have hcM3 : (((cntR f n + 1 : Nat) : Int) - 1) * M = (cntR f n : Int) * M := by congr 1; omega
  refine ⟨⟨h.sn, h.m, h1, by rw [up1_at]; exact hk0, fun v hv => ?_, fun e he => ?_, fun u v x he hu hfu hP => ?_, ?_⟩, fun v _ hv hne => by rw [up1_ne hne]; exact hv, hc⟩
  · by_cases e : v = m.1.toNat
    · subst e
      rw [up1_at, hc, hcM3]
      exact .inr ⟨hD, hk0, h4⟩
    · rw [up1_ne e, hc, hcM3]
      rcases h.d v hv with q | ⟨q1, q2, q3⟩
      · exact .inl q
      · exact .inr ⟨q1, q2, by omega⟩
  · obtain ⟨heL, hne⟩ := (hL e).1 he
    obtain ⟨a0, a1, a2, a3, a4⟩ := h.o e heL
    refine ⟨a0, a1, ?_, a3, by rw [hc]; omega⟩
    rw [up1_ne (by omega)]; exact a2
  · have hue : u ≠ m.1.toNat := fun e => hP e
    rw [up1_ne hue] at hfu ⊢
    by_cases e : v = m.1.toNat
    · subst e; left; rw [up1_at]; exact hk0
    · rw [up1_ne e]
      rcases h.b u v x he hu hfu with q | ⟨k, hk, hle⟩
      · exact .inl q
      · exact .inr ⟨k, (hL _).2 ⟨hk, by simp only; omega⟩, hle⟩
  · by_cases e : s = m.1.toNat
    · left; rw [e, up1_at]; exact hk0
    · rw [up1_ne e]
      rcases h.z with q | ⟨k, hk, hle⟩
      · exact .inl q
      · exact .inr ⟨k, (hL _).2 ⟨hk, by simp only; omega⟩, hle⟩
theorem DijP.done {c : Nat} {P : Nat → Int → Prop} (h : DijP E n s M f L c P) (hP : ∀ v x, E c v x → P v x) : Dij E n s M f L :=
  ⟨h.sn, h.m, h.d, h.o, fun u v x he hu hf => h.b u v x he hu hf fun e => hP v x (e ▸ he), h.z⟩
theorem DijP.mono {c : Nat} {P Q : Nat → Int → Prop} (h : DijP E n s M f L c P) (hQ : ∀ v x, Q v x → P v x) : DijP E n s M f L c Q :=
  ⟨h.sn, h.m, h.cn, h.fc, h.d, h.o, fun u v x he hu hf hp => h.b u v x he hu hf fun e => hQ v x (hp e), h.z⟩
theorem DijP.le {c : Nat} {P : Nat → Int → Prop} (h : DijP E n s M f L c P) {x : Int} (hx : x ≤ M) : f c + x ≤ (cntR f n : Int) * M ∧ (cntR f n : Int) * M ≤ (n : Int) * M := by
  have h1 : (cntR f n : Int) * M ≤ (n : Int) * M := Int.mul_le_mul_of_nonneg_right (by have := cntR_le f n; omega) h.m
  rcases h.d c h.cn with e | ⟨_, _, hb⟩
  · have := h.fc; omega
  · rw [Int.sub_mul, Int.one_mul] at hb; omega
/-- The edge to v is no better than what is known. -/
theorem DijP.skip {c : Nat} {P : Nat → Int → Prop} (h : DijP E n s M f L c P) {v : Nat} {x : Int} (hk : 0 ≤ f v ∨ ∃ k, ((v : Int), k) ∈ L ∧ k ≤ f c + x) : DijP E n s M f L c (fun v' x' => P v' x' ∨ v' = v ∧ x' = x) :=
  ⟨h.sn, h.m, h.cn, h.fc, h.d, h.o, fun u v' x' he hu hf hp => by
    by_cases e : u = c ∧ v' = v ∧ x' = x
    · obtain ⟨rfl, rfl, rfl⟩ := e; exact hk
    · exact h.b u v' x' he hu hf fun e1 => (hp e1).resolve_right fun e2 => e ⟨e1, e2⟩, h.z⟩
/-- .. or better: it is set. -/
theorem DijP.set {c : Nat} {P : Nat → Int → Prop} (h : DijP E n s M f L c P) {v : Nat} {x : Int} (hv : v < n) (he : E c v x) (hx : x ≤ M) (hf : f v = -1) (hb : ∀ k, ((v : Int), k) ∈ L → f c + x ≤ k) {L' : List (Int × Int)}
    (hL : ∀ e, e ∈ L' ↔ e = ((v : Int), f c + x) ∨ e ∈ L ∧ e.1 ≠ (v : Int)) : DijP E n s M f L' c (fun v' x' => P v' x' ∨ v' = v ∧ x' = x) := by
  have keep : ∀ (u : Nat) (b : Int), (∃ k, ((u : Int), k) ∈ L ∧ k ≤ b) → ∃ k, ((u : Int), k) ∈ L' ∧ k ≤ b := fun u b ⟨k, hk, hle⟩ => by
    by_cases e : u = v
    · subst e
      exact ⟨f c + x, (hL _).2 (.inl rfl), by have := hb k hk; omega⟩
    · exact ⟨k, (hL _).2 (.inr ⟨hk, by simp only; omega⟩), hle⟩
  refine ⟨h.sn, h.m, h.cn, h.fc, h.d, fun e' he' => ?_, fun u v' x' he' hu hfu hp => ?_, h.z.imp id (keep s 0)⟩
  · rcases (hL e').1 he' with rfl | ⟨h1, _⟩
    · refine ⟨by simp only; omega, by simpa using hv, by simpa using hf, ?_, (h.le hx).1⟩
      rcases h.d c h.cn with e | ⟨hD, hc0, _⟩
      · have := h.fc; omega
      · simpa using (hD.wk hc0).snoc he
    · exact h.o e' h1
  · by_cases e : u = c ∧ v' = v ∧ x' = x
    · obtain ⟨rfl, rfl, rfl⟩ := e; exact .inr ⟨_, (hL _).2 (.inl rfl), Int.le_refl _⟩
    · exact (h.b u v' x' he' hu hfu fun e1 => (hp e1).resolve_right fun e2 => e ⟨e1, e2⟩).imp id (keep v' _)
end

/-- The edges of lists, one for each place. -/
def EE' (n : Nat) (ed : Nat → List (Int × Int × Int)) (u v : Nat) (x : Int) : Prop := u < n ∧ ∃ e ∈ ed u, e.1 = (v : Int) ∧ e.2.1 = x
end Go.Sh
