/- A stable counting sort, in plain lists; arrays told by functions. -/
import Derived.Test.YtoomennincfkgaaBase
set_option maxRecDepth 100000
namespace Go.Sh
open Go.RowKit

def ints (l : List Nat) : List Int := l.map (fun (k : Nat) => (k : Int))
theorem ints_len (l : List Nat) : (ints l).length = l.length := by simp [ints]
theorem ints_get {l : List Nat} {i : Nat} (h : i < (ints l).length) : (ints l)[i] = (l[i]'(by simpa [ints] using h) : Int) := by simp [ints]
theorem ints_append (a b : List Nat) : ints (a ++ b) = ints a ++ ints b := by simp [ints]

/-- An array of numbers, told by a function. -/
def fl (n : Nat) (f : Nat → Nat) : List Int := (List.range n).map fun j => (f j : Int)
theorem fl_len (n : Nat) (f : Nat → Nat) : (fl n f).length = n := by simp [fl]
theorem fl_get {n : Nat} {f : Nat → Nat} {i : Nat} (h : i < (fl n f).length) : (fl n f)[i] = (f i : Int) := by simp [fl]
theorem fl_congr {n : Nat} {f g : Nat → Nat} (h : ∀ j, j < n → f j = g j) : fl n f = fl n g := by
  unfold fl; exact List.map_congr_left fun j hj => by rw [h j (List.mem_range.1 hj)]
theorem fl_set {n : Nat} {f : Nat → Nat} {i x : Nat} (_hi : i < n) : (fl n f).set i (x : Int) = fl n (fun j => if j = i then x else f j) := by
  apply List.ext_getElem
  · simp [fl]
  · intro j h1 h2
    rw [List.getElem_set]
    by_cases e : i = j
    · subst e; rw [if_pos rfl, fl_get, if_pos rfl]
    · rw [if_neg e, fl_get, fl_get, if_neg (Ne.symm e)]
theorem fl_rep (n : Nat) : List.replicate n (0 : Int) = fl n (fun _ => 0) := by
  apply List.ext_getElem <;> simp [fl]

def sortedL (n : Nat) (l : List Nat) (e : Nat → Nat) : List Nat := (List.range n).flatMap fun v => l.filter (e · == v)
def cnt (l : List Nat) (e : Nat → Nat) (v : Nat) : Nat := (l.filter (e · == v)).length
def pre (l : List Nat) (e : Nat → Nat) (v : Nat) : Nat := (sortedL v l e).length

theorem sortedL_succ (n : Nat) (l : List Nat) (e : Nat → Nat) : sortedL (n + 1) l e = sortedL n l e ++ l.filter (e · == n) := by
  unfold sortedL; rw [List.range_succ, List.flatMap_append]; simp
theorem pre_zero (l : List Nat) (e : Nat → Nat) : pre l e 0 = 0 := rfl
theorem pre_succ (l : List Nat) (e : Nat → Nat) (v : Nat) : pre l e (v + 1) = pre l e v + cnt l e v := by
  unfold pre cnt; rw [sortedL_succ, List.length_append]
theorem pre_mono (l : List Nat) (e : Nat → Nat) {u v : Nat} (h : u ≤ v) : pre l e u ≤ pre l e v := by
  induction h with
  | refl => exact Nat.le_refl _
  | step _ ih => rw [pre_succ]; omega
theorem pre_lt (l : List Nat) (e : Nat → Nat) {u v : Nat} (h : u < v) : pre l e u + cnt l e u ≤ pre l e v := by
  rw [← pre_succ]; exact pre_mono l e h
theorem mem_sortedL {n : Nat} {l : List Nat} {e : Nat → Nat} {k : Nat} : k ∈ sortedL n l e ↔ k ∈ l ∧ e k < n := by
  simp only [sortedL, List.mem_flatMap, List.mem_range, List.mem_filter, beq_iff_eq]
  constructor
  · rintro ⟨v, hv, hk, he⟩; exact ⟨hk, by omega⟩
  · rintro ⟨hk, he⟩; exact ⟨_, he, hk, rfl⟩
theorem cnt_cons (k : Nat) (l : List Nat) (e : Nat → Nat) (v : Nat) : cnt (k :: l) e v = cnt l e v + (if e k = v then 1 else 0) := by
  unfold cnt; rw [List.filter_cons]; split <;> rename_i h <;> simp at h <;> simp [h]
theorem cnt_snoc (k : Nat) (l : List Nat) (e : Nat → Nat) (v : Nat) : cnt (l ++ [k]) e v = cnt l e v + (if e k = v then 1 else 0) := by
  unfold cnt; rw [List.filter_append, List.length_append]
  by_cases h : e k = v
  · simp [h]
  · simp [h]
theorem pre_cons (k : Nat) (l : List Nat) (e : Nat → Nat) (v : Nat) : pre (k :: l) e v = pre l e v + (if e k < v then 1 else 0) := by
  induction v with
  | zero => rfl
  | succ v ih => rw [pre_succ, pre_succ, ih, cnt_cons]; split <;> split <;> (try split) <;> omega
theorem pre_all {n : Nat} {l : List Nat} {e : Nat → Nat} (h : ∀ k ∈ l, e k < n) : pre l e n = l.length := by
  induction l with
  | nil => clear h; induction n with
    | zero => rfl
    | succ n ih => rw [pre_succ, ih]; rfl
  | cons k l ih =>
    rw [pre_cons, ih fun k' hk' => h k' (List.mem_cons_of_mem _ hk'), if_pos (h k List.mem_cons_self)]; rfl
theorem sortedL_len {n : Nat} {l : List Nat} {e : Nat → Nat} (h : ∀ k ∈ l, e k < n) : (sortedL n l e).length = l.length := pre_all h

theorem sortedL_get {l : List Nat} {e : Nat → Nat} : ∀ {n v : Nat}, v < n → ∀ j, j < cnt l e v → (sortedL n l e)[pre l e v + j]? = (l.filter (e · == v))[j]?
  | 0, v, h, _, _ => by omega
  | n + 1, v, h, j, hj => by
    rw [sortedL_succ]
    by_cases e1 : v = n
    · subst e1
      rw [List.getElem?_append_right (by unfold pre; omega)]
      congr 1; unfold pre; omega
    · have hv : v < n := by omega
      have := pre_lt l e hv
      rw [List.getElem?_append_left (by unfold pre at *; omega)]
      exact sortedL_get hv j hj
theorem sortedL_idx {l : List Nat} {e : Nat → Nat} : ∀ {n i : Nat}, i < pre l e n → ∃ v, v < n ∧ ∃ j, j < cnt l e v ∧ i = pre l e v + j
  | 0, i, h => by rw [pre_zero] at h; omega
  | n + 1, i, h => by
    rw [pre_succ] at h
    by_cases hi : i < pre l e n
    · obtain ⟨v, hv, j, hj, he⟩ := sortedL_idx hi
      exact ⟨v, by omega, j, hj, he⟩
    · exact ⟨n, by omega, i - pre l e n, by omega, by omega⟩

theorem take_snoc {α : Type} {l : List α} {i : Nat} (h : i < l.length) : l.take (i + 1) = l.take i ++ [l[i]] := by
  rw [List.take_add_one, List.getElem?_eq_getElem h]; rfl

/-- Part of it is laid. -/
def Laid (n : Nat) (l : List Nat) (e : Nat → Nat) (i : Nat) (X : Nat → Nat) : Prop :=
  ∀ v, v < n → ∀ j, j < cnt (l.take i) e v → ((l.take i).filter (e · == v))[j]? = some (X (pre l e v + j))
theorem cnt_take_le (l : List Nat) (e : Nat → Nat) (v i : Nat) : cnt (l.take i) e v ≤ cnt l e v := by
  unfold cnt
  exact (List.Sublist.filter _ (List.take_sublist i l)).length_le
theorem cnt_take_lt {l : List Nat} {e : Nat → Nat} {i : Nat} (h : i < l.length) : cnt (l.take i) e (e l[i]) < cnt l e (e l[i]) := by
  have h1 := cnt_take_le l e (e l[i]) (i + 1)
  rw [take_snoc h, cnt_snoc, if_pos rfl] at h1
  omega
theorem Laid.step {n : Nat} {l : List Nat} {e : Nat → Nat} {i : Nat} {X : Nat → Nat} (h : Laid n l e i X) (hi : i < l.length) :
    Laid n l e (i + 1) (fun j => if j = pre l e (e l[i]) + cnt (l.take i) e (e l[i]) then l[i] else X j) := by
  intro v hv j hj
  rw [take_snoc hi] at hj ⊢
  rw [cnt_snoc] at hj
  rw [List.filter_append]
  have hc := cnt_take_lt (e := e) hi
  by_cases he : e l[i] = v
  · subst he
    rw [if_pos rfl] at hj
    by_cases hj' : j = cnt (l.take i) e (e l[i])
    · subst hj'
      simp only [if_true]
      rw [List.getElem?_append_right (by unfold cnt; omega)]
      simp [cnt]
    · simp only [if_neg (show ¬ (pre l e (e l[i]) + j = pre l e (e l[i]) + cnt (l.take i) e (e l[i])) by omega)]
      rw [List.getElem?_append_left (by unfold cnt at *; omega)]
      exact h _ hv j (by omega)
  · rw [if_neg he] at hj
    have hle := cnt_take_le l e v i
    have hne : ¬ (pre l e v + j = pre l e (e l[i]) + cnt (l.take i) e (e l[i])) := by
      rcases Nat.lt_or_gt_of_ne he with h' | h'
      · have := pre_lt l e h'; omega
      · have := pre_lt l e h'; omega
    simp only [if_neg hne]
    rw [List.getElem?_append_left (by unfold cnt at *; omega), h v hv j (by omega)]
theorem Laid.all {n : Nat} {l : List Nat} {e : Nat → Nat} {X : Nat → Nat} (h : Laid n l e l.length X) (he : ∀ k ∈ l, e k < n) : fl l.length X = ints (sortedL n l e) := by
  unfold Laid at h
  rw [List.take_length] at h
  have hl := sortedL_len he
  apply List.ext_getElem
  · rw [fl_len, ints_len, hl]
  · intro i h1 h2
    rw [fl_len] at h1
    rw [fl_get, ints_get]
    obtain ⟨v, hv, j, hj, rfl⟩ := sortedL_idx (l := l) (e := e) (n := n) (i := i) (by rw [pre_all he]; exact h1)
    have := h v hv j hj
    rw [← sortedL_get hv j hj, List.getElem?_eq_getElem (by rw [hl]; exact h1)] at this
    injection this with this
    rw [this]

/-- Numbers, counted at the place behind. -/
def cnt1 (l : List Nat) (e : Nat → Nat) : Nat → Nat
  | 0 => 0
  | v + 1 => cnt l e v
end Go.Sh
