/- Heaps as lists: the plain law, no program in sight. -/
import Derived.Test.YtachbdfhbpmaeaaHeapMem
namespace Go.Sh

theorem eLt_trans {a b c : Int × Int} (h1 : eLt b a = false) (h2 : eLt c b = false) : eLt c a = false := by
  unfold eLt at *; simp at *; omega
theorem eLt_asymm {a b : Int × Int} (h1 : eLt a b = true) : eLt b a = false := by
  unfold eLt at *; simp at *; omega
theorem eLt_irrefl (a : Int × Int) : eLt a a = false := by
  unfold eLt; simp

def g (es : List (Int × Int)) (i : Nat) : Int × Int := es.getD i (0, 0)
theorem g_get {es : List (Int × Int)} {i : Nat} (h : i < es.length) : es[i]? = some (g es i) := by
  simp [g, List.getD_eq_getElem?_getD, List.getElem?_eq_getElem h]
theorem g_eq {es : List (Int × Int)} {i : Nat} (h : i < es.length) : es[i] = g es i := by
  simp [g, List.getD_eq_getElem?_getD, List.getElem?_eq_getElem h]
theorem g_of {es : List (Int × Int)} {i : Nat} {e : Int × Int} (h : es[i]? = some e) : g es i = e := by
  simp [g, List.getD_eq_getElem?_getD, h]
theorem g_set {es : List (Int × Int)} {i j : Nat} {x : Int × Int} (h : i < es.length) : g (es.set i x) j = if i = j then x else g es j := by
  simp only [g, List.getD_eq_getElem?_getD, List.getElem?_set]
  split
  · rfl
  · rfl

def Ord (es : List (Int × Int)) : Prop := ∀ j, 0 < j → j < es.length → eLt (g es j) (g es ((j - 1) / 2)) = false
/-- All is in order but, it may be, i and the one above it. -/
structure UpOk (es : List (Int × Int)) (i : Nat) : Prop where
  a : ∀ j, 0 < j → j < es.length → j ≠ i → eLt (g es j) (g es ((j - 1) / 2)) = false
  b : 0 < i → ∀ j, 0 < j → j < es.length → (j - 1) / 2 = i → eLt (g es j) (g es ((i - 1) / 2)) = false
/-- All is in order but, it may be, i and those about it. -/
structure DownOk (es : List (Int × Int)) (i : Nat) : Prop where
  a : ∀ j, 0 < j → j < es.length → j ≠ i → (j - 1) / 2 ≠ i → eLt (g es j) (g es ((j - 1) / 2)) = false
  b : 0 < i → ∀ j, 0 < j → j < es.length → (j - 1) / 2 = i → eLt (g es j) (g es ((i - 1) / 2)) = false

def sw (es : List (Int × Int)) (i k : Nat) : List (Int × Int) := (es.set i (g es k)).set k (g es i)
theorem sw_len (es : List (Int × Int)) (i k : Nat) : (sw es i k).length = es.length := by simp [sw]
theorem sw_g {es : List (Int × Int)} {i k j : Nat} (hi : i < es.length) (hk : k < es.length) : g (sw es i k) j = if k = j then g es i else if i = j then g es k else g es j := by
  rw [sw, g_set (by simpa using hk), g_set hi]

theorem up_stop {es : List (Int × Int)} {i : Nat} (h : UpOk es i) (hs : 0 < i → eLt (g es i) (g es ((i - 1) / 2)) = false) : Ord es := by
  intro j h0 hj
  by_cases e : j = i
  · subst e; exact hs h0
  · exact h.a j h0 hj e

theorem up_step {es : List (Int × Int)} {i : Nat} (h : UpOk es i) (h0 : 0 < i) (hi : i < es.length) (hlt : eLt (g es i) (g es ((i - 1) / 2)) = true) : UpOk (sw es i ((i - 1) / 2)) ((i - 1) / 2) := by
  have hp : (i - 1) / 2 < es.length := by omega
  constructor
  · intro j j0 hj hne
    rw [sw_len] at hj
    rw [sw_g hi hp, sw_g hi hp, if_neg (Ne.symm hne)]
    by_cases e : i = j
    · subst e
      rw [if_pos rfl, if_pos rfl]
      exact eLt_asymm hlt
    · rw [if_neg e]
      by_cases e2 : (i - 1) / 2 = (j - 1) / 2
      · rw [if_pos e2]
        have := h.a j j0 hj (Ne.symm e)
        rw [← e2] at this
        exact eLt_trans (eLt_asymm hlt) this
      · rw [if_neg e2]
        by_cases e3 : i = (j - 1) / 2
        · rw [if_pos e3]
          exact h.b h0 j j0 hj e3.symm
        · rw [if_neg e3]
          exact h.a j j0 hj (Ne.symm e)
  · intro p0 j j0 hj hjp
    rw [sw_len] at hj
    have hq : g (sw es i ((i - 1) / 2)) (((i - 1) / 2 - 1) / 2) = g es (((i - 1) / 2 - 1) / 2) := by
      rw [sw_g hi hp, if_neg (by omega), if_neg (by omega)]
    have hpq := h.a ((i - 1) / 2) p0 hp (by omega)
    rw [hq, sw_g hi hp, if_neg (by omega)]
    by_cases e : i = j
    · rw [if_pos e]; exact hpq
    · rw [if_neg e]
      have := h.a j j0 hj (Ne.symm e)
      rw [hjp] at this
      exact eLt_trans hpq this

/-- The lesser child. -/
def kid (es : List (Int × Int)) (i : Nat) : Nat := if 2 * i + 2 < es.length ∧ eLt (g es (2 * i + 2)) (g es (2 * i + 1)) = true then 2 * i + 2 else 2 * i + 1

theorem kid_le (es : List (Int × Int)) (i : Nat) {j : Nat} (h0 : 0 < j) (hj : j < es.length) (hp : (j - 1) / 2 = i) : eLt (g es j) (g es (kid es i)) = false := by
  have : j = 2 * i + 1 ∨ j = 2 * i + 2 := by omega
  unfold kid
  split
  · rename_i h
    rcases this with rfl | rfl
    · exact eLt_asymm h.2
    · exact eLt_irrefl _
  · rename_i h
    rcases this with rfl | rfl
    · exact eLt_irrefl _
    · cases hb : eLt (g es (2 * i + 2)) (g es (2 * i + 1)) with
      | false => rfl
      | true => exact absurd ⟨hj, hb⟩ h

theorem kid_or (es : List (Int × Int)) (i : Nat) : kid es i = 2 * i + 1 ∨ kid es i = 2 * i + 2 := by
  unfold kid; split <;> simp

theorem down_stop {es : List (Int × Int)} {i : Nat} (h : DownOk es i) (hs : kid es i < es.length → eLt (g es i) (g es (kid es i)) = true) : UpOk es i := by
  refine ⟨fun j j0 hj hne => ?_, h.b⟩
  by_cases e : (j - 1) / 2 = i
  · have hk : kid es i < es.length := by
      unfold kid
      split
      · rename_i h; exact h.1
      · omega
    have := kid_le es i j0 hj e
    rw [e]
    exact eLt_trans (eLt_asymm (hs hk)) this
  · exact h.a j j0 hj hne e

theorem down_step {es : List (Int × Int)} {i : Nat} (h : DownOk es i) (hi : i < es.length) (hk : kid es i < es.length) (_hlt : eLt (g es i) (g es (kid es i)) = false) : DownOk (sw es i (kid es i)) (kid es i) := by
  have hor := kid_or es i
  have hki : (kid es i - 1) / 2 = i := by omega
  constructor
  · intro j j0 hj hne hne2
    rw [sw_len] at hj
    rw [sw_g hi hk, sw_g hi hk, if_neg (Ne.symm hne), if_neg (Ne.symm hne2)]
    by_cases e : i = j
    · subst e
      rw [if_pos rfl, if_neg (by omega)]
      exact h.b j0 (kid es i) (by omega) hk hki
    · rw [if_neg e]
      by_cases e2 : i = (j - 1) / 2
      · rw [if_pos e2]; exact kid_le es i j0 hj e2.symm
      · rw [if_neg e2]; exact h.a j j0 hj (Ne.symm e) (Ne.symm e2)
  · intro k0 j j0 hj hjk
    rw [sw_len] at hj
    rw [hki, sw_g hi hk, sw_g hi hk, if_neg (by omega), if_neg (by omega), if_neg (by omega), if_pos rfl]
    have := h.a j j0 hj (by omega) (by omega)
    rw [hjk] at this
    exact this

theorem ord_down {es : List (Int × Int)} (h : Ord es) {i : Nat} (x : Int × Int) (hi : i < es.length) : DownOk (es.set i x) i := by
  constructor
  · intro j j0 hj h1 h2
    rw [g_set hi, g_set hi, if_neg (Ne.symm h1), if_neg (Ne.symm h2)]
    exact h j j0 (by simpa using hj)
  · intro i0 j j0 hj hp
    rw [List.length_set] at hj
    rw [g_set hi, g_set hi, if_neg (by omega), if_neg (by omega)]
    have h1 := h j j0 hj
    rw [hp] at h1
    exact eLt_trans (h i i0 hi) h1

theorem ord_take {es : List (Int × Int)} {x : Int × Int} (h : Ord (es ++ [x])) : Ord es := by
  intro j j0 hj
  have := h j j0 (by simp; omega)
  have g1 : ∀ k, k < es.length → g (es ++ [x]) k = g es k := fun k hk => by simp [g, List.getD_eq_getElem?_getD, List.getElem?_append_left hk]
  rw [g1 _ hj, g1 _ (by omega)] at this
  exact this

theorem ord_push {es : List (Int × Int)} (h : Ord es) (x : Int × Int) : DownOk (es ++ [x]) es.length := by
  have g1 : ∀ k, k < es.length → g (es ++ [x]) k = g es k := fun k hk => by simp [g, List.getD_eq_getElem?_getD, List.getElem?_append_left hk]
  constructor
  · intro j j0 hj h1 h2
    simp at hj
    rw [g1 _ (by omega), g1 _ (by omega)]
    exact h j j0 (by omega)
  · intro i0 j j0 hj hp
    simp at hj; omega

/-- The first is the least. -/
theorem ord_first {es : List (Int × Int)} (h : Ord es) : ∀ j, j < es.length → eLt (g es j) (g es 0) = false := by
  intro j
  induction j using Nat.strongRecOn with
  | ind j ih =>
    intro hj
    by_cases j0 : j = 0
    · subst j0; exact eLt_irrefl _
    · exact eLt_trans (ih ((j - 1) / 2) (by omega) (by omega)) (h j (by omega) hj)

/-- Entries and places belong together. -/
structure Bij (es : List (Int × Int)) (pl : List Int) : Prop where
  a : ∀ (i : Nat) (e : Int × Int), es[i]? = some e → 0 ≤ e.1 ∧ pl[e.1.toNat]? = some ((i : Int) + 1)
  b : ∀ (d : Nat) (v : Int), pl[d]? = some v → v = 0 ∨ (1 ≤ v ∧ ∃ e, es[(v - 1).toNat]? = some e ∧ e.1 = d)

theorem Bij.inj {es : List (Int × Int)} {pl : List Int} (h : Bij es pl) {i j : Nat} {e f : Int × Int} (hi : es[i]? = some e) (hj : es[j]? = some f) (he : e.1 = f.1) : i = j := by
  have h1 := (h.a i e hi).2
  have h2 := (h.a j f hj).2
  rw [he, h2] at h1
  injection h1 with h1; omega

theorem Bij.nodup {es : List (Int × Int)} {pl : List Int} (h : Bij es pl) : (es.map (·.1)).Nodup := by
  rw [List.nodup_iff_pairwise_ne, List.pairwise_iff_getElem]
  intro i j hi hj hij
  simp only [List.length_map] at hi hj
  simp only [List.getElem_map]
  intro he
  have := h.inj (List.getElem?_eq_getElem hi) (List.getElem?_eq_getElem hj) he
  omega

theorem set_get {α : Type} {l : List α} {i : Nat} {x : α} (j : Nat) (h : i < l.length) : (l.set i x)[j]? = if i = j then some x else l[j]? := by
  rw [List.getElem?_set]; simp [h]

theorem Bij.sw {es : List (Int × Int)} {pl : List Int} (h : Bij es pl) {i k : Nat} (hi : i < es.length) (hk : k < es.length) (hik : i ≠ k) :
    Bij (sw es i k) ((pl.set (g es k).1.toNat ((i : Int) + 1)).set (g es i).1.toNat ((k : Int) + 1)) := by
  obtain ⟨hi0, hip⟩ := h.a i _ (g_get hi)
  obtain ⟨hk0, hkp⟩ := h.a k _ (g_get hk)
  have hil := (List.getElem?_eq_some_iff.1 hip).1
  have hkl := (List.getElem?_eq_some_iff.1 hkp).1
  have hne : (g es k).1.toNat ≠ (g es i).1.toNat := by
    intro e; rw [e, hip] at hkp; injection hkp with hkp; omega
  have gs : ∀ j, j < es.length → (Go.Sh.sw es i k)[j]? = some (if k = j then g es i else if i = j then g es k else g es j) := by
    intro j hj
    rw [g_get (by rw [sw_len]; exact hj), sw_g hi hk]
  have ps : ∀ d, ((pl.set (g es k).1.toNat ((i : Int) + 1)).set (g es i).1.toNat ((k : Int) + 1))[d]? = if (g es i).1.toNat = d then some ((k : Int) + 1) else if (g es k).1.toNat = d then some ((i : Int) + 1) else pl[d]? := by
    intro d; rw [set_get d (by simpa using hil), set_get d hkl]
  constructor
  · intro j e he
    have hj : j < es.length := by have := (List.getElem?_eq_some_iff.1 he).1; rwa [sw_len] at this
    rw [gs j hj] at he
    injection he with he
    by_cases e1 : k = j
    · rw [if_pos e1] at he; subst he; exact ⟨hi0, by rw [ps, if_pos rfl, e1]⟩
    · rw [if_neg e1] at he
      by_cases e2 : i = j
      · rw [if_pos e2] at he; subst he; exact ⟨hk0, by rw [ps, if_neg (Ne.symm hne), if_pos rfl, e2]⟩
      · rw [if_neg e2] at he; subst he
        obtain ⟨h0, hp⟩ := h.a j _ (g_get hj)
        refine ⟨h0, ?_⟩
        rw [ps, if_neg, if_neg]
        · exact hp
        · intro e; rw [e, hp] at hkp; injection hkp with hkp; omega
        · intro e; rw [e, hp] at hip; injection hip with hip; omega
  · intro d v hv
    rw [ps] at hv
    by_cases e1 : (g es i).1.toNat = d
    · rw [if_pos e1] at hv; injection hv with hv; subst hv
      refine .inr ⟨by omega, g es i, ?_, by omega⟩
      rw [show ((k : Int) + 1 - 1).toNat = k by omega, gs k hk, if_pos rfl]
    · rw [if_neg e1] at hv
      by_cases e2 : (g es k).1.toNat = d
      · rw [if_pos e2] at hv; injection hv with hv; subst hv
        refine .inr ⟨by omega, g es k, ?_, by omega⟩
        rw [show ((i : Int) + 1 - 1).toNat = i by omega, gs i hi, if_neg (Ne.symm hik), if_pos rfl]
      · rw [if_neg e2] at hv
        rcases h.b d v hv with h0 | ⟨h1, e, he, hd⟩
        · exact .inl h0
        · refine .inr ⟨h1, e, ?_, hd⟩
          have hj := (List.getElem?_eq_some_iff.1 he).1
          rw [gs _ hj, if_neg, if_neg]
          · rw [← he, g_get hj]
          · intro e'; rw [← e', g_get hi] at he; injection he with he; rw [he, hd] at e1; exact e1 (by simp)
          · intro e'; rw [← e', g_get hk] at he; injection he with he; rw [he, hd] at e2; exact e2 (by simp)

theorem sw_mem {es : List (Int × Int)} {i k : Nat} (hi : i < es.length) (hk : k < es.length) (x : Int × Int) : x ∈ Go.Sh.sw es i k ↔ x ∈ es := by
  have gs : ∀ j, j < es.length → (Go.Sh.sw es i k)[j]? = some (if k = j then g es i else if i = j then g es k else g es j) := by
    intro j hj
    rw [g_get (by rw [sw_len]; exact hj), sw_g hi hk]
  rw [List.mem_iff_getElem?, List.mem_iff_getElem?]
  constructor
  · rintro ⟨j, hj⟩
    have hl : j < es.length := by have := (List.getElem?_eq_some_iff.1 hj).1; rwa [sw_len] at this
    rw [gs j hl] at hj
    split at hj
    · exact ⟨i, by rw [g_get hi]; exact hj⟩
    · split at hj
      · exact ⟨k, by rw [g_get hk]; exact hj⟩
      · exact ⟨j, by rw [g_get hl]; exact hj⟩
  · rintro ⟨j, hj⟩
    have hl := (List.getElem?_eq_some_iff.1 hj).1
    rw [g_get hl] at hj
    by_cases e1 : j = i
    · subst e1; exact ⟨k, by rw [gs k hk, if_pos rfl]; exact hj⟩
    · by_cases e2 : j = k
      · subst e2
        exact ⟨i, by rw [gs i hi, if_neg e1, if_pos rfl]; exact hj⟩
      · exact ⟨j, by rw [gs j hl, if_neg (Ne.symm e2), if_neg (Ne.symm e1)]; exact hj⟩
end Go.Sh
