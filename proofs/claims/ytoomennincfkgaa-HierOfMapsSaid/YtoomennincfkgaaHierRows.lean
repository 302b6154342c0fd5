/- Rows of edges: a slice of slices. -/
import Derived.Test.YtoomennincfkgaaHierPut
import Derived.Test.YtoomennincfkgaaBase2
set_option maxRecDepth 100000
namespace Go.Sh
open Go.RowKit

abbrev Edg := Int × Int × Int
structure Rows (w : World) (s : SV) (svs : List SV) (L : List (List Edg)) : Prop where
  so : Own RS w s svs
  len : svs.length = L.length
  row : ∀ v (h1 : v < svs.length) (h2 : v < L.length), Own RD w svs[v] L[v]
  dj : ∀ u v (hu : u < svs.length) (hv : v < svs.length), u ≠ v → ∀ k, svs[u].blk k → ¬ svs[v].blk k
  ds : ∀ v (hv : v < svs.length) k, svs[v].blk k → ¬ s.blk k
def rowsF (s : SV) (svs : List SV) (k : Nat) : Prop := s.blk k ∨ ∃ v, ∃ h : v < svs.length, svs[v].blk k

section
variable {w w' : World} {s : SV} {svs : List SV} {L : List (List Edg)}
theorem Rows.chg {G : Nat → Prop} (h : Rows w s svs L) (c : Chg G w w') (hd : ∀ k, rowsF s svs k → ¬ G k) : Rows w' s svs L :=
  ⟨h.so.chg c fun k hk => hd k (.inl hk), h.len, fun v h1 h2 => (h.row v h1 h2).chg c fun k hk => hd k (.inr ⟨v, h1, hk⟩), h.dj, h.ds⟩
theorem Rows.ext (h : Rows w s svs L) (e : Ext w w') : Rows w' s svs L := h.chg (G := fun _ => False) (.of_ext e) fun _ _ h => h
theorem Rows.off {b : Nat} (h : Rows w s svs L) (o : Off b w w') (hb : ¬ rowsF s svs b) : Rows w' s svs L := h.chg (G := fun k => k = b) (.of_off o rfl) fun _ hk e => hb (e ▸ hk)
theorem Rows.lt (h : Rows w s svs L) {k : Nat} (hk : rowsF s svs k) : k < w.heap.size := by
  rcases hk with hk | ⟨v, hv, hk⟩
  · exact h.so.lt hk
  · exact (h.row v hv (by rw [← h.len]; exact hv)).lt hk
theorem Rows.nil {n : Nat} (h : Own RS w s (List.replicate n ⟨none, 0, 0⟩)) : Rows w s (List.replicate n ⟨none, 0, 0⟩) (List.replicate n []) := by
  refine ⟨h, by simp, fun v h1 h2 => ?_, fun u v hu hv _ k hk => ?_, fun v hv k hk => ?_⟩
  · simp only [List.getElem_replicate]; exact Own.nil
  · simp only [List.getElem_replicate] at hk; obtain ⟨p, hp, _⟩ := hk; cases hp
  · simp only [List.getElem_replicate] at hk; obtain ⟨p, hp, _⟩ := hk; cases hp
theorem rowsF_nil {n : Nat} {k : Nat} : rowsF s (List.replicate n ⟨none, 0, 0⟩) k ↔ s.blk k := by
  constructor
  · rintro (h | ⟨v, hv, hk⟩)
    · exact h
    · simp only [List.getElem_replicate] at hk; obtain ⟨p, hp, _⟩ := hk; cases hp
  · exact .inl

/-- A row that has grown is put back. -/
theorem Rows.store {w1 w2 : World} (h : Rows w s svs L) {v : Nat} (hv : v < svs.length) {s' : SV} {l' : List Edg} (c : Chg svs[v].blk w w1) (hs : ∀ k, s'.blk k → svs[v].blk k ∨ w.heap.size ≤ k) (hO : Own RD w1 s' l') (e : Ext w1 w2) {K : World → Prop}
    (hk : ∀ w3, Chg s.blk w2 w3 → Rows w3 s (svs.set v s') (L.set v l') → (∀ k, rowsF s (svs.set v s') k → rowsF s svs k ∨ w.heap.size ≤ k) → K w3) : Idx s.a s.len (v : Int) 1 (fun a => stL w2 a [.slice s'.a s'.len s'.cap] 0 K) := by
  have hs2 : Own RS w2 s svs := (h.so.chg c fun k h1 h2 => h.ds v hv k h2 h1).ext e
  refine own_wr (R := RS) hs2 hv fun b hb hput => ?_
  refine hput s' w2 _ hs2 fun w3 o hO3 => ?_
  have co : Chg s.blk w2 w3 := .of_off o ⟨_, hb, rfl⟩
  have nS : ∀ k, s'.blk k → ¬ s.blk k := fun k h1 h2 => by
    rcases hs k h1 with h' | h'
    · exact h.ds v hv k h' h2
    · have := h.so.lt h2; omega
  have hlen := h.len
  refine hk w3 co ⟨hO3, by simpa using hlen, fun u h1 h2 => ?_, fun u t hu ht hne k h1 h2 => ?_, fun u hu k h1 => ?_⟩ fun k hk => ?_
  · simp only [List.length_set] at h1 h2
    by_cases huv : v = u
    · subst huv
      simp only [List.getElem_set_self]
      exact (hO.ext e).chg co nS
    · simp only [List.getElem_set_ne huv]
      exact (((h.row u h1 h2).chg c fun k h3 h4 => h.dj u v h1 hv (Ne.symm huv) k h3 h4).ext e).chg co fun k h3 h4 => h.ds u h1 k h3 h4
  · simp only [List.length_set] at hu ht
    rw [List.getElem_set] at h1 h2
    split at h1
    · rename_i e1; subst e1
      rw [if_neg hne] at h2
      rcases hs k h1 with h' | h'
      · exact h.dj v t hv ht hne k h' h2
      · have := (h.row t ht (by omega)).lt h2; omega
    · rename_i e1
      split at h2
      · rename_i e2; subst e2
        rcases hs k h2 with h' | h'
        · exact h.dj v u hv hu e1 k h' h1
        · have := (h.row u hu (by omega)).lt h1; omega
      · exact h.dj u t hu ht hne k h1 h2
  · simp only [List.length_set] at hu
    rw [List.getElem_set] at h1
    split at h1
    · exact nS k h1
    · exact h.ds u hu k h1
  · rcases hk with hk | ⟨u, hu, hk⟩
    · exact .inl (.inl hk)
    · simp only [List.length_set] at hu
      rw [List.getElem_set] at hk
      split at hk
      · rcases hs k hk with h' | h'
        · exact .inl (.inr ⟨v, hv, h'⟩)
        · exact .inr h'
      · exact .inl (.inr ⟨u, hu, hk⟩)
end

/-- The ways up from v, and down to it, of the first i ways. -/
def wyA (ways : List Wy) (i : Nat) : Wy := ways.getD i (0, 0, 0, 0, 0)
theorem wyA_get {ways : List Wy} {i : Nat} (h : i < ways.length) : ways[i] = wyA ways i := by unfold wyA; rw [List.getD_eq_getElem?_getD, List.getElem?_eq_getElem h]; rfl
def IsUp (rank : List Int) (y : Wy) : Prop := rkA rank (yF y) < rkA rank (yT y)
instance (rank : List Int) (y : Wy) : Decidable (IsUp rank y) := by unfold IsUp; infer_instance
def upP (rank : List Int) (ways : List Wy) (v : Int) : Nat → List Edg
  | 0 => []
  | i + 1 => if yF (wyA ways i) = v ∧ IsUp rank (wyA ways i) then insE (yT (wyA ways i), yW (wyA ways i), (i : Int)) (upP rank ways v i) else upP rank ways v i
def dnP (rank : List Int) (ways : List Wy) (v : Int) : Nat → List Edg
  | 0 => []
  | i + 1 => if yT (wyA ways i) = v ∧ ¬ IsUp rank (wyA ways i) then insE (yF (wyA ways i), yW (wyA ways i), (i : Int)) (dnP rank ways v i) else dnP rank ways v i
theorem upP_mem {rank : List Int} {ways : List Wy} {v : Int} {e : Edg} : ∀ {i : Nat}, e ∈ upP rank ways v i ↔ ∃ k, k < i ∧ yF (wyA ways k) = v ∧ IsUp rank (wyA ways k) ∧ e = (yT (wyA ways k), yW (wyA ways k), (k : Int))
  | 0 => by simp [upP]
  | i + 1 => by
    unfold upP
    split
    · rename_i h
      rw [insE_mem, upP_mem]
      constructor
      · rintro (rfl | ⟨k, hk, h1⟩)
        · exact ⟨i, by omega, h.1, h.2, rfl⟩
        · exact ⟨k, by omega, h1⟩
      · rintro ⟨k, hk, h1⟩
        by_cases e : k = i
        · subst e; exact .inl h1.2.2
        · exact .inr ⟨k, by omega, h1⟩
    · rename_i h
      rw [upP_mem]
      constructor
      · rintro ⟨k, hk, h1⟩; exact ⟨k, by omega, h1⟩
      · rintro ⟨k, hk, h1⟩
        by_cases e : k = i
        · subst e; exact absurd ⟨h1.1, h1.2.1⟩ h
        · exact ⟨k, by omega, h1⟩
theorem dnP_mem {rank : List Int} {ways : List Wy} {v : Int} {e : Edg} : ∀ {i : Nat}, e ∈ dnP rank ways v i ↔ ∃ k, k < i ∧ yT (wyA ways k) = v ∧ ¬ IsUp rank (wyA ways k) ∧ e = (yF (wyA ways k), yW (wyA ways k), (k : Int))
  | 0 => by simp [dnP]
  | i + 1 => by
    unfold dnP
    split
    · rename_i h
      rw [insE_mem, dnP_mem]
      constructor
      · rintro (rfl | ⟨k, hk, h1⟩)
        · exact ⟨i, by omega, h.1, h.2, rfl⟩
        · exact ⟨k, by omega, h1⟩
      · rintro ⟨k, hk, h1⟩
        by_cases e : k = i
        · subst e; exact .inl h1.2.2
        · exact .inr ⟨k, by omega, h1⟩
    · rename_i h
      rw [dnP_mem]
      constructor
      · rintro ⟨k, hk, h1⟩; exact ⟨k, by omega, h1⟩
      · rintro ⟨k, hk, h1⟩
        by_cases e : k = i
        · subst e; exact absurd ⟨h1.1, h1.2.1⟩ h
        · exact ⟨k, by omega, h1⟩
theorem upP_rise {rank : List Int} {ways : List Wy} {n : Nat} (ok : OkFs n ways) (v : Int) : ∀ {i : Nat}, i ≤ ways.length → Rise (upP rank ways v i)
  | 0, _ => List.Pairwise.nil
  | i + 1, hi => by
    unfold upP
    split
    · rename_i h
      refine insE_rise (upP_rise ok v (by omega)) fun x hx heq => ?_
      obtain ⟨k, hk, h1, _, rfl⟩ := upP_mem.1 hx
      have := ok.uniq (j := k) (k := i) (by omega) (by omega) (by rw [wyA_get, wyA_get, h1, h.1]) (by rw [wyA_get, wyA_get]; exact heq)
      omega
    · exact upP_rise ok v (by omega)
theorem dnP_rise {rank : List Int} {ways : List Wy} {n : Nat} (ok : OkFs n ways) (v : Int) : ∀ {i : Nat}, i ≤ ways.length → Rise (dnP rank ways v i)
  | 0, _ => List.Pairwise.nil
  | i + 1, hi => by
    unfold dnP
    split
    · rename_i h
      refine insE_rise (dnP_rise ok v (by omega)) fun x hx heq => ?_
      obtain ⟨k, hk, h1, _, rfl⟩ := dnP_mem.1 hx
      have := ok.uniq (j := k) (k := i) (by omega) (by omega) (by rw [wyA_get, wyA_get]; exact heq) (by rw [wyA_get, wyA_get, h1, h.1])
      omega
    · exact dnP_rise ok v (by omega)
theorem upP_len (rank : List Int) (ways : List Wy) (v : Int) : ∀ i, (upP rank ways v i).length ≤ i
  | 0 => by simp [upP]
  | i + 1 => by
    have := upP_len rank ways v i
    unfold upP; split
    · rw [insE_len]; omega
    · omega
theorem dnP_len (rank : List Int) (ways : List Wy) (v : Int) : ∀ i, (dnP rank ways v i).length ≤ i
  | 0 => by simp [dnP]
  | i + 1 => by
    have := dnP_len rank ways v i
    unfold dnP; split
    · rw [insE_len]; omega
    · omega
def upsL (rank : List Int) (ways : List Wy) (i : Nat) : List (List Edg) := (List.range rank.length).map fun (v : Nat) => upP rank ways (v : Int) i
def dnsL (rank : List Int) (ways : List Wy) (i : Nat) : List (List Edg) := (List.range rank.length).map fun (v : Nat) => dnP rank ways (v : Int) i
theorem upsL_len (rank : List Int) (ways : List Wy) (i : Nat) : (upsL rank ways i).length = rank.length := by simp [upsL]
theorem dnsL_len (rank : List Int) (ways : List Wy) (i : Nat) : (dnsL rank ways i).length = rank.length := by simp [dnsL]
theorem upsL_get {rank : List Int} {ways : List Wy} {i v : Nat} (h : v < (upsL rank ways i).length) : (upsL rank ways i)[v] = upP rank ways (v : Int) i := by simp [upsL]
theorem dnsL_get {rank : List Int} {ways : List Wy} {i v : Nat} (h : v < (dnsL rank ways i).length) : (dnsL rank ways i)[v] = dnP rank ways (v : Int) i := by simp [dnsL]
theorem upsL_step {rank : List Int} {ways : List Wy} {i f : Nat} (hf : yF (wyA ways i) = (f : Int)) (hu : IsUp rank (wyA ways i)) :
    (upsL rank ways i).set f (insE (yT (wyA ways i), yW (wyA ways i), (i : Int)) (upP rank ways (f : Int) i)) = upsL rank ways (i + 1) := by
  apply List.ext_getElem
  · simp [upsL]
  · intro j h1 h2
    rw [List.getElem_set]
    by_cases e : f = j
    · subst e; rw [if_pos rfl, upsL_get]; simp only [upP]; rw [if_pos ⟨hf, hu⟩]
    · rw [if_neg e, upsL_get, upsL_get]; simp only [upP]; rw [if_neg (fun h => e (by have := hf.symm.trans h.1; omega))]
theorem dnsL_step {rank : List Int} {ways : List Wy} {i t : Nat} (ht : yT (wyA ways i) = (t : Int)) (hu : ¬ IsUp rank (wyA ways i)) :
    (dnsL rank ways i).set t (insE (yF (wyA ways i), yW (wyA ways i), (i : Int)) (dnP rank ways (t : Int) i)) = dnsL rank ways (i + 1) := by
  apply List.ext_getElem
  · simp [dnsL]
  · intro j h1 h2
    rw [List.getElem_set]
    by_cases e : t = j
    · subst e; rw [if_pos rfl, dnsL_get]; simp only [dnP]; rw [if_pos ⟨ht, hu⟩]
    · rw [if_neg e, dnsL_get, dnsL_get]; simp only [dnP]; rw [if_neg (fun h => e (by have := ht.symm.trans h.1; omega))]
theorem upsL_same {rank : List Int} {ways : List Wy} {i : Nat} (hu : ¬ IsUp rank (wyA ways i)) : upsL rank ways (i + 1) = upsL rank ways i := by
  unfold upsL; exact List.map_congr_left fun v _ => by simp only [upP]; rw [if_neg (fun h => hu h.2)]
theorem dnsL_same {rank : List Int} {ways : List Wy} {i : Nat} (hu : IsUp rank (wyA ways i)) : dnsL rank ways (i + 1) = dnsL rank ways i := by
  unfold dnsL; exact List.map_congr_left fun v _ => by simp only [dnP]; rw [if_neg (fun h => h.2 hu)]
theorem upsL_nil (rank : List Int) (ways : List Wy) : upsL rank ways 0 = List.replicate rank.length [] := by
  apply List.ext_getElem <;> simp [upsL, upP]
theorem dnsL_nil (rank : List Int) (ways : List Wy) : dnsL rank ways 0 = List.replicate rank.length [] := by
  apply List.ext_getElem <;> simp [dnsL, dnP]
end Go.Sh
