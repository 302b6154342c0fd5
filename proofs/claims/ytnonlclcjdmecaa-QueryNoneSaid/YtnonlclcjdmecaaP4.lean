/- HierRows, HierNew, HierApi, HierRef, HierRef2, HierTwo, SpClimb, GraphPure, GraphMap, GraphSort, GraphWalk, GraphLay, GraphNew, GraphApi, GraphRef, RefMap, SpRows, Contr, Contr2, RefLeft, RefNext, RefNear, SpRef, SpKnown, RefNeed, RefTake, RefBuild, RefBuild2, HierOfMaps, GraphTurned, GraphLoops, GraphLeast, DistPure, DistSum, DistApi, DistRef, DistRef2, SpMaps, SpMeet, SpBoth, SpTurned, QuFar, QuSearch, QuStep, QuMany, QuEnd, QuLook, QuLook2, QuLook3, QuLook4, QuLook5, QuTable, QuTables, DistKnown, QuFars: merged into one text. -/
import Derived.Test.YtnonlclcjdmecaaP3
import Derived.Test.YtnonlclcjdmecaaP2
/- Rows of edges: a slice of slices. -/
set_option maxRecDepth 100000
namespace Go.Sh
open Go.RowKit

abbrev Edg := Int × Int × Int
structure Rows (w : World) (s : SV) (svs : List SV) (L : List (List Edg)) : Prop where
  so : Own RS w s svs
  len : svs.length = L.length
  row : ∀ v (h1 : v < svs.length) (h2 : v < L.length), Own RD w svs[v] L[v]
  dj : ∀ u v (hu : u < svs.length) (hv : v < svs.length), u ≠ v → ∀ k, svs[u].blk k → ¬ svs[v].blk k
  ds : ∀ v (hv : v < svs.length) k, svs[v].blk k → ¬ s.blk k
def rowsF (s : SV) (svs : List SV) (k : Nat) : Prop := s.blk k ∨ ∃ v, ∃ h : v < svs.length, svs[v].blk k

section
variable {w w' : World} {s : SV} {svs : List SV} {L : List (List Edg)}
theorem Rows.chg {G : Nat → Prop} (h : Rows w s svs L) (c : Chg G w w') (hd : ∀ k, rowsF s svs k → ¬ G k) : Rows w' s svs L :=
  ⟨h.so.chg c fun k hk => hd k (.inl hk), h.len, fun v h1 h2 => (h.row v h1 h2).chg c fun k hk => hd k (.inr ⟨v, h1, hk⟩), h.dj, h.ds⟩
theorem Rows.ext (h : Rows w s svs L) (e : Ext w w') : Rows w' s svs L := h.chg (G := fun _ => False) (.of_ext e) fun _ _ h => h
theorem Rows.lt (h : Rows w s svs L) {k : Nat} (hk : rowsF s svs k) : k < w.heap.size := by
  rcases hk with hk | ⟨v, hv, hk⟩
  · exact h.so.lt hk
  · exact (h.row v hv (by rw [← h.len]; exact hv)).lt hk
theorem Rows.nil {n : Nat} (h : Own RS w s (List.replicate n ⟨none, 0, 0⟩)) : Rows w s (List.replicate n ⟨none, 0, 0⟩) (List.replicate n []) := by
  refine ⟨h, by simp, fun v h1 h2 => ?_, fun u v hu hv _ k hk => ?_, fun v hv k hk => ?_⟩
  · simp only [List.getElem_replicate]; exact Own.nil
  · simp only [List.getElem_replicate] at hk; obtain ⟨p, hp, _⟩ := hk; cases hp
  · simp only [List.getElem_replicate] at hk; obtain ⟨p, hp, _⟩ := hk; cases hp
theorem rowsF_nil {n : Nat} {k : Nat} : rowsF s (List.replicate n ⟨none, 0, 0⟩) k ↔ s.blk k := by
  constructor
  · rintro (h | ⟨v, hv, hk⟩)
    · exact h
    · simp only [List.getElem_replicate] at hk; obtain ⟨p, hp, _⟩ := hk; cases hp
  · exact .inl

/-- A row that has grown is put back. -/
theorem Rows.store {w1 w2 : World} (h : Rows w s svs L) {v : Nat} (hv : v < svs.length) {s' : SV} {l' : List Edg} (c : Chg svs[v].blk w w1) (hs : ∀ k, s'.blk k → svs[v].blk k ∨ w.heap.size ≤ k) (hO : Own RD w1 s' l') (e : Ext w1 w2) {K : World → Prop}
    (hk : ∀ w3, Chg s.blk w2 w3 → Rows w3 s (svs.set v s') (L.set v l') → (∀ k, rowsF s (svs.set v s') k → rowsF s svs k ∨ w.heap.size ≤ k) → K w3) : Idx s.a s.len (v : Int) 1 (fun a => stL w2 a [.slice s'.a s'.len s'.cap] 0 K) := by
  have hs2 : Own RS w2 s svs := (h.so.chg c fun k h1 h2 => h.ds v hv k h2 h1).ext e
  refine own_wr (R := RS) hs2 hv fun b hb hput => ?_
  refine hput s' w2 _ hs2 fun w3 o hO3 => ?_
  have co : Chg s.blk w2 w3 := .of_off o ⟨_, hb, rfl⟩
  have nS : ∀ k, s'.blk k → ¬ s.blk k := fun k h1 h2 => by
    rcases hs k h1 with h' | h'
    · exact h.ds v hv k h' h2
    · have := h.so.lt h2; omega
  have hlen := h.len
  refine hk w3 co ⟨hO3, by simpa using hlen, fun u h1 h2 => ?_, fun u t hu ht hne k h1 h2 => ?_, fun u hu k h1 => ?_⟩ fun k hk => ?_
  · simp only [List.length_set] at h1 h2
    by_cases huv : v = u
    · subst huv
      simp only [List.getElem_set_self]
      exact (hO.ext e).chg co nS
    · simp only [List.getElem_set_ne huv]
      exact (((h.row u h1 h2).chg c fun k h3 h4 => h.dj u v h1 hv (Ne.symm huv) k h3 h4).ext e).chg co fun k h3 h4 => h.ds u h1 k h3 h4
  · simp only [List.length_set] at hu ht
    rw [List.getElem_set] at h1 h2
    split at h1
    · rename_i e1; subst e1
      rw [if_neg hne] at h2
      rcases hs k h1 with h' | h'
      · exact h.dj v t hv ht hne k h' h2
      · have := (h.row t ht (by omega)).lt h2; omega
    · rename_i e1
      split at h2
      · rename_i e2; subst e2
        rcases hs k h2 with h' | h'
        · exact h.dj v u hv hu e1 k h' h1
        · have := (h.row u hu (by omega)).lt h1; omega
      · exact h.dj u t hu ht hne k h1 h2
  · simp only [List.length_set] at hu
    rw [List.getElem_set] at h1
    split at h1
    · exact nS k h1
    · exact h.ds u hu k h1
  · rcases hk with hk | ⟨u, hu, hk⟩
    · exact .inl (.inl hk)
    · simp only [List.length_set] at hu
      rw [List.getElem_set] at hk
      split at hk
      · rcases hs k hk with h' | h'
        · exact .inl (.inr ⟨v, hv, h'⟩)
        · exact .inr h'
      · exact .inl (.inr ⟨u, hu, hk⟩)
end

/-- The ways up from v, and down to it, of the first i ways. -/
def wyA (ways : List Wy) (i : Nat) : Wy := ways.getD i (0, 0, 0, 0, 0)
theorem wyA_get {ways : List Wy} {i : Nat} (h : i < ways.length) : ways[i] = wyA ways i := by unfold wyA; rw [List.getD_eq_getElem?_getD, List.getElem?_eq_getElem h]; rfl
def IsUp (rank : List Int) (y : Wy) : Prop := rkA rank (yF y) < rkA rank (yT y)
instance (rank : List Int) (y : Wy) : Decidable (IsUp rank y) := by unfold IsUp; infer_instance
def upP (rank : List Int) (ways : List Wy) (v : Int) : Nat → List Edg
  | 0 => []
  | i + 1 => if yF (wyA ways i) = v ∧ IsUp rank (wyA ways i) then insE (yT (wyA ways i), yW (wyA ways i), (i : Int)) (upP rank ways v i) else upP rank ways v i
def dnP (rank : List Int) (ways : List Wy) (v : Int) : Nat → List Edg
  | 0 => []
  | i + 1 => if yT (wyA ways i) = v ∧ ¬ IsUp rank (wyA ways i) then insE (yF (wyA ways i), yW (wyA ways i), (i : Int)) (dnP rank ways v i) else dnP rank ways v i
theorem upP_mem {rank : List Int} {ways : List Wy} {v : Int} {e : Edg} : ∀ {i : Nat}, e ∈ upP rank ways v i ↔ ∃ k, k < i ∧ yF (wyA ways k) = v ∧ IsUp rank (wyA ways k) ∧ e = (yT (wyA ways k), yW (wyA ways k), (k : Int))
  | 0 => by simp [upP]
  | i + 1 => by
    unfold upP
    split
    · rename_i h
      rw [insE_mem, upP_mem]
      constructor
      · rintro (rfl | ⟨k, hk, h1⟩)
        · exact ⟨i, by omega, h.1, h.2, rfl⟩
        · exact ⟨k, by omega, h1⟩
      · rintro ⟨k, hk, h1⟩
        by_cases e : k = i
        · subst e; exact .inl h1.2.2
        · exact .inr ⟨k, by omega, h1⟩
    · rename_i h
      rw [upP_mem]
      constructor
      · rintro ⟨k, hk, h1⟩; exact ⟨k, by omega, h1⟩
      · rintro ⟨k, hk, h1⟩
        by_cases e : k = i
        · subst e; exact absurd ⟨h1.1, h1.2.1⟩ h
        · exact ⟨k, by omega, h1⟩
theorem dnP_mem {rank : List Int} {ways : List Wy} {v : Int} {e : Edg} : ∀ {i : Nat}, e ∈ dnP rank ways v i ↔ ∃ k, k < i ∧ yT (wyA ways k) = v ∧ ¬ IsUp rank (wyA ways k) ∧ e = (yF (wyA ways k), yW (wyA ways k), (k : Int))
  | 0 => by simp [dnP]
  | i + 1 => by
    unfold dnP
    split
    · rename_i h
      rw [insE_mem, dnP_mem]
      constructor
      · rintro (rfl | ⟨k, hk, h1⟩)
        · exact ⟨i, by omega, h.1, h.2, rfl⟩
        · exact ⟨k, by omega, h1⟩
      · rintro ⟨k, hk, h1⟩
        by_cases e : k = i
        · subst e; exact .inl h1.2.2
        · exact .inr ⟨k, by omega, h1⟩
    · rename_i h
      rw [dnP_mem]
      constructor
      · rintro ⟨k, hk, h1⟩; exact ⟨k, by omega, h1⟩
      · rintro ⟨k, hk, h1⟩
        by_cases e : k = i
        · subst e; exact absurd ⟨h1.1, h1.2.1⟩ h
        · exact ⟨k, by omega, h1⟩
theorem upP_rise {rank : List Int} {ways : List Wy} {n : Nat} (ok : OkFs n ways) (v : Int) : ∀ {i : Nat}, i ≤ ways.length → Rise (upP rank ways v i)
  | 0, _ => List.Pairwise.nil
  | i + 1, hi => by
    unfold upP
    split
    · rename_i h
      refine insE_rise (upP_rise ok v (by omega)) fun x hx heq => ?_
      obtain ⟨k, hk, h1, _, rfl⟩ := upP_mem.1 hx
      have := ok.uniq (j := k) (k := i) (by omega) (by omega) (by rw [wyA_get, wyA_get, h1, h.1]) (by rw [wyA_get, wyA_get]; exact heq)
      omega
    · exact upP_rise ok v (by omega)
theorem dnP_rise {rank : List Int} {ways : List Wy} {n : Nat} (ok : OkFs n ways) (v : Int) : ∀ {i : Nat}, i ≤ ways.length → Rise (dnP rank ways v i)
  | 0, _ => List.Pairwise.nil
  | i + 1, hi => by
    unfold dnP
    split
    · rename_i h
      refine insE_rise (dnP_rise ok v (by omega)) fun x hx heq => ?_
      obtain ⟨k, hk, h1, _, rfl⟩ := dnP_mem.1 hx
      have := ok.uniq (j := k) (k := i) (by omega) (by omega) (by rw [wyA_get, wyA_get]; exact heq) (by rw [wyA_get, wyA_get, h1, h.1])
      omega
    · exact dnP_rise ok v (by omega)
theorem upP_len (rank : List Int) (ways : List Wy) (v : Int) : ∀ i, (upP rank ways v i).length ≤ i
  | 0 => by simp [upP]
  | i + 1 => by
    have := upP_len rank ways v i
    unfold upP; split
    · rw [insE_len]; omega
    · omega
theorem dnP_len (rank : List Int) (ways : List Wy) (v : Int) : ∀ i, (dnP rank ways v i).length ≤ i
  | 0 => by simp [dnP]
  | i + 1 => by
    have := dnP_len rank ways v i
    unfold dnP; split
    · rw [insE_len]; omega
    · omega
def upsL (rank : List Int) (ways : List Wy) (i : Nat) : List (List Edg) := (List.range rank.length).map fun (v : Nat) => upP rank ways (v : Int) i
def dnsL (rank : List Int) (ways : List Wy) (i : Nat) : List (List Edg) := (List.range rank.length).map fun (v : Nat) => dnP rank ways (v : Int) i
theorem upsL_len (rank : List Int) (ways : List Wy) (i : Nat) : (upsL rank ways i).length = rank.length := by simp [upsL]
theorem dnsL_len (rank : List Int) (ways : List Wy) (i : Nat) : (dnsL rank ways i).length = rank.length := by simp [dnsL]
theorem upsL_get {rank : List Int} {ways : List Wy} {i v : Nat} (h : v < (upsL rank ways i).length) : (upsL rank ways i)[v] = upP rank ways (v : Int) i := by simp [upsL]
theorem dnsL_get {rank : List Int} {ways : List Wy} {i v : Nat} (h : v < (dnsL rank ways i).length) : (dnsL rank ways i)[v] = dnP rank ways (v : Int) i := by simp [dnsL]
theorem upsL_step {rank : List Int} {ways : List Wy} {i f : Nat} (hf : yF (wyA ways i) = (f : Int)) (hu : IsUp rank (wyA ways i)) :
    (upsL rank ways i).set f (insE (yT (wyA ways i), yW (wyA ways i), (i : Int)) (upP rank ways (f : Int) i)) = upsL rank ways (i + 1) := by
  apply List.ext_getElem
  · simp [upsL]
  · intro j h1 h2
    rw [List.getElem_set]
    by_cases e : f = j
    · subst e; rw [if_pos rfl, upsL_get]; simp only [upP]; rw [if_pos ⟨hf, hu⟩]
    · rw [if_neg e, upsL_get, upsL_get]; simp only [upP]; rw [if_neg (fun h => e (by have := hf.symm.trans h.1; omega))]
theorem dnsL_step {rank : List Int} {ways : List Wy} {i t : Nat} (ht : yT (wyA ways i) = (t : Int)) (hu : ¬ IsUp rank (wyA ways i)) :
    (dnsL rank ways i).set t (insE (yF (wyA ways i), yW (wyA ways i), (i : Int)) (dnP rank ways (t : Int) i)) = dnsL rank ways (i + 1) := by
  apply List.ext_getElem
  · simp [dnsL]
  · intro j h1 h2
    rw [List.getElem_set]
    by_cases e : t = j
    · subst e; rw [if_pos rfl, dnsL_get]; simp only [dnP]; rw [if_pos ⟨ht, hu⟩]
    · rw [if_neg e, dnsL_get, dnsL_get]; simp only [dnP]; rw [if_neg (fun h => e (by have := ht.symm.trans h.1; omega))]
theorem upsL_same {rank : List Int} {ways : List Wy} {i : Nat} (hu : ¬ IsUp rank (wyA ways i)) : upsL rank ways (i + 1) = upsL rank ways i := by
  unfold upsL; exact List.map_congr_left fun v _ => by simp only [upP]; rw [if_neg (fun h => hu h.2)]
theorem dnsL_same {rank : List Int} {ways : List Wy} {i : Nat} (hu : IsUp rank (wyA ways i)) : dnsL rank ways (i + 1) = dnsL rank ways i := by
  unfold dnsL; exact List.map_congr_left fun v _ => by simp only [dnP]; rw [if_neg (fun h => h.2 hu)]
theorem upsL_nil (rank : List Int) (ways : List Wy) : upsL rank ways 0 = List.replicate rank.length [] := by
  apply List.ext_getElem <;> simp [upsL, upP]
theorem dnsL_nil (rank : List Int) (ways : List Wy) : dnsL rank ways 0 = List.replicate rank.length [] := by
  apply List.ext_getElem <;> simp [dnsL, dnP]
end Go.Sh

/- A hierarchy in memory; New. -/
set_option maxRecDepth 100000
namespace Go.Sh
open Go.RowKit

structure HierM (w : World) (hb : Nat) (sr sy s3 su sd : SV) (r : Nat) (rank : List Int) (ways : List Wy) (g : Nat → Int) (mm : List (List Int × Value)) (us ds : List SV) (i : Nat) : Prop where
  hd : Blk w hb [.slice sr.a sr.len sr.cap, .slice sy.a sy.len sy.cap, .slice s3.a s3.len s3.cap, .map (some r), .slice su.a su.len su.cap, .slice sd.a sd.len sd.cap]
  rk : Own RI w sr rank
  wy : Own RW w sy ways
  at_ : Own RI w s3 (fi rank.length g)
  m : MapIs true 2 w r mm
  up : Rows w su us (upsL rank ways i)
  dn : Rows w sd ds (dnsL rank ways i)
def hierF (hb : Nat) (sr sy s3 su sd : SV) (r : Nat) (us ds : List SV) (k : Nat) : Prop := k = hb ∨ sr.blk k ∨ sy.blk k ∨ s3.blk k ∨ k = r ∨ rowsF su us k ∨ rowsF sd ds k

theorem HierM.chg {w w' : World} {hb : Nat} {sr sy s3 su sd : SV} {r : Nat} {rank : List Int} {ways : List Wy} {g : Nat → Int} {mm : List (List Int × Value)} {us ds : List SV} {i : Nat} {G : Nat → Prop} (h : HierM w hb sr sy s3 su sd r rank ways g mm us ds i) (c : Chg G w w') (hd : ∀ k, hierF hb sr sy s3 su sd r us ds k → ¬ G k) : HierM w' hb sr sy s3 su sd r rank ways g mm us ds i :=
  ⟨c.blk h.hd (hd _ (.inl rfl)), h.rk.chg c fun k hk => hd k (.inr (.inl hk)), h.wy.chg c fun k hk => hd k (.inr (.inr (.inl hk))), h.at_.chg c fun k hk => hd k (.inr (.inr (.inr (.inl hk)))),
    h.m.same (c.block r h.m.lt (hd _ (.inr (.inr (.inr (.inr (.inl rfl))))))), h.up.chg c fun k hk => hd k (.inr (.inr (.inr (.inr (.inr (.inl hk)))))), h.dn.chg c fun k hk => hd k (.inr (.inr (.inr (.inr (.inr (.inr hk))))))⟩
theorem HierM.lt {w : World} {hb : Nat} {sr sy s3 su sd : SV} {r : Nat} {rank : List Int} {ways : List Wy} {g : Nat → Int} {mm : List (List Int × Value)} {us ds : List SV} {i : Nat} (h : HierM w hb sr sy s3 su sd r rank ways g mm us ds i) {k : Nat} (hk : hierF hb sr sy s3 su sd r us ds k) : k < w.heap.size := by
  rcases hk with rfl | hk | hk | hk | rfl | hk | hk
  · exact blk_lt h.hd
  · exact h.rk.lt hk
  · exact h.wy.lt hk
  · exact h.at_.lt hk
  · exact h.m.lt
  · exact h.up.lt hk
  · exact h.dn.lt hk

/-- A hierarchy; F: its blocks. -/
def HierA (w : World) (p : Option Addr) (rank : List Int) (ways : List Wy) (F : Nat → Prop) : Prop :=
  OkH rank ways ∧ ∃ hb sr sy s3 su sd r g mm us ds, p = some ⟨hb, 0, none⟩ ∧ Placed rank g ∧ MapOk mm ways ∧ HierM w hb sr sy s3 su sd r rank ways g mm us ds ways.length ∧ F = hierF hb sr sy s3 su sd r us ds
section
variable {w w' : World} {p : Option Addr} {rank : List Int} {ways : List Wy} {F : Nat → Prop}
theorem HierA.ok (h : HierA w p rank ways F) : OkH rank ways := h.1
theorem HierA.chg {G : Nat → Prop} (h : HierA w p rank ways F) (c : Chg G w w') (hd : ∀ k, F k → ¬ G k) : HierA w' p rank ways F := by
  obtain ⟨ok, hb, sr, sy, s3, su, sd, r, g, mm, us, ds, hp, hpl, hmo, hM, rfl⟩ := h
  exact ⟨ok, hb, sr, sy, s3, su, sd, r, g, mm, us, ds, hp, hpl, hmo, hM.chg c hd, rfl⟩
theorem HierA.ext (h : HierA w p rank ways F) (e : Ext w w') : HierA w' p rank ways F := h.chg (G := fun _ => False) (.of_ext e) fun _ _ h => h
theorem HierA.lt (h : HierA w p rank ways F) {k : Nat} (hk : F k) : k < w.heap.size := by
  obtain ⟨ok, hb, sr, sy, s3, su, sd, r, g, mm, us, ds, hp, hpl, hmo, hM, rfl⟩ := h
  exact hM.lt hk
end

theorem HNew_ok {w : World} {sr0 sy0 : SV} {rank : List Int} {ways : List Wy} {K : Option Addr → World → Prop} (hr : View RI w sr0 rank) (hy : View RW w sy0 ways) (hn : rank.length < 2 ^ 40) (hm : ways.length < 2 ^ 40)
    (hk : OkH rank ways → ∀ p w' F, Ext w w' → HierA w' p rank ways F → (∀ k, F k → w.heap.size ≤ k) → K p w') (hno : ¬ OkH rank ways → ∀ w', Ext w w' → K none w') : sh_hier_New sr0 sy0 K w := by
  unfold sh_hier_New
  intro b1 w2 e2 g1 g1'
  have z2 := e2.size
  have lr0 := hr.len; have ly0 := hy.len
  refine Own.app (R := RI) Own.nil (hr.ext e2) (by simp only [List.length_nil]; omega) (by simp only [List.length_nil]; omega) fun sr w4 c4 hsr hR => ?_
  rw [List.nil_append] at hR
  have e4 : Ext w2 w4 := c4.ext fun k _ ⟨q, hq, _⟩ => by cases hq
  have fr : Fsh w2 sr := fun k hk => by
    rcases hsr k hk with ⟨q, hq, _⟩ | h'
    · cases hq
    · exact h'
  have z4 := e4.size
  refine ⟨kp_ext e4 (by (intro b hb; simp only [List.mem_cons, List.not_mem_nil, or_false] at hb; omega)), fun w5 o5 => ?_⟩
  have z5 := o5.size
  have e5 : Ext w w5 := ext_off (e2.trans e4) o5 g1
  have nr1 : ¬ sr.blk b1 := fun hk => by have := fr _ hk; omega
  have hR5 := hR.off o5 nr1
  refine Own.app (R := RW) Own.nil (hy.ext e5) (by simp only [List.length_nil]; omega) (by simp only [List.length_nil]; omega) fun sy w7 c7 hsy hY => ?_
  rw [List.nil_append] at hY
  have e7 : Ext w5 w7 := c7.ext fun k _ ⟨q, hq, _⟩ => by cases hq
  have fy : Fsh w5 sy := fun k hk => by
    rcases hsy k hk with ⟨q, hq, _⟩ | h'
    · cases hq
    · exact h'
  have z7 := e7.size
  refine ⟨kp_ext e7 (by (intro b hb; simp only [List.mem_cons, List.not_mem_nil, or_false] at hb; omega)), fun w8 o8 => ?_⟩
  have z8 := o8.size
  have e8 : Ext w w8 := ext_off (e5.trans e7) o8 g1
  have ny1 : ¬ sy.blk b1 := fun hk => by have := fy _ hk; omega
  have hR8 := (hR5.ext e7).off o8 nr1
  have hY8 := hY.off o8 ny1
  refine check_ok hR8.view hY8.view (fun ok hb s3 r g mm w11 e11 C => ⟨kp_ext e11 (by (intro b hb; simp only [List.mem_cons, List.not_mem_nil, or_false] at hb; omega)), ?_⟩) (fun no c w11 e11 hc _ _ => ⟨kp_ext e11 (by (intro b hb; simp only [List.mem_cons, List.not_mem_nil, or_false] at hb; omega)), ?_⟩)
  rotate_left
  · rw [show (c != 0) = true by simpa using hc, cond_true]; exact hno no w11 (e8.trans e11)
  rw [bne_self_eq_false, cond_false]
  have hk := hk ok
  intro w12 e12
  have z11 := e11.size; have z12 := e12.size
  have hbl : hb < w11.heap.size := blk_lt C.hd
  have rl := C.m.lt
  have br : ∀ k, sr.blk k → k < w8.heap.size := fun k hk => hR8.lt hk
  have by_ : ∀ k, sy.blk k → k < w8.heap.size := fun k hk => hY8.lt hk
  have b3 : ∀ k, s3.blk k → k < w11.heap.size := fun k hk => C.at_.lt hk
  have lsr := hR8.view.len
  have lsy := hY8.view.len
  have hokn := ok.n; have hokk := ok.k
  refine own_mk (R := RS) (bytes := 24) (by omega) (by omega) (by omega) fun su w14 e14 gu hU => ?_
  simp only [Int.toNat_natCast] at hU
  rw [lsr] at hU
  have z14 := e14.size
  refine ⟨_, rfl, fun w16 e16 => ?_⟩
  have z16 := e16.size
  have e1116 := (e12.trans e14).trans e16
  rw [addm]
  refine stL_blk (b := hb) (o := 0 + 4) [.slice su.a su.len su.cap] 0 w16 _ _ (e1116.blkE C.hd) (by simp) fun w17 o17 hB17 => ?_
  have z17 := o17.size
  refine ⟨⟨by omega, fun b hz => o17.block b (fun e => ?_)⟩, fun c hc => by simp only [List.mem_cons, List.not_mem_nil, or_false] at hc; subst hc; exact o17.block _ (by have := C.ghb; omega), ?_⟩
  · rcases hz with (h | h) | h
    · exact h
    · omega
    · omega
  refine ⟨by omega, Int.le_refl _, by omega, by omega, fun b18 w19 e19 hz18 hB18 => ?_⟩
  have z19 := e19.size
  have hl18 : b18 < w19.heap.size := blk_lt hB18
  have bu : ∀ k, su.blk k → k < w14.heap.size := fun k hk => hU.lt hk
  have g18 : w11.heap.size ≤ b18 ∧ ¬ su.blk b18 := by
    rcases hz18 with ((h | h) | h) | h
    · exact h.elim
    · exact ⟨h.1, fun hk => by have := gu _ hk; omega⟩
    · exact ⟨by omega, fun hk => by have := bu _ hk; omega⟩
    · exact ⟨by omega, fun hk => by have := bu _ hk; omega⟩
  have hD : Own RS w19 ⟨some ⟨b18, 0, none⟩, sr.len, sr.len⟩ (List.replicate rank.length ⟨none, 0, 0⟩) := by
    refine ⟨[], by simp [lsr], by simp [lsr], .inr ⟨b18, rfl, ?_⟩⟩
    rw [List.append_nil, show (⟨none, 0, 0⟩ : SV) = RS.z from rfl, ← RS.zeros]
    have hB := hB18
    simp only [Int.toNat_natCast] at hB
    rw [lsr] at hB
    exact hB
  have f18 : ∀ k, (⟨some ⟨b18, 0, none⟩, sr.len, sr.len⟩ : SV).blk k → k = b18 := fun k ⟨p, hp, hq⟩ => by cases hp; exact hq.symm
  refine ⟨_, rfl, fun w21 e21 => ?_⟩
  have z21 := e21.size
  simp only [Int.toNat_natCast]
  generalize hsd : (⟨some ⟨b18, 0, none⟩, sr.len, sr.len⟩ : SV) = sd at hD f18
  have hsda : (some ⟨b18, 0, none⟩ : Option Addr) = sd.a ∧ sr.len = sd.len ∧ sr.len = sd.cap := by subst hsd; exact ⟨rfl, rfl, rfl⟩
  rw [addm]
  have hst : ([.slice (some ⟨b18, 0, none⟩) sr.len sr.len] : List Value) = [.slice sd.a sd.len sd.cap] := by rw [← hsda.1, ← hsda.2.1, ← hsda.2.2]
  rw [hst]
  refine stL_blk (b := hb) (o := 0 + 5) [.slice sd.a sd.len sd.cap] 0 w21 _ _ ((e19.trans e21).blkE hB17) (by simp [setL]) fun w22 o22 hB22 => ?_
  have z22 := o22.size
  refine ⟨fun c hc => by simp only [List.mem_cons, List.not_mem_nil, or_false] at hc; subst hc; exact o22.block _ (by have := C.ghb; omega), ?_⟩
  intro w23 e23
  have z23 := e23.size
  -- the start
  have cA : Chg (fun k => k = hb) w11 w23 := ((((Chg.of_ext (F := fun k => k = hb) e1116).trans (.of_off (F := fun k => k = hb) o17 rfl) fun _ _ h => h).trans (.of_ext (F := fun _ => False) (e19.trans e21)) fun _ _ h => h.elim).trans (.of_off (F := fun k => k = hb) o22 rfl) fun _ _ h => h).trans (.of_ext (F := fun _ => False) e23) fun _ _ h => h.elim
  have nhb : ∀ k, sr.blk k ∨ sy.blk k ∨ s3.blk k → k ≠ hb := fun k hk e => by
    have := C.ghb
    rcases hk with h | h | h
    · have := br k h; omega
    · have := by_ k h; omega
    · exact C.d3 (e ▸ h)
  have nu : ¬ su.blk hb := fun hk => by have := gu _ hk; omega
  have nd : ¬ sd.blk hb := fun hk => by have := f18 _ hk; omega
  have M0 : HierM w23 hb sr sy s3 su sd r rank ways g mm (List.replicate rank.length ⟨none, 0, 0⟩) (List.replicate rank.length ⟨none, 0, 0⟩) 0 := by
    refine ⟨by have := e23.blkE hB22; simpa [setL] using this, (hR8.ext e11).chg cA fun k hk => nhb k (.inl hk), (hY8.ext e11).chg cA fun k hk => nhb k (.inr (.inl hk)), C.at_.chg cA fun k hk => nhb k (.inr (.inr hk)), C.m.same (cA.block r rl C.dr), ?_, ?_⟩
    · rw [upsL_nil]; exact .nil ((((hU.ext e16).off o17 nu).ext (e19.trans e21)).off o22 nu |>.ext e23)
    · rw [dnsL_nil]; exact .nil (((hD.ext e21).off o22 nd).ext e23)
  have e23' : Ext w w23 := ext_chg (e8.trans e11) cA fun k hk => by have := C.ghb; have := e8.size; omega
  have ly : (sy.len : Int) = ways.length := by omega
  have base : w.heap.size ≤ w11.heap.size := by have := e8.size; omega
  refine LoopT.gh (γ := Nat × List SV × List SV) (fun gh (st : Int × Unit) w' => st.1 = gh.1 ∧ gh.1 ≤ ways.length ∧ Ext w w' ∧ w23.heap.size ≤ w'.heap.size ∧ HierM w' hb sr sy s3 su sd r rank ways g mm gh.2.1 gh.2.2 gh.1 ∧ (∀ k, rowsF su gh.2.1 k → w11.heap.size ≤ k) ∧ (∀ k, rowsF sd gh.2.2 k → w11.heap.size ≤ k) ∧ (∀ k, rowsF su gh.2.1 k → ¬ rowsF sd gh.2.2 k)) (fun gh => ways.length - gh.1) (0, List.replicate rank.length ⟨none, 0, 0⟩, List.replicate rank.length ⟨none, 0, 0⟩)
    ⟨rfl, Nat.zero_le _, e23', Nat.le_refl _, M0, fun k hk => by rw [rowsF_nil] at hk; have := gu k hk; omega, fun k hk => by rw [rowsF_nil] at hk; rw [f18 k hk]; exact g18.1, fun k h1 h2 => by rw [rowsF_nil] at h1 h2; rw [f18 k h2] at h1; exact g18.2 h1⟩ ?_
  rintro ⟨i, us, ds⟩ ⟨x, _⟩ w26 ⟨hx, hi, e26, z26, M, fu, fd, dud⟩ J1 hJ1
  simp only at hx hi M fu fd dud; subst hx
  dsimp only
  rw [Bool.cond_decide]
  by_cases hc : (i : Int) < (sy.len : Int)
  · rw [if_pos hc]
    have hi' : i < ways.length := by omega
    refine way_idx M.wy.view hi' fun a _ a0 a1 a2 a3 a4 => ⟨_, a0, _, a1, _, a2, _, a3, _, a4, ?_⟩
    rw [wyA_get hi']
    have oky := ok.f i hi'
    rw [wyA_get hi'] at oky
    generalize hyy : wyA ways i = y at oky ⊢
    obtain ⟨_, hne, f0, t0, f1, t1, _, _⟩ := oky
    obtain ⟨f, hf⟩ := Int.eq_ofNat_of_zero_le f0
    obtain ⟨t, ht⟩ := Int.eq_ofNat_of_zero_le t0
    rw [hf, ht]
    intro b33 w34 e34 g33 g33' w35 o35
    have z34 := e34.size; have z35 := o35.size
    have nF : ¬ hierF hb sr sy s3 su sd r us ds b33 := fun hk => by have := M.lt hk; omega
    have M35 := (M.chg (G := fun _ => False) (.of_ext e34) fun _ _ h => h).chg (G := fun k => k = b33) (.of_off o35 rfl) fun k hk e => nF (e ▸ hk)
    have e35 : Ext w w35 := ext_off (e26.trans e34) o35 (by have := e26.size; omega)
    refine int_idx M35.rk.view (by omega) fun _ q => ⟨_, q, ?_⟩
    refine int_idx M35.rk.view (by omega) fun _ q => ⟨_, q, ?_⟩
    rw [rk_get (show f < rank.length by omega), rk_get (show t < rank.length by omega), ← hf, ← ht]
    intro w40 e40
    have z40 := e40.size
    have M40 := M35.chg (G := fun _ => False) (.of_ext e40) fun _ _ h => h
    have e40' := e35.trans e40
    have lus : us.length = rank.length := by rw [M40.up.len, upsL_len]
    have lds : ds.length = rank.length := by rw [M40.dn.len, dnsL_len]
    have nrow : ∀ k, w11.heap.size ≤ k → k = hb ∨ sr.blk k ∨ sy.blk k ∨ s3.blk k ∨ k = r → False := fun k hk h => by
      rcases h with h | h | h | h | h
      · omega
      · have := br k h; omega
      · have := by_ k h; omega
      · have := b3 k h; omega
      · omega
    have bx : ∀ c, c ∈ [b33, b1] → c < w40.heap.size ∧ (¬ rowsF su us c ∧ ¬ rowsF sd ds c) := fun c hc => by
      simp only [List.mem_cons, List.not_mem_nil, or_false] at hc
      rcases hc with rfl | rfl
      · exact ⟨by omega, fun h => nF (.inr (.inr (.inr (.inr (.inr (.inl h)))))), fun h => nF (.inr (.inr (.inr (.inr (.inr (.inr h))))))⟩
      · exact ⟨by omega, fun h => by have := fu _ h; omega, fun h => by have := fd _ h; omega⟩
    rw [Bool.cond_decide]
    by_cases hup : rkA rank (yF y) < rkA rank (yT y)
    · rw [if_pos hup]
      refine ⟨_, rfl, su, by rw [addm, cell_blk M40.hd]; rfl, _, rfl, su, by rw [addm, cell_blk M40.hd]; rfl, ?_⟩
      rw [hf]
      have hv : f < us.length := by omega
      refine slot_idx M40.up.so.view hv fun q hq => ⟨_, hq, fun w49 e49 => ?_⟩
      have z49 := e49.size
      have M49 := M40.chg (G := fun _ => False) (.of_ext e49) fun _ _ h => h
      have hrow := M49.up.row f hv (by rw [upsL_len]; omega)
      rw [upsL_get] at hrow
      have hpl := upP_len rank ways (f : Int) i
      refine put_ok hrow (upP_rise ok.f _ (by omega)) (by omega) fun s48 w50 c50 hs48 hO50 => ⟨kp_chg c50 fun c hc => ⟨by have := (bx c hc).1; omega, fun hk => (bx c hc).2.1 (.inr ⟨f, hv, hk⟩)⟩, ?_⟩
      have z50 := c50.size
      have gF : ∀ k, us[f].blk k → w11.heap.size ≤ k := fun k hk => fu k (.inr ⟨f, hv, hk⟩)
      have hd50 := c50.blk M49.hd fun hk => by have := gF _ hk; omega
      refine ⟨⟨su, by rw [addm, cell_blk hd50]; rfl, rfl⟩, ?_⟩
      -- the store at the end
      have hst := fun w52 (e52 : Ext w50 w52) (K' : World → Prop) (hK' : ∀ w53, Chg su.blk w52 w53 → Rows w53 su (us.set f s48) ((upsL rank ways i).set f (insE (yT y, yW y, (i : Int)) (upP rank ways (f : Int) i))) → (∀ k, rowsF su (us.set f s48) k → rowsF su us k ∨ w49.heap.size ≤ k) → K' w53) =>
        Rows.store M49.up hv c50 hs48 (w2 := w52) hO50 e52 (K := K') hK'
      have hgoal : ∀ w52, Ext w50 w52 → Idx su.a su.len (f : Int) 1 (fun a51 => stL w52 a51 [.slice s48.a s48.len s48.cap] 0 (fun w53 => Keeps [b33, b1] w52 w53 ∧ ∀ w54, Ext w53 w54 → J1 (IntKind.i64.wrap ((i : Int) + 1), ()) w54)) := fun w52 e52 => by
        have z52 := e52.size
        refine hst w52 e52 _ fun w53 c53 R53 hF53 => ⟨kp_chg c53 fun c hc => ⟨by have := (bx c hc).1; omega, fun hk => (bx c hc).2.1 (.inl hk)⟩, fun w54 e54 => ?_⟩
        have z53 := c53.size; have z54 := e54.size
        have cc : Chg (fun k => rowsF su us k) w49 w54 := ((((c50.mono (G := fun k => rowsF su us k) fun k _ hk => .inr ⟨f, hv, hk⟩).trans (.of_ext (F := fun _ => False) e52) fun _ _ h => h.elim).trans c53 fun k _ hk => .inl hk).trans (.of_ext (F := fun _ => False) e54) fun _ _ h => h.elim)
        have nn : ∀ k, k = hb ∨ sr.blk k ∨ sy.blk k ∨ s3.blk k ∨ k = r → ¬ rowsF su us k := fun k hk hr => nrow k (fu k hr) hk
        have R54 := R53.ext e54
        rw [← hyy] at R54
        rw [upsL_step (by rw [hyy]; exact hf) (by unfold IsUp; rw [hyy]; exact hup)] at R54
        have hdn : dnsL rank ways (i + 1) = dnsL rank ways i := dnsL_same (by unfold IsUp; rw [hyy]; exact hup)
        refine hJ1 (i + 1, us.set f s48, ds) _ _ ⟨wsucc (m := 2 ^ 40) (by omega) (by omega), by simp only; omega, ext_chg (e40'.trans e49) cc fun k hk => by have := fu k hk; omega, by omega, ?_, ?_, fd, ?_⟩ (by simp only; omega)
        · simp only
          refine ⟨cc.blk M49.hd (nn _ (.inl rfl)), M49.rk.chg cc fun k hk => nn k (.inr (.inl hk)), M49.wy.chg cc fun k hk => nn k (.inr (.inr (.inl hk))), M49.at_.chg cc fun k hk => nn k (.inr (.inr (.inr (.inl hk)))), M49.m.same (cc.block r M49.m.lt (nn _ (.inr (.inr (.inr (.inr rfl)))))), R54, ?_⟩
          rw [hdn]; exact M49.dn.chg cc fun k h1 h2 => dud k h2 h1
        · intro k hk
          rcases hF53 k hk with h' | h'
          · exact fu k h'
          · omega
        · intro k hk h2
          rcases hF53 k hk with h' | h'
          · exact dud k h' h2
          · have := M49.dn.lt h2; omega
      -- Idx's address is the same whatever the world
      obtain ⟨q1, hq1, h01, h02, hA⟩ := hgoal w50 (.refl _)
      refine ⟨q1, hq1, h01, h02, fun w52 e52 => ?_⟩
      obtain ⟨q2, hq2, _, _, hA2⟩ := hgoal w52 e52
      rw [hq1] at hq2; cases hq2
      exact hA2
    · rw [if_neg hup]
      refine ⟨_, rfl, sd, by rw [addm, cell_blk M40.hd]; rfl, _, rfl, sd, by rw [addm, cell_blk M40.hd]; rfl, ?_⟩
      rw [ht]
      have hv : t < ds.length := by omega
      refine slot_idx M40.dn.so.view hv fun q hq => ⟨_, hq, fun w49 e49 => ?_⟩
      have z49 := e49.size
      have M49 := M40.chg (G := fun _ => False) (.of_ext e49) fun _ _ h => h
      have hrow := M49.dn.row t hv (by rw [dnsL_len]; omega)
      rw [dnsL_get] at hrow
      have hpl := dnP_len rank ways (t : Int) i
      refine put_ok hrow (dnP_rise ok.f _ (by omega)) (by omega) fun s48 w50 c50 hs48 hO50 => ⟨kp_chg c50 fun c hc => ⟨by have := (bx c hc).1; omega, fun hk => (bx c hc).2.2 (.inr ⟨t, hv, hk⟩)⟩, ?_⟩
      have z50 := c50.size
      have gF : ∀ k, ds[t].blk k → w11.heap.size ≤ k := fun k hk => fd k (.inr ⟨t, hv, hk⟩)
      have hd50 := c50.blk M49.hd fun hk => by have := gF _ hk; omega
      refine ⟨⟨sd, by rw [addm, cell_blk hd50]; rfl, rfl⟩, ?_⟩
      have hst := fun w52 (e52 : Ext w50 w52) (K' : World → Prop) (hK' : ∀ w53, Chg sd.blk w52 w53 → Rows w53 sd (ds.set t s48) ((dnsL rank ways i).set t (insE (yF y, yW y, (i : Int)) (dnP rank ways (t : Int) i))) → (∀ k, rowsF sd (ds.set t s48) k → rowsF sd ds k ∨ w49.heap.size ≤ k) → K' w53) =>
        Rows.store M49.dn hv c50 hs48 (w2 := w52) hO50 e52 (K := K') hK'
      have hgoal : ∀ w52, Ext w50 w52 → Idx sd.a sd.len (t : Int) 1 (fun a51 => stL w52 a51 [.slice s48.a s48.len s48.cap] 0 (fun w53 => Keeps [b33, b1] w52 w53 ∧ ∀ w54, Ext w53 w54 → J1 (IntKind.i64.wrap ((i : Int) + 1), ()) w54)) := fun w52 e52 => by
        have z52 := e52.size
        refine hst w52 e52 _ fun w53 c53 R53 hF53 => ⟨kp_chg c53 fun c hc => ⟨by have := (bx c hc).1; omega, fun hk => (bx c hc).2.2 (.inl hk)⟩, fun w54 e54 => ?_⟩
        have z53 := c53.size; have z54 := e54.size
        have cc : Chg (fun k => rowsF sd ds k) w49 w54 := ((((c50.mono (G := fun k => rowsF sd ds k) fun k _ hk => .inr ⟨t, hv, hk⟩).trans (.of_ext (F := fun _ => False) e52) fun _ _ h => h.elim).trans c53 fun k _ hk => .inl hk).trans (.of_ext (F := fun _ => False) e54) fun _ _ h => h.elim)
        have nn : ∀ k, k = hb ∨ sr.blk k ∨ sy.blk k ∨ s3.blk k ∨ k = r → ¬ rowsF sd ds k := fun k hk hr => nrow k (fd k hr) hk
        have R54 := R53.ext e54
        rw [← hyy] at R54
        rw [dnsL_step (by rw [hyy]; exact ht) (by unfold IsUp; rw [hyy]; exact hup)] at R54
        have hdn : upsL rank ways (i + 1) = upsL rank ways i := upsL_same (by unfold IsUp; rw [hyy]; exact hup)
        refine hJ1 (i + 1, us, ds.set t s48) _ _ ⟨wsucc (m := 2 ^ 40) (by omega) (by omega), by simp only; omega, ext_chg (e40'.trans e49) cc fun k hk => by have := fd k hk; omega, by omega, ?_, fu, ?_, ?_⟩ (by simp only; omega)
        · simp only
          refine ⟨cc.blk M49.hd (nn _ (.inl rfl)), M49.rk.chg cc fun k hk => nn k (.inr (.inl hk)), M49.wy.chg cc fun k hk => nn k (.inr (.inr (.inl hk))), M49.at_.chg cc fun k hk => nn k (.inr (.inr (.inr (.inl hk)))), M49.m.same (cc.block r M49.m.lt (nn _ (.inr (.inr (.inr (.inr rfl)))))), ?_, R54⟩
          rw [hdn]; exact M49.up.chg cc fun k h1 h2 => dud k h1 h2
        · intro k hk
          rcases hF53 k hk with h' | h'
          · exact fd k h'
          · omega
        · intro k hk h2
          rcases hF53 k h2 with h' | h'
          · exact dud k hk h'
          · have := M49.up.lt hk; omega
      obtain ⟨q1, hq1, h01, h02, hA⟩ := hgoal w50 (.refl _)
      refine ⟨q1, hq1, h01, h02, fun w52 e52 => ?_⟩
      obtain ⟨q2, hq2, _, _, hA2⟩ := hgoal w52 e52
      rw [hq1] at hq2; cases hq2
      exact hA2
  · rw [if_neg hc]
    have : i = ways.length := by omega
    subst this
    refine hk _ w26 _ e26 ⟨ok, hb, sr, sy, s3, su, sd, r, g, mm, us, ds, rfl, C.pl, C.mo, M, rfl⟩ fun k hk => ?_
    rcases hk with rfl | hk | hk | hk | rfl | hk | hk
    · have := C.ghb; have := e8.size; omega
    · have := fr k hk; omega
    · have := fy k hk; have := e5.size; omega
    · have := C.gs k hk; have := e8.size; omega
    · have := C.gr; have := e8.size; omega
    · have := fu k hk; omega
    · have := fd k hk; omega
end Go.Sh

/- The hierarchy's methods. -/
set_option maxRecDepth 100000
namespace Go.Sh
open Go.RowKit

section
variable {w w' : World} {p : Option Addr} {rank : List Int} {ways : List Wy} {F : Nat → Prop}

theorem HN_ok {K : Int → World → Prop} (h : HierA w p rank ways F) (hk : K (rank.length : Int) w) : sh_hier_Hier_N p K w := by
  obtain ⟨ok, hb, sr, sy, s3, su, sd, r, g, mm, us, ds, rfl, hpl, hmo, hM, rfl⟩ := h
  unfold sh_hier_Hier_N
  simp only [Option.isNone_some, cond_false]
  refine ⟨_, rfl, s3, by rw [addm, cell_blk hM.hd]; rfl, ?_⟩
  rw [hM.at_.view.len, fi_len]; exact hk
/-- A place's rank; below 0: there is none. -/
def rankF (rank : List Int) (v : Int) : Int := if 0 ≤ v ∧ v < rank.length then rkA rank v else -1
theorem Rank_ok {v : Int} {K : Int → World → Prop} (h : HierA w p rank ways F) (hk : K (rankF rank v) w) : sh_hier_Hier_Rank p v K w := by
  unfold sh_hier_Hier_Rank
  unfold rankF at hk
  rw [Bool.cond_decide]
  split
  · rw [if_neg (by omega)] at hk; exact hk
  · refine HN_ok h ?_
    rw [Bool.cond_decide]
    split
    · rw [if_neg (by omega)] at hk; exact hk
    · rw [if_pos (by omega)] at hk
      obtain ⟨ok, hb, sr, sy, s3, su, sd, r, g, mm, us, ds, rfl, hpl, hmo, hM, rfl⟩ := h
      obtain ⟨u, rfl⟩ := Int.eq_ofNat_of_zero_le (show 0 ≤ v by omega)
      refine ⟨_, rfl, sr, by rw [addm, addm, cell_blk hM.hd]; rfl, ?_⟩
      refine int_idx hM.rk.view (by omega) fun _ q => ⟨_, q, ?_⟩
      rw [rk_get]; exact hk
theorem rankF_neg (ok : OkH rank ways) {v : Int} : rankF rank v < 0 ↔ ¬ (0 ≤ v ∧ v < rank.length) := by
  unfold rankF
  split
  · rename_i h
    obtain ⟨u, rfl⟩ := Int.eq_ofNat_of_zero_le h.1
    have hu : u < rank.length := by omega
    have := (ok.r.1 _ (List.getElem_mem hu)).1
    rw [rk_get hu] at this
    constructor
    · intro h'; omega
    · intro h'; exact absurd h h'
  · rename_i h; exact ⟨fun _ => h, fun _ => by omega⟩

/-- The ways up from a place, and down to it. -/
def upF (rank : List Int) (ways : List Wy) (v : Int) : List Edg := if 0 ≤ v ∧ v < rank.length then upP rank ways v ways.length else []
def dnF (rank : List Int) (ways : List Wy) (v : Int) : List Edg := if 0 ≤ v ∧ v < rank.length then dnP rank ways v ways.length else []

theorem Up_ok {v : Int} {K : SV → World → Prop} (h : HierA w p rank ways F) (hk : ∀ s w', Ext w w' → Own RD w' s (upF rank ways v) → Fsh w s → K s w') : sh_hier_Hier_Up p v K w := by
  unfold sh_hier_Hier_Up
  refine Rank_ok h ?_
  rw [Bool.cond_decide]
  split
  · rename_i hn
    rw [rankF_neg h.ok] at hn
    refine hk _ w (.refl _) ?_ fsh_nil
    unfold upF; rw [if_neg hn]; exact Own.nil
  · rename_i hn
    rw [rankF_neg h.ok, Classical.not_not] at hn
    obtain ⟨ok, hb, sr, sy, s3, su, sd, r, g, mm, us, ds, rfl, hpl, hmo, hM, rfl⟩ := h
    obtain ⟨u, rfl⟩ := Int.eq_ofNat_of_zero_le hn.1
    have hlen := hM.up.len
    rw [upsL_len] at hlen
    refine ⟨_, rfl, su, by rw [addm, cell_blk hM.hd]; rfl, ?_⟩
    refine slot_idx hM.up.so.view (by omega) fun _ q => ⟨_, q, ?_⟩
    have hrow := hM.up.row u (by omega) (by rw [upsL_len]; omega)
    rw [upsL_get] at hrow
    have hl := upP_len rank ways (u : Int) ways.length
    have hk' := ok.k
    refine Own.app (R := RD) Own.nil hrow.view (by simp only [List.length_nil]; omega) (by simp only [List.length_nil]; omega) fun s7 w8 c8 hs hO => ?_
    rw [List.nil_append] at hO
    refine hk s7 w8 (c8.ext fun k _ ⟨q, hq, _⟩ => by cases hq) ?_ fun k hk => ?_
    · unfold upF; rw [if_pos hn]; exact hO
    · rcases hs k hk with ⟨q, hq, _⟩ | h'
      · cases hq
      · exact h'
theorem Down_ok {v : Int} {K : SV → World → Prop} (h : HierA w p rank ways F) (hk : ∀ s w', Ext w w' → Own RD w' s (dnF rank ways v) → Fsh w s → K s w') : sh_hier_Hier_Down p v K w := by
  unfold sh_hier_Hier_Down
  refine Rank_ok h ?_
  rw [Bool.cond_decide]
  split
  · rename_i hn
    rw [rankF_neg h.ok] at hn
    refine hk _ w (.refl _) ?_ fsh_nil
    unfold dnF; rw [if_neg hn]; exact Own.nil
  · rename_i hn
    rw [rankF_neg h.ok, Classical.not_not] at hn
    obtain ⟨ok, hb, sr, sy, s3, su, sd, r, g, mm, us, ds, rfl, hpl, hmo, hM, rfl⟩ := h
    obtain ⟨u, rfl⟩ := Int.eq_ofNat_of_zero_le hn.1
    have hlen := hM.dn.len
    rw [dnsL_len] at hlen
    refine ⟨_, rfl, sd, by rw [addm, cell_blk hM.hd]; rfl, ?_⟩
    refine slot_idx hM.dn.so.view (by omega) fun _ q => ⟨_, q, ?_⟩
    have hrow := hM.dn.row u (by omega) (by rw [dnsL_len]; omega)
    rw [dnsL_get] at hrow
    have hl := dnP_len rank ways (u : Int) ways.length
    have hk' := ok.k
    refine Own.app (R := RD) Own.nil hrow.view (by simp only [List.length_nil]; omega) (by simp only [List.length_nil]; omega) fun s7 w8 c8 hs hO => ?_
    rw [List.nil_append] at hO
    refine hk s7 w8 (c8.ext fun k _ ⟨q, hq, _⟩ => by cases hq) ?_ fun k hk => ?_
    · unfold dnF; rw [if_pos hn]; exact hO
    · rcases hs k hk with ⟨q, hq, _⟩ | h'
      · cases hq
      · exact h'
theorem nodup_sub_len : ∀ (l l' : List Int), l.Nodup → (∀ x ∈ l, x ∈ l') → l.length ≤ l'.length
  | [], _, _, _ => Nat.zero_le _
  | x :: l, l', hn, hs => by
    have hx := hs x List.mem_cons_self
    have hn' := List.nodup_cons.1 hn
    have ih := nodup_sub_len l (l'.erase x) hn'.2 fun y hy => (List.mem_erase_of_ne (show y ≠ x from fun e => hn'.1 (e ▸ hy))).2 (hs y (List.mem_cons_of_mem _ hy))
    rw [List.length_erase_of_mem hx] at ih
    have : 0 < l'.length := List.length_pos_of_mem hx
    simp only [List.length_cons]; omega

/-- Each rank has its place. -/
theorem okR_onto (h : OkR rank) {r : Nat} (hr : r < rank.length) : ∃ v : Nat, ∃ hv : v < rank.length, rank[v] = (r : Int) := by
  have hin : ∀ x ∈ rank, x ∈ (List.range rank.length).map (fun (n : Nat) => (n : Int)) := fun x hx => by
    have := h.1 x hx
    obtain ⟨n, rfl⟩ := Int.eq_ofNat_of_zero_le this.1
    exact List.mem_map.2 ⟨n, List.mem_range.2 (by omega), rfl⟩
  have hrm : (r : Int) ∈ (List.range rank.length).map (fun (n : Nat) => (n : Int)) := List.mem_map.2 ⟨r, List.mem_range.2 hr, rfl⟩
  have this : (r : Int) ∈ rank := Classical.byContradiction fun hno => by
    have h1 := nodup_sub_len rank (((List.range rank.length).map (fun (n : Nat) => (n : Int))).erase (r : Int)) h.2 fun x hx => (List.mem_erase_of_ne (show x ≠ (r : Int) from fun e => hno (e ▸ hx))).2 (hin x hx)
    rw [List.length_erase_of_mem hrm] at h1
    simp at h1; omega
  obtain ⟨v, hv, he⟩ := List.getElem_of_mem this
  exact ⟨v, hv, he⟩

end

/-- What Check tells. -/
noncomputable def chkF (rank : List Int) (ways : List Wy) : Int := by
  classical exact if ¬ OkL rank ways then 3 else if OkH rank ways then 0 else 2
theorem OkH.l {rank : List Int} {ways : List Wy} (h : OkH rank ways) : OkL rank ways := ⟨h.n, h.k⟩
theorem chkF_ok {rank : List Int} {ways : List Wy} (h : OkH rank ways) : chkF rank ways = 0 := by
  unfold chkF; rw [if_neg (fun hn => hn h.l), if_pos h]
theorem chkF_no {rank : List Int} {ways : List Wy} (h : ¬ OkH rank ways) : chkF rank ways ≠ 0 ∧ (OkL rank ways → chkF rank ways = 2) ∧ (¬ OkL rank ways → chkF rank ways = 3) := by
  unfold chkF
  by_cases hl : OkL rank ways
  · rw [if_neg (fun hn => hn hl), if_neg h]; exact ⟨by decide, fun _ => rfl, fun hn => absurd hl hn⟩
  · rw [if_pos hl]; exact ⟨by decide, fun h => absurd h hl, fun _ => rfl⟩
end Go.Sh

/- The reference of layer 10, and what its laws lean on. -/
set_option maxRecDepth 100000
namespace Go.Sh
open Go.RowKit

theorem onto_okR {rank : List Int} (h : ∀ k : Nat, k < rank.length → (k : Int) ∈ rank) : OkR rank := by
  have hL : ((List.range rank.length).map (fun (n : Nat) => (n : Int))).Nodup := by
    rw [List.nodup_iff_pairwise_ne, List.pairwise_map]
    exact List.pairwise_lt_range.imp fun h e => by omega
  have key : ∀ x, x ∈ rank → (∀ y ∈ (List.range rank.length).map (fun (n : Nat) => (n : Int)), y ∈ rank.erase x) → False := fun x hx hs => by
    have := nodup_sub_len _ _ hL hs
    rw [List.length_erase_of_mem hx] at this
    have hp : 0 < rank.length := List.length_pos_of_mem hx
    simp at this; omega
  constructor
  · intro r hr
    refine Classical.byContradiction fun hn => key r hr fun y hy => ?_
    obtain ⟨n, hn', rfl⟩ := List.mem_map.1 hy
    rw [List.mem_range] at hn'
    exact (List.mem_erase_of_ne (show (n : Int) ≠ r from fun e => hn (by omega))).2 (h n hn')
  · have dup : ∀ (l : List Int), ¬ l.Nodup → ∃ x, x ∈ l ∧ x ∈ l.erase x := by
      intro l
      induction l with
      | nil => intro h; exact absurd List.nodup_nil h
      | cons y l ih =>
        intro hn
        by_cases hy : y ∈ l
        · exact ⟨y, List.mem_cons_self, by simp [hy]⟩
        · obtain ⟨x, hx, hx2⟩ := ih fun hl => hn (List.nodup_cons.2 ⟨hy, hl⟩)
          refine ⟨x, List.mem_cons_of_mem _ hx, ?_⟩
          have hne : ¬ (y == x) = true := fun e => hy (by rw [beq_iff_eq] at e; rw [e]; exact hx)
          rw [List.erase_cons, if_neg hne]
          exact List.mem_cons_of_mem _ hx2
    refine Classical.byContradiction fun hn => ?_
    obtain ⟨x, hx, hx2⟩ := dup rank hn
    refine key x hx fun y hy => ?_
    obtain ⟨n, hn', rfl⟩ := List.mem_map.1 hy
    rw [List.mem_range] at hn'
    by_cases e : (n : Int) = x
    · rw [e]; exact hx2
    · exact (List.mem_erase_of_ne e).2 (h n hn')

section
variable {w : World} {sr sy : SV} {rank : List Int} {ways : List Wy}

theorem rAt_ok {r : Int} {K : Int → World → Prop} (h : View RI w sr rank) (hn : rank.length < 2 ^ 40) (hk : ∀ x w', Ext w w' → (∃ v : Nat, ∃ hv : v < rank.length, rank[v] = r ∧ x = (v : Int)) ∨ (∀ v : Nat, ∀ hv : v < rank.length, rank[v] ≠ r) ∧ x = -1 → K x w') : sh_postroadref10_At sr sy r K w := by
  unfold sh_postroadref10_At
  intro b1 w2 e2 _ _
  have hl := h.len
  refine LoopT.gh (γ := Nat) (fun i (st : Int × Unit) w' => st.1 = i ∧ i ≤ rank.length ∧ Ext w w' ∧ ∀ v : Nat, ∀ hv : v < rank.length, v < i → rank[v] ≠ r) (fun i => rank.length - i) 0 ⟨rfl, Nat.zero_le _, e2, fun v hv h => by omega⟩ ?_
  rintro i ⟨x, _⟩ w5 ⟨hx, hi, e5, hno⟩ J1 hJ1
  simp only at hx; subst hx
  dsimp only
  rw [Bool.cond_decide]
  by_cases hc : (i : Int) < (sr.len : Int)
  · rw [if_pos hc]
    have hi' : i < rank.length := by omega
    refine int_idx (h.ext e5) hi' fun _ q => ⟨_, q, ?_⟩
    by_cases he : rank[i] = r
    · rw [show (rank[i] == r) = true by simpa using he, cond_true]
      exact hk _ _ e5 (.inl ⟨i, hi', he, rfl⟩)
    · rw [show (rank[i] == r) = false by simpa using he, cond_false]
      refine hJ1 (i + 1) _ _ ⟨wsucc (m := 2 ^ 40) (by omega) (by omega), by omega, e5, fun v hv hvi => ?_⟩ (by omega)
      by_cases e : v = i
      · subst e; exact he
      · exact hno v hv (by omega)
  · rw [if_neg hc]
    exact hk _ _ e5 (.inr ⟨fun v hv => hno v hv (by omega), rfl⟩)

theorem rplace_ok {v : Int} {K : Bool → World → Prop} (hl : sr.len = rank.length) (hk : ∀ w', Ext w w' → K (decide (0 ≤ v ∧ v < rank.length)) w') : sh_postroadref10_place sr sy v K w := by
  unfold sh_postroadref10_place
  intro b1 w2 e2 _ _
  have := hk w2 e2
  rw [Bool.cond_decide, hl]
  split
  · rename_i h0
    rw [show decide (0 ≤ v ∧ v < (rank.length : Int)) = decide (v < (rank.length : Int)) from decide_eq_decide.2 ⟨fun h => h.2, fun h => ⟨h0, h⟩⟩] at this
    exact this
  · rename_i h0
    rw [decide_eq_false (fun h => h0 h.1)] at this; exact this
theorem rplace_quiet {v : Int} {K : Bool → Prop} (hl : sr.len = rank.length) (hk : K (decide (0 ≤ v ∧ v < rank.length))) :
    Quiet Bool (fun r => .bool r) (fun K21 w22' => sh_postroadref10_place sr sy v (fun t19 w22 => K21 t19 w22) w22') w K :=
  Quiet.mk _ (fun w' _ _ hK' => rplace_ok hl fun w'' e'' => hK' w'' e'') hk

theorem rFind_ok {u v : Int} {K : Int → World → Prop} (h : View RW w sy ways) (hn : ways.length < 2 ^ 40) (hk : ∀ w', Ext w w' → K (ofN (findW ways u v)) w') : sh_postroadref10_Find sr sy u v K w := by
  unfold sh_postroadref10_Find
  intro b1 w2 e2 _ _
  have hl := h.len
  refine LoopT.gh (γ := Nat) (fun i (st : Int × Unit) w' => st.1 = i ∧ i ≤ ways.length ∧ Ext w w' ∧ findW (ways.take i) u v = none) (fun i => ways.length - i) 0 ⟨rfl, Nat.zero_le _, e2, rfl⟩ ?_
  rintro i ⟨x, _⟩ w5 ⟨hx, hi, e5, hno⟩ J1 hJ1
  simp only at hx; subst hx
  dsimp only
  rw [Bool.cond_decide]
  by_cases hc : (i : Int) < (sy.len : Int)
  · rw [if_pos hc]
    have hi' : i < ways.length := by omega
    have hst := findW_snoc (ways.take i) ways[i] u v
    rw [← take_snoc' hi', hno] at hst
    simp only at hst
    refine Join.cut (fun _ w' => w' = w5 ∧ ¬ (yF ways[i] = u ∧ yT ways[i] = v)) (fun J hJ => ?_) ?_
    · refine way_idx (h.ext e5) hi' fun _ _ a0 _ _ _ _ => ⟨_, a0, ?_⟩
      by_cases h1 : yF ways[i] = u
      · rw [show (yF ways[i] == u) = true by simpa using h1, cond_true]
        refine way_idx (h.ext e5) hi' fun _ _ _ a1 _ _ _ => ⟨_, a1, ?_⟩
        by_cases h2 : yT ways[i] = v
        · rw [show (yT ways[i] == v) = true by simpa using h2, cond_true]
          have hf : findW ways u v = some i := by
            have h3 : ways = ways.take (i + 1) ++ ways.drop (i + 1) := (List.take_append_drop _ _).symm
            rw [if_pos ⟨h1, h2⟩, List.length_take, Nat.min_eq_left hi] at hst
            rw [h3]
            unfold findW at hst ⊢
            rw [List.findIdx?_append, hst]; rfl
          have := hk w5 e5
          rw [hf] at this; exact this
        · rw [show (yT ways[i] == v) = false by simpa using h2, cond_false]
          exact hJ _ _ ⟨rfl, fun hh => h2 hh.2⟩
      · rw [show (yF ways[i] == u) = false by simpa using h1, cond_false]
        exact hJ _ _ ⟨rfl, fun hh => h1 hh.1⟩
    · rintro _ w12 ⟨rfl, hne⟩
      rw [if_neg hne] at hst
      exact hJ1 (i + 1) _ _ ⟨wsucc (m := 2 ^ 40) (by omega) (by omega), by omega, e5, hst⟩ (by omega)
  · rw [if_neg hc]
    have : i = ways.length := by omega
    subst this
    rw [List.take_length] at hno
    have := hk w5 e5
    rw [hno] at this; exact this
/-- What the reference asks of a way. -/
def OkWr (rank : List Int) (ways : List Wy) (y : Wy) : Prop :=
  if yM y = -1 then 0 ≤ yA y ∧ yA y < 67108864
  else yA y = -1 ∧ 0 ≤ yM y ∧ yM y < rank.length ∧ rkA rank (yM y) < rkA rank (yF y) ∧ rkA rank (yM y) < rkA rank (yT y) ∧
    ∃ a b, findW ways (yF y) (yM y) = some a ∧ findW ways (yM y) (yT y) = some b ∧ IntKind.i64.wrap (wW ways a + wW ways b) = yW y
theorem okF_iff {n i : Nat} (hi : i < ways.length) : OkF n (ways.take i) ways[i] ↔ findW ways (yF ways[i]) (yT ways[i]) = some i ∧ yF ways[i] ≠ yT ways[i] ∧ 0 ≤ yF ways[i] ∧ 0 ≤ yT ways[i] ∧ yF ways[i] < n ∧ yT ways[i] < n ∧ 0 ≤ yW ways[i] ∧ yW ways[i] ≤ 1152921504606846976 := by
  unfold OkF
  have : findW (ways.take i) (yF ways[i]) (yT ways[i]) = none ↔ findW ways (yF ways[i]) (yT ways[i]) = some i := by
    have hst := findW_snoc (ways.take i) ways[i] (yF ways[i]) (yT ways[i])
    rw [← take_snoc' hi] at hst
    have h3 : ∀ u v, findW ways u v = (findW (ways.take (i + 1)) u v).or ((findW (ways.drop (i + 1)) u v).map (· + (ways.take (i + 1)).length)) := fun u v => by
      have h4 : findW (ways.take (i + 1) ++ ways.drop (i + 1)) u v = findW ways u v := by rw [List.take_append_drop]
      rw [← h4]
      unfold findW; rw [List.findIdx?_append]
    cases hf : findW (ways.take i) (yF ways[i]) (yT ways[i]) with
    | none =>
      rw [hf] at hst
      simp only [and_self, if_true, List.length_take, Nat.min_eq_left (Nat.le_of_lt hi)] at hst
      rw [h3, hst]; simp
    | some j =>
      rw [hf] at hst
      simp only at hst
      rw [h3, hst]
      obtain ⟨hj, _⟩ := findW_some hf
      rw [List.length_take] at hj
      simp only [Option.some_or, Option.some.injEq, reduceCtorEq, false_iff]
      omega
  rw [this]

theorem rright_ok {i : Nat} {K : Bool → World → Prop} (hr : View RI w sr rank) (hy : View RW w sy ways) (hn : ways.length < 2 ^ 40) (hi : i < ways.length)
    (hk : ∀ b w', Ext w w' → (b = true ↔ OkF rank.length (ways.take i) ways[i] ∧ OkWr rank ways ways[i]) → K b w') : sh_postroadref10_right sr sy (i : Int) K w := by
  unfold sh_postroadref10_right
  intro b1 w2 e2 g1 g1'
  have z2 := e2.size
  have hl := hr.len
  refine way_idx (hy.ext e2) hi fun a _ a0 a1 a2 a3 a4 => ⟨_, a0, _, a1, _, a2, _, a3, _, a4, ?_⟩
  rw [okF_iff hi] at hk
  generalize hyy : ways[i] = y at hk
  intro b9 w10 e10 g9 g9' w11 o11
  have z10 := e10.size; have z11 := o11.size
  have e11 : Ext w w11 := ext_off (e2.trans e10) o11 (by omega)
  have no : ¬ ((findW ways (yF y) (yT y) = some i ∧ yF y ≠ yT y ∧ 0 ≤ yF y ∧ 0 ≤ yT y ∧ yF y < (rank.length : Int) ∧ yT y < (rank.length : Int) ∧ 0 ≤ yW y ∧ yW y ≤ 1152921504606846976) ∧ OkWr rank ways y) → ∀ w', Ext w11 w' → K false w' :=
    fun hno w' e => hk false w' (e11.trans e) ⟨fun h => (by cases h), fun h => absurd h hno⟩
  refine rplace_ok hl fun w13 e13 => ⟨kp_ext e13 (by (intro b hb; simp only [List.mem_cons, List.not_mem_nil, or_false] at hb; omega)), ?_⟩
  have z13 := e13.size
  by_cases p1 : ¬ (0 ≤ yF y ∧ yF y < (rank.length : Int))
  · rw [decide_eq_false p1]
    simp only [Bool.not_false, cond_true]
    exact no (fun h => by omega) w13 e13
  rw [Classical.not_not] at p1
  rw [decide_eq_true p1]
  simp only [Bool.not_true, cond_false]
  refine rplace_ok hl fun w15 e15 => ⟨kp_ext e15 (by (intro b hb; simp only [List.mem_cons, List.not_mem_nil, or_false] at hb; omega)), ?_⟩
  have z15 := e15.size
  have e15' := e13.trans e15
  by_cases p2 : ¬ (0 ≤ yT y ∧ yT y < (rank.length : Int))
  · rw [decide_eq_false p2]
    simp only [Bool.not_false, cond_true]
    exact no (fun h => by omega) w15 e15'
  rw [Classical.not_not] at p2
  rw [decide_eq_true p2]
  simp only [Bool.not_true, cond_false]
  by_cases p3 : yF y = yT y
  · rw [show (yF y == yT y) = true by simpa using p3, cond_true]
    exact no (fun h => h.1.2.1 p3) w15 e15'
  rw [show (yF y == yT y) = false by simpa using p3, cond_false, Bool.cond_decide]
  split
  · exact no (fun h => by omega) w15 e15'
  rename_i p4
  rw [Bool.cond_decide]
  split
  · exact no (fun h => by omega) w15 e15'
  rename_i p5
  refine rFind_ok (hy.ext (e11.trans e15')) hn fun w17 e17 => ⟨kp_ext e17 (by (intro b hb; simp only [List.mem_cons, List.not_mem_nil, or_false] at hb; omega)), ?_⟩
  have z17 := e17.size
  have e17' := e15'.trans e17
  by_cases p6 : ¬ findW ways (yF y) (yT y) = some i
  · rw [show (ofN (findW ways (yF y) (yT y)) != (i : Int)) = true by
      rw [bne_iff_ne]
      cases hf : findW ways (yF y) (yT y) with
      | none => simp only [ofN]; omega
      | some j => simp only [ofN]; intro e; exact p6 (by rw [hf]; congr 1; omega), cond_true]
    exact no (fun h => p6 h.1.1) w17 e17'
  rw [Classical.not_not] at p6
  rw [show (ofN (findW ways (yF y) (yT y)) != (i : Int)) = false by rw [p6]; simp [ofN], cond_false]
  have okf : findW ways (yF y) (yT y) = some i ∧ yF y ≠ yT y ∧ 0 ≤ yF y ∧ 0 ≤ yT y ∧ yF y < (rank.length : Int) ∧ yT y < (rank.length : Int) ∧ 0 ≤ yW y ∧ yW y ≤ 1152921504606846976 := ⟨p6, p3, by omega, by omega, by omega, by omega, by omega, by omega⟩
  have hk' : ∀ b w', Ext w11 w' → (b = true ↔ OkWr rank ways y) → K b w' := fun b w' e hb => hk b w' (e11.trans e) ⟨fun h => ⟨okf, hb.1 h⟩, fun h => hb.2 h.2⟩
  have no' : ¬ OkWr rank ways y → ∀ w', Ext w17 w' → K false w' := fun hno w' e => no (fun h => hno h.2) w' (e17'.trans e)
  by_cases hm : yM y = -1
  · have hW : OkWr rank ways y ↔ (0 ≤ yA y ∧ yA y < 67108864) := by unfold OkWr; rw [if_pos hm]
    rw [show (yM y == -1) = true by simpa using hm, cond_true, Bool.cond_decide]
    split
    · exact hk' _ _ e17' (by rw [hW, decide_eq_true_iff]; omega)
    · rename_i ha
      exact no' (fun h => ha (hW.1 h).1) w17 (.refl _)
  have hW : OkWr rank ways y ↔ (yA y = -1 ∧ 0 ≤ yM y ∧ yM y < rank.length ∧ rkA rank (yM y) < rkA rank (yF y) ∧ rkA rank (yM y) < rkA rank (yT y) ∧
    ∃ a b, findW ways (yF y) (yM y) = some a ∧ findW ways (yM y) (yT y) = some b ∧ IntKind.i64.wrap (wW ways a + wW ways b) = yW y) := by unfold OkWr; rw [if_neg hm]
  rw [show (yM y == -1) = false by simpa using hm, cond_false]
  by_cases ha : yA y ≠ -1
  · rw [show (yA y != -1) = true by simpa using ha, cond_true]
    exact no' fun h => ha (hW.1 h).1
  have ha : yA y = -1 := by omega
  rw [show (yA y != -1) = false by simpa using ha, cond_false]
  refine rplace_quiet hl ?_
  by_cases p7 : ¬ (0 ≤ yM y ∧ yM y < (rank.length : Int))
  · rw [decide_eq_false p7]
    simp only [Bool.not_false, cond_true]
    exact no' fun h => p7 ⟨(hW.1 h).2.1, (hW.1 h).2.2.1⟩
  rw [Classical.not_not] at p7
  rw [decide_eq_true p7]
  simp only [Bool.not_true, cond_false]
  obtain ⟨m, hmm⟩ := Int.eq_ofNat_of_zero_le p7.1
  obtain ⟨f, hff⟩ := Int.eq_ofNat_of_zero_le p1.1
  obtain ⟨t, htt⟩ := Int.eq_ofNat_of_zero_le p2.1
  have hr17 := hr.ext (e11.trans e17')
  rw [hmm, hff]
  refine int_idx hr17 (by omega) fun _ q => ⟨_, q, ?_⟩
  refine int_idx hr17 (by omega) fun _ q => ⟨_, q, ?_⟩
  rw [rk_get (show m < rank.length by omega), rk_get (show f < rank.length by omega), ← hmm, ← hff, Bool.cond_decide]
  split
  · rename_i hge; exact no' fun h => by have := (hW.1 h).2.2.2.1; omega
  rename_i hge
  rw [hmm, htt]
  refine int_idx hr17 (by omega) fun _ q => ⟨_, q, ?_⟩
  refine int_idx hr17 (by omega) fun _ q => ⟨_, q, ?_⟩
  rw [rk_get (show m < rank.length by omega), rk_get (show t < rank.length by omega), ← hmm, ← htt]
  intro w33 e33
  have z33 := e33.size
  rw [Bool.cond_decide]
  split
  · rename_i hge2; exact no' (fun h => by have := (hW.1 h).2.2.2.2.1; omega) w33 e33
  rename_i hge2
  have hy33 := hy.ext ((e11.trans e17').trans e33)
  refine rFind_ok hy33 hn fun w35 e35 => ⟨kp_ext e35 (by (intro b hb; simp only [List.mem_cons, List.not_mem_nil, or_false] at hb; omega)), ?_⟩
  have z35 := e35.size
  refine rFind_ok (hy33.ext e35) hn fun w37 e37 => ⟨kp_ext e37 (by (intro b hb; simp only [List.mem_cons, List.not_mem_nil, or_false] at hb; omega)), ?_⟩
  have e3337 := e35.trans e37
  have e1737 := e33.trans e3337
  cases h1 : findW ways (yF y) (yM y) with
  | none =>
    rw [show decide (ofN none ≥ 0) = false from rfl, cond_false]
    intro w44 e44
    exact no' (fun h => by obtain ⟨_, _, _, _, _, a, b, q1, _, _⟩ := hW.1 h; rw [h1] at q1; cases q1) _ (e1737.trans e44)
  | some a =>
    rw [show decide (ofN (some a) ≥ 0) = true from decide_eq_true (by show (a : Int) ≥ 0; omega), cond_true]
    cases h2 : findW ways (yM y) (yT y) with
    | none =>
      rw [show decide (ofN none ≥ 0) = false from rfl, cond_false]
      intro w44 e44
      exact no' (fun h => by obtain ⟨_, _, _, _, _, a, b, _, q2, _⟩ := hW.1 h; rw [h2] at q2; cases q2) _ (e1737.trans e44)
    | some b =>
      rw [show decide (ofN (some b) ≥ 0) = true from decide_eq_true (by show (b : Int) ≥ 0; omega), cond_true]
      rw [show ofN (some a) = (a : Int) from rfl, show ofN (some b) = (b : Int) from rfl]
      obtain ⟨hka, _, _, _⟩ := findW_some h1
      obtain ⟨hkb, _, _, _⟩ := findW_some h2
      have hy37 := hy33.ext e3337
      refine way_idx hy37 hka fun q hq _ _ q2 _ _ => ⟨yW ways[a], ?_, ?_⟩
      · rw [add_add _ hq] at q2 ⊢; rw [addm]; exact q2
      refine way_idx hy37 hkb fun q hq _ _ q2 _ _ => ⟨yW ways[b], ?_, ?_⟩
      · rw [add_add _ hq] at q2 ⊢; rw [addm]; exact q2
      intro w42 e42
      refine hk' _ _ (e17'.trans (e1737.trans e42)) ?_
      rw [beq_iff_eq, hW, wW_get hka, wW_get hkb]
      constructor
      · intro hs; exact ⟨ha, p7.1, p7.2, by omega, by omega, a, b, h1, h2, hs⟩
      · rintro ⟨_, _, _, _, _, a', b', q1, q2, hs⟩
        rw [h1] at q1; rw [h2] at q2
        injection q1 with q1; injection q2 with q2
        subst q1 q2; exact hs

theorem okH_of {rank : List Int} {ways : List Wy} (hl : OkL rank ways) (hr : OkR rank) (hf : OkFs rank.length ways) (hw : ∀ y ∈ ways, OkWr rank ways y) : OkH rank ways := by
  refine ⟨hl.1, hl.2, hr, hf, fun y hy => ?_⟩
  have := hw y hy
  unfold OkWr at this; unfold OkW
  split
  · rename_i h; rw [if_pos h] at this; exact this
  · rename_i h; rw [if_neg h] at this
    obtain ⟨q1, q2, q3, q4, q5, a, b, q6, q7, q8⟩ := this
    refine ⟨q1, q2, q3, q4, q5, a, b, q6, q7, ?_⟩
    obtain ⟨ha, _⟩ := findW_some q6
    obtain ⟨hb, _⟩ := findW_some q7
    have wa := hf a ha; have wb := hf b hb
    unfold OkF at wa wb
    rw [wW_get ha] at wa; rw [wW_get hb] at wb
    rw [w64 (by omega) (by omega)] at q8; exact q8
theorem okH_wr {rank : List Int} {ways : List Wy} (ok : OkH rank ways) {y : Wy} (hy : y ∈ ways) : OkWr rank ways y := by
  have := ok.w y hy
  unfold OkW at this; unfold OkWr
  split
  · rename_i h; rw [if_pos h] at this; exact this
  · rename_i h; rw [if_neg h] at this
    obtain ⟨q1, q2, q3, q4, q5, a, b, q6, q7, q8⟩ := this
    refine ⟨q1, q2, q3, q4, q5, a, b, q6, q7, ?_⟩
    obtain ⟨ha, _⟩ := findW_some q6
    obtain ⟨hb, _⟩ := findW_some q7
    have wa := ok.f a ha; have wb := ok.f b hb
    unfold OkF at wa wb
    rw [wW_get ha] at wa; rw [wW_get hb] at wb
    rw [w64 (by omega) (by omega)]; exact q8

theorem rCheck_ok {K : Int → World → Prop} (hr : View RI w sr rank) (hy : View RW w sy ways) (hk : ∀ w', Ext w w' → K (chkF rank ways) w') : sh_postroadref10_Check sr sy K w := by
  unfold sh_postroadref10_Check
  intro b1 w2 e2 g1 g1'
  have z2 := e2.size
  have lr := hr.len; have ly := hy.len
  have long : ¬ OkL rank ways → K 3 w2 := fun hn => by
    have := hk w2 e2
    rw [(chkF_no (fun ok => hn ok.l)).2.2 hn] at this; exact this
  rw [Bool.cond_decide]
  split
  · exact long fun h => by unfold OkL at h; omega
  rw [Bool.cond_decide]
  split
  · exact long fun h => by unfold OkL at h; omega
  have okl : OkL rank ways := ⟨by omega, by omega⟩
  have bad : ¬ OkH rank ways → ∀ w', Ext w2 w' → K 2 w' := fun hn w' e => by
    have := hk w' (e2.trans e)
    rw [(chkF_no hn).2.1 okl] at this; exact this
  refine Join.cut (fun _ w' => Ext w2 w' ∧ OkR rank) (fun J hJ => ?_) ?_
  · refine LoopT.gh (γ := Nat) (fun i (st : Int × Unit) w' => st.1 = i ∧ i ≤ rank.length ∧ Ext w2 w' ∧ ∀ k : Nat, k < i → (k : Int) ∈ rank) (fun i => rank.length - i) 0 ⟨rfl, Nat.zero_le _, .refl _, fun k hk => by omega⟩ ?_
    rintro i ⟨x, _⟩ w6 ⟨hx, hi, e6, hin⟩ J1 hJ1
    simp only at hx; subst hx
    dsimp only
    have z6 := e6.size
    rw [Bool.cond_decide]
    by_cases hc : (i : Int) < (sr.len : Int)
    · rw [if_pos hc]
      have hi' : i < rank.length := by omega
      refine rAt_ok (hr.ext (e2.trans e6)) (by unfold OkL at okl; omega) fun x w8 e8 hx => ⟨kp_ext e8 (by (intro b hb; simp only [List.mem_cons, List.not_mem_nil, or_false] at hb; omega)), ?_⟩
      rcases hx with ⟨v, hv, he, rfl⟩ | ⟨hno, rfl⟩
      · rw [decide_eq_false (by omega), cond_false]
        refine hJ1 (i + 1) _ _ ⟨wsucc (m := 2 ^ 40) (by unfold OkL at okl; omega) (by omega), by omega, e6.trans e8, fun k hk => ?_⟩ (by omega)
        by_cases e : k = i
        · subst e; rw [← he]; exact List.getElem_mem hv
        · exact hin k (by omega)
      · rw [show decide ((-1 : Int) < 0) = true from rfl, cond_true]
        refine bad (fun ok => ?_) w8 (e6.trans e8)
        obtain ⟨v, hv, he⟩ := okR_onto ok.r hi'
        exact hno v hv he
    · rw [if_neg hc]
      exact hJ _ _ ⟨e6, onto_okR fun k hk => hin k (by omega)⟩
  rintro _ w10 ⟨e10, okr⟩
  refine LoopT.gh (γ := Nat) (fun i (st : Int × Unit) w' => st.1 = i ∧ i ≤ ways.length ∧ Ext w2 w' ∧ ∀ j (hj : j < ways.length), j < i → OkF rank.length (ways.take j) ways[j] ∧ OkWr rank ways ways[j]) (fun i => ways.length - i) 0 ⟨rfl, Nat.zero_le _, e10, fun j _ hj => by omega⟩ ?_
  rintro i ⟨x, _⟩ w13 ⟨hx, hi, e13, hok⟩ J1 hJ1
  simp only at hx; subst hx
  dsimp only
  have z13 := e13.size
  rw [Bool.cond_decide]
  by_cases hc : (i : Int) < (sy.len : Int)
  · rw [if_pos hc]
    have hi' : i < ways.length := by omega
    refine rright_ok (hr.ext (e2.trans e13)) (hy.ext (e2.trans e13)) (by unfold OkL at okl; omega) hi' fun b w15 e15 hb => ⟨kp_ext e15 (by (intro b hb; simp only [List.mem_cons, List.not_mem_nil, or_false] at hb; omega)), ?_⟩
    cases b with
    | false =>
      simp only [Bool.not_false, cond_true]
      refine bad (fun ok => ?_) w15 (e13.trans e15)
      have := hb.2 ⟨ok.f i hi', okH_wr ok (List.getElem_mem hi')⟩; cases this
    | true =>
      simp only [Bool.not_true, cond_false]
      refine hJ1 (i + 1) _ _ ⟨wsucc (m := 2 ^ 40) (by unfold OkL at okl; omega) (by omega), by omega, e13.trans e15, fun j hj hji => ?_⟩ (by omega)
      by_cases e : j = i
      · subst e; exact hb.1 rfl
      · exact hok j hj (by omega)
  · rw [if_neg hc]
    have ok : OkH rank ways := okH_of okl okr (fun j hj => (hok j hj (by omega)).1) fun y hy => by
      obtain ⟨j, hj, rfl⟩ := List.getElem_of_mem hy
      exact (hok j hj (by omega)).2
    have := hk w13 (e2.trans e13)
    rw [chkF_ok ok] at this; exact this
end
end Go.Sh

/- The reference's edges; what is known. -/
set_option maxRecDepth 100000
namespace Go.Sh
open Go.RowKit

section
variable {w : World} {sr sy : SV} {rank : List Int} {ways : List Wy}

end
end Go.Sh

/- HierTwo, HierFinds. -/
set_option maxRecDepth 100000
namespace Go.Sh
open Go.RowKit

section
variable {w : World} {p : Option Addr} {rank : List Int} {ways : List Wy} {F : Nat → Prop}
theorem Rank_quiet {v : Int} (h : HierA w p rank ways F) {K : Int → Prop} (hk : K (rankF rank v)) : Quiet Int (fun r => .int .i64 r) (fun K1 w1 => sh_hier_Hier_Rank p v (fun x w2 => K1 x w2) w1) w K :=
  Quiet.mk _ (fun _ e _ hK => Rank_ok (h.ext e) (hK _ (.refl _))) hk
end

theorem upF_mem {rank : List Int} {ways : List Wy} {v : Int} {e : Edg} (h : e ∈ upF rank ways v) : ∃ k : Nat, ∃ hk : k < ways.length, yF ways[k] = v ∧ IsUp rank ways[k] ∧ e = (yT ways[k], yW ways[k], (k : Int)) := by
  unfold upF at h; split at h
  · obtain ⟨k, hk, h1, h2, h3⟩ := upP_mem.1 h
    exact ⟨k, hk, by rw [wyA_get hk]; exact h1, by rw [wyA_get hk]; exact h2, by rw [wyA_get hk]; exact h3⟩
  · simp at h
theorem dnF_mem {rank : List Int} {ways : List Wy} {v : Int} {e : Edg} (h : e ∈ dnF rank ways v) : ∃ k : Nat, ∃ hk : k < ways.length, yT ways[k] = v ∧ ¬ IsUp rank ways[k] ∧ e = (yF ways[k], yW ways[k], (k : Int)) := by
  unfold dnF at h; split at h
  · obtain ⟨k, hk, h1, h2, h3⟩ := dnP_mem.1 h
    exact ⟨k, hk, by rw [wyA_get hk]; exact h1, by rw [wyA_get hk]; exact h2, by rw [wyA_get hk]; exact h3⟩
  · simp at h
theorem upF_of {rank : List Int} {ways : List Wy} (ok : OkH rank ways) {k : Nat} (hk : k < ways.length) (hu : IsUp rank ways[k]) : (yT ways[k], yW ways[k], (k : Int)) ∈ upF rank ways (yF ways[k]) := by
  have := ok.f k hk; unfold OkF at this
  unfold upF; rw [if_pos (by omega)]
  exact upP_mem.2 ⟨k, hk, by rw [wyA_get hk], by rw [← wyA_get hk]; exact hu, by rw [wyA_get hk]⟩
theorem dnF_of {rank : List Int} {ways : List Wy} (ok : OkH rank ways) {k : Nat} (hk : k < ways.length) (hu : ¬ IsUp rank ways[k]) : (yF ways[k], yW ways[k], (k : Int)) ∈ dnF rank ways (yT ways[k]) := by
  have := ok.f k hk; unfold OkF at this
  unfold dnF; rw [if_pos (by omega)]
  exact dnP_mem.2 ⟨k, hk, by rw [wyA_get hk], by rw [← wyA_get hk]; exact hu, by rw [wyA_get hk]⟩
theorem upF_lt {rank : List Int} {ways : List Wy} (ok : OkH rank ways) (v : Int) : (upF rank ways v).length < 2 ^ 40 := by
  have hk := ok.k
  unfold upF; split
  · have := upP_len rank ways v ways.length; omega
  · simp
theorem dnF_lt {rank : List Int} {ways : List Wy} (ok : OkH rank ways) (v : Int) : (dnF rank ways v).length < 2 ^ 40 := by
  have hk := ok.k
  unfold dnF; split
  · have := dnP_len rank ways v ways.length; omega
  · simp

end Go.Sh

/- How far the places are that ways lead up (or down) to. -/
set_option maxRecDepth 100000
namespace Go.Sh
open Go.RowKit

/-- The distance. -/
noncomputable def dstE (E : Nat → Nat → Int → Prop) (s v : Nat) : Int := Classical.epsilon (fun x => IsD E s v x)
theorem dstE_is {E : Nat → Nat → Int → Prop} (hE : ∀ u v x, E u v x → 0 ≤ x) (s v : Nat) : IsD E s v (dstE E s v) := Classical.epsilon_spec (IsD.ex hE s v)

/-- The ways up (down) out of a place, while its rank is less. -/
def edS (rank : List Int) (ways : List Wy) (top : Int) (back : Bool) (u : Nat) : List Edg := if rkA rank (u : Int) < top then (if back = true then dnF rank ways (u : Int) else upF rank ways (u : Int)) else []
abbrev ES (rank : List Int) (ways : List Wy) (top : Int) (back : Bool) : Nat → Nat → Int → Prop := EE' rank.length (edS rank ways top back)
/-- .. from a place, if it is one. -/
noncomputable def clF (rank : List Int) (ways : List Wy) (top : Int) (back : Bool) (s : Int) (v : Nat) : Int := if 0 ≤ s ∧ s < rank.length then dstE (ES rank ways top back) s.toNat v else -1

/-- A hierarchy whose ways are not too long. -/
structure FitH (rank : List Int) (ways : List Wy) : Prop where
  ok : OkH rank ways
  n : rank.length ≤ 2048
  b : ∀ y ∈ ways, yW y ≤ 1125899906842624

section
variable {rank : List Int} {ways : List Wy} {top : Int} {back : Bool}
theorem edS_ok (h : FitH rank ways) : EdOk rank.length 1125899906842624 (edS rank ways top back) := by
  have hn := h.n
  refine ⟨by decide, by omega, by omega, fun u hu e he => ?_, fun u hu => ?_⟩
  · unfold edS at he
    split at he
    · split at he
      · obtain ⟨k, hk, h1, h2, rfl⟩ := dnF_mem he
        have := h.ok.f k hk; unfold OkF at this
        exact ⟨by simp only; omega, by simp only; omega, by simp only; omega, h.b _ (List.getElem_mem hk)⟩
      · obtain ⟨k, hk, h1, h2, rfl⟩ := upF_mem he
        have := h.ok.f k hk; unfold OkF at this
        exact ⟨by simp only; omega, by simp only; omega, by simp only; omega, h.b _ (List.getElem_mem hk)⟩
    · simp at he
  · unfold edS
    split
    · split
      · exact dnF_lt h.ok _
      · exact upF_lt h.ok _
    · simp
theorem ES_pos (h : FitH rank ways) : ∀ u v x, ES rank ways top back u v x → 0 ≤ x := fun u v x ⟨hu, e, he, _, hx⟩ => by have := (edS_ok h).e u hu e he; omega
theorem ES_dom (h : FitH rank ways) : ∀ u v x, ES rank ways top back u v x → u < rank.length → v < rank.length := fun u v x ⟨hu, e, he, hv, _⟩ _ => by have := (edS_ok h).e u hu e he; omega
theorem clF_is (h : FitH rank ways) {s : Nat} (hs : s < rank.length) (v : Nat) : IsD (ES rank ways top back) s v (clF rank ways top back s v) := by
  unfold clF
  rw [if_pos (by omega), Int.toNat_natCast]
  exact dstE_is (ES_pos h) s v
theorem clF_no {s : Int} (hs : ¬ (0 ≤ s ∧ s < rank.length)) (v : Nat) : clF rank ways top back s v = -1 := by unfold clF; rw [if_neg hs]
end

/-- What a map of distances holds. -/
def MpF (n : Nat) (f : Nat → Int) (mm : List (List Int × Value)) : Prop := ∀ u : Int, assoc mm [u] = if 0 ≤ u ∧ u < n ∧ 0 ≤ f u.toNat then some (.int .i64 (f u.toNat)) else none
theorem MpF.nil {n : Nat} : MpF n (fun _ => -1) [] := fun u => by rw [if_neg (by dsimp only; omega)]; rfl
theorem MpF.set {n : Nat} {f : Nat → Int} {mm : List (List Int × Value)} (h : MpF n f mm) {c : Nat} (hc : c < n) {x : Int} (hx : 0 ≤ x) : MpF n (up1 f c x) (upd mm [(c : Int)] (.int .i64 x)) := fun u => by
  rw [assoc_upd]
  by_cases e : u = (c : Int)
  · subst e
    rw [if_pos rfl, Int.toNat_natCast, up1_at, if_pos (by omega)]
  · rw [if_neg (by simp only [List.cons.injEq, and_true]; omega), h u]
    by_cases h0 : 0 ≤ u
    · rw [up1_ne (by omega)]
    · rw [if_neg (by omega), if_neg (by omega)]
theorem MpF.at {n : Nat} {f : Nat → Int} {mm : List (List Int × Value)} (h : MpF n f mm) {v : Nat} (hv : v < n) : assoc mm [(v : Int)] = if 0 ≤ f v then some (.int .i64 (f v)) else none := by
  rw [h (v : Int), Int.toNat_natCast]
  by_cases q : 0 ≤ f v
  · rw [if_pos (by omega), if_pos q]
  · rw [if_neg (by omega), if_neg q]
theorem MpF.congr {n : Nat} {f g : Nat → Int} {mm : List (List Int × Value)} (h : MpF n f mm) (e : ∀ v, v < n → f v = g v) : MpF n g mm := fun u => by
  rw [h u]
  by_cases q : 0 ≤ u ∧ u < n
  · rw [e u.toNat (by omega)]
  · rw [if_neg (by omega), if_neg (by omega)]

def upV (back : Bool) : Value := if back = true then .func (.func fn_hier_Hier_Down) #[] #[] else .func (.func fn_hier_Hier_Up) #[] #[]
/-- What is known of the ways' function values. -/
structure WayCV (CV : CVT) : Prop where
  up : ∀ h v K w, sh_hier_Hier_Up h v (fun s w' => K (.slice s.a s.len s.cap) w') w → CV (.func (.func fn_hier_Hier_Up) #[] #[]) [.pointer h, .int .i64 v] K w
  dn : ∀ h v K w, sh_hier_Hier_Down h v (fun s w' => K (.slice s.a s.len s.cap) w') w → CV (.func (.func fn_hier_Hier_Down) #[] #[]) [.pointer h, .int .i64 v] K w

section
variable {CV : CVT} {w : World} {p : Option Addr} {rank : List Int} {ways : List Wy} {F : Nat → Prop}

theorem climb_no {s top : Int} {back : Bool} {K : Option Nat → World → Prop} (hH : HierA w p rank ways F) (hs : ¬ (0 ≤ s ∧ s < rank.length))
    (hk : ∀ r w', Ext w w' → MapIs false 1 w' r [] → w.heap.size ≤ r → K (some r) w') : sh_space_climb CV p s top (upV back) K w := by
  unfold sh_space_climb
  intro r w2 e2 g2 hm
  refine Rank_ok (hH.ext e2) ?_
  rw [Bool.cond_decide, if_pos ((rankF_neg hH.ok).2 hs)]
  exact hk r w2 e2 (MapIs.nil hm) g2

theorem climb_ok (hcv : WayCV CV) {s : Nat} {top : Int} {back : Bool} {K : Option Nat → World → Prop} (hH : HierA w p rank ways F) (fit : FitH rank ways) (hs : s < rank.length)
    (hk : ∀ r mm w', Ext w w' → MapIs false 1 w' r mm → w.heap.size ≤ r → MpF rank.length (clF rank ways top back s) mm → K (some r) w') : sh_space_climb CV p (s : Int) top (upV back) K w := by
  have ok : EdOk rank.length 1125899906842624 (edS rank ways top back) := edS_ok fit
  have hn := fit.n
  have hpos := ES_pos (top := top) (back := back) fit
  have hdom := ES_dom (top := top) (back := back) fit
  have hrk : ∀ v : Nat, v < rank.length → rankF rank (v : Int) = rkA rank (v : Int) := fun v hv => by unfold rankF; rw [if_pos (by omega)]
  unfold sh_space_climb
  intro r w2 e2 g2 hm
  have z2 := e2.size
  have hM2 : MapIs false 1 w2 r [] := MapIs.nil hm
  have lr : r < w2.heap.size := hM2.lt
  refine Rank_ok (hH.ext e2) ?_
  rw [Bool.cond_decide, if_neg (by rw [rankF_neg hH.ok]; omega)]
  refine HN_ok (hH.ext e2) ?_
  refine New_ok (by omega) (by omega) fun p7 w8 F8 e8 hP8 f8 => ?_
  rw [Int.toNat_natCast] at hP8
  have z8 := e8.size
  refine Set_ok hP8 (by omega) (by omega) fun w10 F10 c10 f10 hP10 => ?_
  have z10 := c10.size
  have lF : ∀ {k}, F k → k < w.heap.size := fun hk => hH.lt hk
  have e10 : Ext w w10 := ext_chg (e2.trans e8) c10 fun k hk => by have := f8 k hk; omega
  have hM10 : MapIs false 1 w10 r [] := (hM2.grow e8).same (c10.block r (by omega) fun h => by have := f8 r h; omega)
  refine LoopT.gh (γ := (Nat → Int) × List (Int × Int) × (Nat → Prop)) (fun gh (_ : Unit) w' => Ext w w' ∧ w2.heap.size ≤ w'.heap.size ∧ (∃ mm, MapIs false 1 w' r mm ∧ MpF rank.length gh.1 mm) ∧ HeapA w' p7 rank.length gh.2.1 gh.2.2 ∧ (∀ k, gh.2.2 k → w2.heap.size ≤ k) ∧ Dij (ES rank ways top back) rank.length s 1125899906842624 gh.1 gh.2.1) (fun gh => rank.length - cntR gh.1 rank.length)
    (fun _ => -1, [((s : Int), 0)], F10) ⟨e10, by omega, ⟨[], hM10, MpF.nil⟩, hP10, fun k hk => (f10 k hk).elim (fun h => f8 k h) fun h => by omega, Dij.begin hs ok.m⟩ ?_
  rintro ⟨f, L, G⟩ ⟨⟩ w13 ⟨e13, z13, ⟨mm, hM13, hmp⟩, hP13, f13, hD⟩ J1 hJ1
  simp only at hmp hP13 f13 hD hJ1
  by_cases hL : L = []
  · subst hL
    refine Pop_no hP13 ?_
    simp only [Bool.not_false, cond_true]
    exact hk r mm w13 e13 hM13 (by omega) (hmp.congr fun v hv => (hD.done hpos hdom hv).uniq (clF_is fit hs v))
  refine Pop_ok hP13 hL fun m w17 G17 hm c17 f17 hP17 => ?_
  simp only [Bool.not_true, cond_false]
  have z17 := c17.size
  obtain ⟨hmin, hmL⟩ := least_le hm
  obtain ⟨h0, h1, h2, h3, h4⟩ := hD.o m hmin
  have f17' : ∀ k, G17 k → w2.heap.size ≤ k := fun k hk => by
    rcases f17 k hk with h | h
    · exact f13 k h
    · omega
  have e17 : Ext w w17 := ext_chg e13 c17 fun k hk => by have := f13 k hk; omega
  have hM17 : MapIs false 1 w17 r mm := hM13.same (c17.block r (by omega) fun h => by have := f13 r h; omega)
  obtain ⟨hDP, _, hcnt⟩ := hD.pop hpos hdom hmin hmL (L' := rid L m.1) fun e => rid_mem
  obtain ⟨c, hc0⟩ := Int.eq_ofNat_of_zero_le h0
  have hc1 : m.1.toNat = c := by omega
  rw [hc1] at hDP hcnt h1
  rw [hc0]
  have hm0 : 0 ≤ m.2 := h3.nonneg hpos
  have hk2 := hD.kb hmin
  have hb := ok.b
  refine ⟨r, rfl, mm, hM17, fun w18 o18 hM18 => ?_⟩
  have z18 := o18.size
  have hmp := hmp.set h1 hm0
  have e18 : Ext w w18 := ext_off e17 o18 g2
  have hP18 : HeapA w18 p7 rank.length (rid L m.1) G17 := hP17.chg (G := fun k => k = r) (.of_off o18 rfl) fun k h1 h2 => by have := f17' k h1; omega
  have hH18 := hH.ext e18
  have hfc : up1 f c m.2 c = m.2 := up1_at
  have hcn := cntR_le (up1 f c m.2) rank.length
  refine Rank_ok hH18 ?_
  rw [hrk c h1, Bool.cond_decide]
  by_cases htop : rkA rank (c : Int) ≥ top
  · rw [if_pos htop]
    refine hJ1 (up1 f c m.2, rid L m.1, G17) () w18 ⟨e18, by omega, ⟨_, hM18, hmp⟩, hP18, f17', hDP.done fun v x ⟨_, e, he, _⟩ => ?_⟩ (by simp only; omega)
    unfold edS at he
    rw [if_neg (by omega)] at he
    simp at he
  rw [if_neg htop]
  have hed : edS rank ways top back c = if back = true then dnF rank ways (c : Int) else upF rank ways (c : Int) := by unfold edS; rw [if_pos (by omega)]
  have call : ∀ K' : Value → World → Prop, (∀ t w'', Ext w18 w'' → Own RD w'' t (edS rank ways top back c) → Fsh w18 t → K' (.slice t.a t.len t.cap) w'') → CV (upV back) [.pointer p, .int .i64 (c : Int)] K' w18 := fun K' hK' => by
    rw [hed] at hK'
    unfold upV
    cases back with
    | true => exact hcv.dn p _ _ _ (Down_ok hH18 fun t w'' e h f => hK' t w'' e h f)
    | false => exact hcv.up p _ _ _ (Up_ok hH18 fun t w'' e h f => hK' t w'' e h f)
  refine call _ fun s21 w23 e23 hO23 f23 => ⟨s21, rfl, ?_⟩
  have z23 := e23.size
  have l21 := hO23.view.len
  have hel := ok.l c h1
  have lr' : r < w18.heap.size := by omega
  refine LoopT.gh (γ := Nat × List (Int × Int) × (Nat → Prop)) (fun gh (st : Int × Unit) w' => st.1 = gh.1 ∧ gh.1 ≤ (edS rank ways top back c).length ∧ Ext w w' ∧ w23.heap.size ≤ w'.heap.size ∧ MapIs false 1 w' r (upd mm [(c : Int)] (.int .i64 m.2)) ∧ HeapA w' p7 rank.length gh.2.1 gh.2.2 ∧ (∀ k, gh.2.2 k → w2.heap.size ≤ k) ∧ Own RD w' s21 (edS rank ways top back c) ∧ Dj gh.2.2 s21.blk ∧
      DijP (ES rank ways top back) rank.length s 1125899906842624 (up1 f c m.2) gh.2.1 c (fun v x => ∃ j, ∃ hj : j < (edS rank ways top back c).length, j < gh.1 ∧ ((edS rank ways top back c)[j]).1 = (v : Int) ∧ ((edS rank ways top back c)[j]).2.1 = x)) (fun gh => (edS rank ways top back c).length - gh.1)
    (0, rid L m.1, G17) ⟨rfl, Nat.zero_le _, e18.trans e23, Nat.le_refl _, hM18.grow e23, hP18.ext e23, f17', hO23, fun k h1 h2 => by have := hP18.lt h1; have := f23 k h2; omega, hDP.mono fun v x h => by obtain ⟨j, _, hj, _⟩ := h; omega⟩ ?_
  rintro ⟨i, L1, F1⟩ ⟨x, _⟩ w26 ⟨hx, hi, e26, z26, hM26, hP26, f26, hE26, dj26, hD26⟩ J2 hJ2
  simp only at hx hi hP26 f26 dj26 hD26 hJ2; subst hx
  dsimp only
  rw [Bool.cond_decide]
  by_cases hc : (i : Int) < (s21.len : Int)
  · rw [if_pos hc]
    have hi' : i < (edS rank ways top back c).length := by omega
    obtain ⟨q0, q1, q2, q3⟩ := ok.e c h1 _ (List.getElem_mem hi')
    obtain ⟨v, hv⟩ := Int.eq_ofNat_of_zero_le q0
    have hvn : v < rank.length := by omega
    have hEv : ES rank ways top back c v ((edS rank ways top back c)[i]).2.1 := ⟨h1, _, List.getElem_mem hi', hv, rfl⟩
    refine do_idx hE26.view hi' fun _ a0 a1 a2 => ⟨_, a0, _, a1, _, a2, ?_⟩
    intro b31 w32 e32 g31 g31' w33 o33
    have z32 := e32.size; have z33 := o33.size
    have nb : ¬ F1 b31 := fun h => by have := hP26.lt h; omega
    have hP33 : HeapA w33 p7 rank.length L1 F1 := (hP26.ext e32).chg (G := fun k => k = b31) (.of_off o33 rfl) fun k h1 h2 => nb (h2 ▸ h1)
    have e33 : Ext w w33 := ext_off (e26.trans e32) o33 (by have := e26.size; omega)
    have hM33 : MapIs false 1 w33 r (upd mm [(c : Int)] (.int .i64 m.2)) := (hM26.grow e32).same (o33.block r (by omega))
    have hE33 : Own RD w33 s21 (edS rank ways top back c) := (hE26.ext e32).off o33 fun h => by have := hE26.lt h; omega
    have hle := hD26.le q3
    rw [hfc] at hle
    have wrap : IntKind.i64.wrap (m.2 + ((edS rank ways top back c)[i]).2.1) = m.2 + ((edS rank ways top back c)[i]).2.1 := w64 (by omega) (by omega)
    rw [wrap, hv]
    have next : ∀ (L2 : List (Int × Int)) (F2 : Nat → Prop) (w' : World), Ext w w' → w23.heap.size ≤ w'.heap.size → MapIs false 1 w' r (upd mm [(c : Int)] (.int .i64 m.2)) → HeapA w' p7 rank.length L2 F2 → (∀ k, F2 k → w2.heap.size ≤ k) → Own RD w' s21 (edS rank ways top back c) → Dj F2 s21.blk →
        DijP (ES rank ways top back) rank.length s 1125899906842624 (up1 f c m.2) L2 c (fun v' x' => (∃ j, ∃ hj : j < (edS rank ways top back c).length, j < i ∧ ((edS rank ways top back c)[j]).1 = (v' : Int) ∧ ((edS rank ways top back c)[j]).2.1 = x') ∨ v' = v ∧ x' = ((edS rank ways top back c)[i]).2.1) → J2 (IntKind.i64.wrap ((i : Int) + 1), ()) w' := fun L2 F2 w' q1 q2 q3 q4 q5 q6 q7 q8 =>
      hJ2 (i + 1, L2, F2) _ _ ⟨wsucc (m := 2 ^ 40) (by omega) (by omega), by simp only; omega, q1, q2, q3, q4, q5, q6, q7, q8.mono fun v' x' ⟨j, hj, hji, r1, r2⟩ => by
        by_cases e : j = i
        · subst e; right; exact ⟨by omega, r2.symm⟩
        · left; exact ⟨j, hj, by simp only at hji; omega, r1, r2⟩⟩ (by simp only; omega)
    have set : ∀ (w39 : World), Ext w33 w39 → (∀ k, ((v : Int), k) ∈ L1 → m.2 + ((edS rank ways top back c)[i]).2.1 ≤ k) → up1 f c m.2 v = -1 → sh_heap_Heap_Set p7 (v : Int) (m.2 + ((edS rank ways top back c)[i]).2.1) (fun t42 w43 => (Keeps [b31] w39 w43 ∧ (J2 ((IntKind.i64.wrap ((i : Int) + (1 : Int))), ()) w43))) w39 := fun w39 e39 hb' hf => by
      have z39 := e39.size
      refine Set_ok (hP33.ext e39) (by omega) (by omega) fun w43 F43 c43 f43 hP43 => ⟨kc1 c43 (by omega) nb, ?_⟩
      have z43 := c43.size
      refine next _ F43 w43 (ext_chg (e33.trans e39) c43 fun k hk => by have := f26 k hk; omega) (by omega) ((hM33.grow e39).same (c43.block r (by omega) fun h => by have := f26 r h; omega)) hP43 (fun k hk => ?_) ((hE33.ext e39).chg c43 fun k h1 h2 => dj26 k h2 h1) (fun k hk h2 => ?_) ?_
      · rcases f43 k hk with h | h
        · exact f26 k h
        · omega
      · rcases f43 k hk with h | h
        · exact dj26 k h h2
        · have := hE26.lt h2; omega
      · refine hD26.set hvn hEv q3 hf (fun k hk => by rw [hfc]; exact hb' k hk) fun e => ?_
        rw [List.mem_cons, rid_mem, hfc]
    have skip : ∀ (w39 : World), Ext w33 w39 → (0 ≤ up1 f c m.2 v ∨ ∃ k, ((v : Int), k) ∈ L1 ∧ k ≤ m.2 + ((edS rank ways top back c)[i]).2.1) → J2 ((IntKind.i64.wrap ((i : Int) + (1 : Int))), ()) w39 := fun w39 e39 hsk => by
      have z39 := e39.size
      exact next L1 F1 w39 (e33.trans e39) (by omega) (hM33.grow e39) (hP33.ext e39) f26 (hE33.ext e39) dj26 (hD26.skip (by rw [hfc]; exact hsk))
    have hval : up1 f c m.2 v = -1 ∨ 0 ≤ up1 f c m.2 v := by
      rcases hD26.d v hvn with h | ⟨_, h, _⟩
      · exact .inl h
      · exact .inr h
    have look := hmp.at hvn
    refine Key_ok hP33 (fun key hin w39 e39 => ⟨kp1 e39 (by omega), ?_⟩) (fun hno => ⟨kp0_1 _ _, ?_⟩)
    · refine ⟨_, hM33.grow e39, ?_⟩
      rw [look]
      rcases hval with h | h
      · rw [if_neg (by omega)]
        refine ⟨0, rfl, ?_⟩
        simp only [Option.isSome_none, Bool.not_false, Bool.not_true, cond_false, cond_true]
        rw [Bool.cond_decide]
        by_cases hlt : m.2 + ((edS rank ways top back c)[i]).2.1 < key
        · rw [if_pos hlt]
          exact set w39 e39 (fun k hk => by rw [hP33.uniq hk hin]; omega) h
        · rw [if_neg hlt]
          exact skip w39 e39 (.inr ⟨key, hin, by omega⟩)
      · rw [if_pos h]
        refine ⟨_, rfl, ?_⟩
        simp only [Option.isSome_some, Bool.not_true, cond_false]
        exact skip w39 e39 (.inl h)
    · refine ⟨_, hM33, ?_⟩
      rw [look]
      rcases hval with h | h
      · rw [if_neg (by omega)]
        refine ⟨0, rfl, ?_⟩
        simp only [Option.isSome_none, Bool.not_false, cond_true]
        exact set w33 (.refl _) (fun k hk => absurd hk (hno k)) h
      · rw [if_pos h]
        refine ⟨_, rfl, ?_⟩
        simp only [Option.isSome_some, Bool.not_true, cond_false]
        exact skip w33 (.refl _) (.inl h)
  · rw [if_neg hc]
    have : i = (edS rank ways top back c).length := by omega
    subst this
    refine hJ1 (up1 f c m.2, L1, F1) () w26 ⟨e26, by omega, ⟨_, hM26, hmp⟩, hP26, f26, hD26.done fun v x ⟨_, e, he, r1, r2⟩ => ?_⟩ (by simp only; omega)
    obtain ⟨j, hj, rfl⟩ := List.getElem_of_mem he
    exact ⟨j, hj, hj, r1, r2⟩
end
end Go.Sh

/- A stable counting sort, in plain lists; arrays told by functions. -/
set_option maxRecDepth 100000
namespace Go.Sh
open Go.RowKit

def sortedL (n : Nat) (l : List Nat) (e : Nat → Nat) : List Nat := (List.range n).flatMap fun v => l.filter (e · == v)
def pre (l : List Nat) (e : Nat → Nat) (v : Nat) : Nat := (sortedL v l e).length

end Go.Sh

/- Maps and what of them counts, in plain lists. -/
set_option maxRecDepth 100000
namespace Go.Sh
open Go.RowKit

abbrev Arc := Int × Int × Int
def arcA (arcs : List Arc) (k : Nat) : Arc := arcs.getD k (0, 0, 0)
def frA (arcs : List Arc) (k : Nat) : Nat := (arcA arcs k).1.toNat
def toA (arcs : List Arc) (k : Nat) : Nat := (arcA arcs k).2.1.toNat
def wtA (arcs : List Arc) (k : Nat) : Int := (arcA arcs k).2.2
section
variable {n : Int} {arcs : List Arc}
end

/-- The same ends. -/
def Same (arcs : List Arc) (i k : Nat) : Prop := frA arcs i = frA arcs k ∧ toA arcs i = toA arcs k
/-- One arc is less. -/
def Less (arcs : List Arc) (i k : Nat) : Prop := wtA arcs i < wtA arcs k ∨ wtA arcs i = wtA arcs k ∧ i < k
instance (arcs : List Arc) (i k : Nat) : Decidable (Same arcs i k) := by unfold Same; infer_instance
instance (arcs : List Arc) (i k : Nat) : Decidable (Less arcs i k) := by unfold Less; infer_instance
/-- It counts. -/
def Kept (arcs : List Arc) (k : Nat) : Prop := frA arcs k ≠ toA arcs k ∧ ∀ i, i < arcs.length → Same arcs i k → ¬ Less arcs i k
instance (arcs : List Arc) (k : Nat) : Decidable (Kept arcs k) := by unfold Kept; infer_instance
end Go.Sh

/- The graph's counting sort. -/
set_option maxRecDepth 100000
namespace Go.Sh
open Go.RowKit

end Go.Sh

/- The graph's inner functions. -/
set_option maxRecDepth 100000
namespace Go.Sh
open Go.RowKit

def bl (n : Nat) (c : Nat → Bool) : List Bool := (List.range n).map c
section
variable {w : World} {s : SV} {arcs : List Arc} {N : Int}

end

end Go.Sh

/- The graph's sides, and which arcs count, as they are laid. -/
set_option maxRecDepth 100000
namespace Go.Sh
open Go.RowKit

end Go.Sh

/- A graph in memory; New and Kept. -/
set_option maxRecDepth 100000
namespace Go.Sh
open Go.RowKit

def gF (gb : Nat) (sA f1 e1 f2 e2 sc : SV) (k : Nat) : Prop := k = gb ∨ sA.blk k ∨ f1.blk k ∨ e1.blk k ∨ f2.blk k ∨ e2.blk k ∨ sc.blk k
section
variable {w w' : World} {p : Option Addr} {N : Int} {arcs : List Arc} {F : Nat → Prop}
end

section
variable {w0 w w' : World} {b1 b11 D : Nat} {s5 s9 : SV} {n : Nat} {arcs : List Arc} {c : Nat → Bool}
end

end Go.Sh

/- The graph's methods. -/
set_option maxRecDepth 100000
namespace Go.Sh
open Go.RowKit

section
variable {w w' : World} {p : Option Addr} {N : Int} {arcs : List Arc} {F : Nat → Prop}

end
end Go.Sh

/- What the laws of the graph lean on. -/
set_option maxRecDepth 100000
namespace Go.Sh
open Go.RowKit

section
variable {w : World}

end
end Go.Sh

/- The maps' reference: which arcs count, and the edges out of a place; what is only laid. -/
set_option maxRecDepth 100000
namespace Go.Sh
open Go.RowKit

/-- A slice that grows: what is laid behind it is of its own. -/
structure Acc {α : Type} (R : Rc α) (w0 : World) (n : Nat) (w : World) (s : SV) (xs : List α) : Prop where
  e : Ext w0 w
  m : w0.heap.size ≤ n
  z : n ≤ w.heap.size
  o : Own R w s xs
  f : ∀ k, s.blk k → n ≤ k
section
variable {α : Type} {R : Rc α} {w0 w w' w'' : World} {n : Nat} {s : SV} {xs : List α}
theorem Acc.nil (e : Ext w0 w) (m : w0.heap.size ≤ n) (z : n ≤ w.heap.size) : Acc R w0 n w ⟨none, 0, 0⟩ [] := ⟨e, m, z, Own.nil, fun _ ⟨_, h, _⟩ => by cases h⟩
theorem Acc.ext (h : Acc R w0 n w s xs) (e : Ext w w') : Acc R w0 n w' s xs := ⟨h.e.trans e, h.m, Nat.le_trans h.z e.size, h.o.ext e, h.f⟩
/-- .. that was laid since. -/
theorem Acc.off' (h : Acc R w0 n w s xs) {b : Nat} (e : Ext w w') (o : Off b w' w'') (hb : w.heap.size ≤ b) : Acc R w0 n w'' s xs := h.ext (ext_off e o hb)
theorem Acc.push (h : Acc R w0 n w s xs) {x : α} {bytes : Nat} (hb : (xs.length + 1) * bytes ≤ 2 ^ 47) (hn : xs.length + 1 < 2 ^ 62) {K : World → SV → World → Prop}
    (hk : ∀ w2 s' w', Ext w w2 → Chg s.blk w2 w' → (∀ k, s'.blk k → s.blk k ∨ w.heap.size ≤ k) → Acc R w0 n w' s' (xs ++ [x]) → K w2 s' w') :
    NewB (R.enc x) w (fun b w2 => App bytes (R.enc R.z) s ⟨some ⟨b, 0, none⟩, 1, 1⟩ w2 (fun s' w' => K w2 s' w')) :=
  push_ok h.o hb hn fun w2 s' w' e2 c hs hO => hk w2 s' w' e2 c hs ⟨ext_chg (h.e.trans e2) c fun k hk => Nat.le_trans h.m (h.f k hk), h.m, Nat.le_trans h.z (Nat.le_trans e2.size c.size), hO, fun k hk => by
    rcases hs k hk with h1 | h1
    · exact h.f k h1
    · exact Nat.le_trans h.z h1⟩
end

section
variable {w : World}

end
end Go.Sh

/- What is reached, told as rows; Within, Forward, Back, Find. -/
set_option maxRecDepth 100000
namespace Go.Sh
open Go.RowKit

/-- What is gathered. -/
def gthL (g : Nat → Int × Int × Bool) : Nat → List (Int × Int)
  | 0 => []
  | n + 1 => if (g n).2.2 = true then gthL g n ++ [((g n).1, (g n).2.1)] else gthL g n
theorem gthL_succ (g : Nat → Int × Int × Bool) (n : Nat) : gthL g (n + 1) = if (g n).2.2 = true then gthL g n ++ [((g n).1, (g n).2.1)] else gthL g n := rfl
theorem gthL_len (g : Nat → Int × Int × Bool) (n : Nat) : (gthL g n).length ≤ n := by
  induction n with
  | zero => exact Nat.le_refl _
  | succ n ih =>
    rw [gthL_succ]; split
    · simp only [List.length_append, List.length_cons, List.length_nil]; omega
    · omega
theorem gthL_mem {g : Nat → Int × Int × Bool} {n : Nat} {e : Int × Int} : e ∈ gthL g n ↔ ∃ v, v < n ∧ (g v).2.2 = true ∧ e = ((g v).1, (g v).2.1) := by
  induction n with
  | zero => simp [gthL]
  | succ n ih =>
    have key : e ∈ gthL g (n + 1) ↔ e ∈ gthL g n ∨ ((g n).2.2 = true ∧ e = ((g n).1, (g n).2.1)) := by
      rw [gthL_succ]; split
      · rename_i h; rw [List.mem_append, List.mem_singleton]; exact or_congr Iff.rfl ⟨fun q => ⟨h, q⟩, fun q => q.2⟩
      · rename_i h; exact ⟨.inl, fun q => q.elim id fun q => absurd q.1 h⟩
    rw [key, ih]
    constructor
    · rintro (⟨v, h1, h2⟩ | h)
      · exact ⟨v, by omega, h2⟩
      · exact ⟨n, by omega, h⟩
    · rintro ⟨v, h1, h2⟩
      by_cases e : v = n
      · subst e; exact .inr h2
      · exact .inl ⟨v, by omega, h2⟩
/-- .. places by number, as far as f, of those that a test takes. -/
def rowsL (n : Nat) (f : Nat → Int) (q : Nat → Bool) : List (Int × Int) := gthL (fun v => ((v : Int), (if 0 ≤ f v then f v else 0), decide (0 ≤ f v) && q v)) n
theorem rowsL_len (n : Nat) (f : Nat → Int) (q : Nat → Bool) : (rowsL n f q).length ≤ n := gthL_len _ _
theorem rowsL_mem {n : Nat} {f : Nat → Int} {q : Nat → Bool} {e : Int × Int} : e ∈ rowsL n f q ↔ ∃ v : Nat, v < n ∧ 0 ≤ f v ∧ q v = true ∧ e = ((v : Int), f v) := by
  unfold rowsL
  rw [gthL_mem]
  refine exists_congr fun v => and_congr Iff.rfl ?_
  simp only [Bool.and_eq_true, decide_eq_true_iff]
  exact ⟨fun ⟨⟨h1, h2⟩, h3⟩ => ⟨h1, h2, by rw [h3, if_pos h1]⟩, fun ⟨h1, h2, h3⟩ => ⟨⟨h1, h2⟩, by rw [h3, if_pos h1]⟩⟩
theorem rowsL_succ (n : Nat) (f : Nat → Int) (q : Nat → Bool) : rowsL (n + 1) f q = if 0 ≤ f n ∧ q n = true then rowsL n f q ++ [((n : Int), f n)] else rowsL n f q := by
  unfold rowsL
  rw [gthL]
  by_cases h : 0 ≤ f n ∧ q n = true
  · rw [if_pos h, if_pos (by simp only [h.1, h.2, decide_true, Bool.and_self]), if_pos h.1]
  · rw [if_neg h, if_neg (by simp only [Bool.and_eq_true, decide_eq_true_iff]; exact h)]
theorem rowsL_pw (n : Nat) (f : Nat → Int) (q : Nat → Bool) : (rowsL n f q).Pairwise fun a b => a.1 < b.1 := by
  induction n with
  | zero => exact List.Pairwise.nil
  | succ n ih =>
    rw [rowsL_succ]
    split
    · rw [List.pairwise_append]
      refine ⟨ih, List.pairwise_singleton _ _, fun a ha b hb => ?_⟩
      obtain ⟨v, hv, _, _, rfl⟩ := rowsL_mem.1 ha
      rw [List.mem_singleton] at hb; subst hb
      simp only; omega
    · exact ih

/-- What is known of the tests. -/
structure MayCV (CV : CVT) : Prop where
  all : ∀ r K w, sh_space_all r (fun t w' => K (.bool t) w') w → CV (.func (.func fn_space_all) #[] #[]) [.int .i64 r] K w
structure SpaceCV (CV : CVT) : Prop where
  way : WayCV CV
  rows : ∃ CV1, MayCV CV1 ∧ ∀ v a b c K w, sh_space_rows_c1 CV1 v a b c (fun x y t w' => K (.tuple #[.agg #[.int .i64 x, .int .i64 y], .bool t]) w') w →
    CV (.func (.func fn_space_rows_c1) #[] #[.pointer (some a), .pointer (some b), .pointer (some c)]) [.int .i64 v] K w

section
variable {CV : CVT} {w : World} {p : Option Addr} {rank : List Int} {ways : List Wy} {F : Nat → Prop}

theorem gather_ok {n : Nat} {one : Value} {g : Nat → Int × Int × Bool} {K : SV → World → Prop} (hn : n < 2 ^ 40)
    (hone : ∀ i : Nat, i < n → ∀ w', Ext w w' → ∀ K' : Value → World → Prop, (∀ w'', Ext w' w'' → K' (.tuple #[.agg #[.int .i64 (g i).1, .int .i64 (g i).2.1], .bool (g i).2.2]) w'') → CV one [.int .i64 (i : Int)] K' w')
    (hk : ∀ s w', Ext w w' → Own RE w' s (gthL g n) → Fsh w s → K s w') : sh_space_gather_Reach CV (n : Int) one K w := by
  unfold sh_space_gather_Reach
  refine LoopT.gh (γ := Nat) (fun i (st : SV × Int × Unit) w' => st.2.1 = i ∧ i ≤ n ∧ Acc RE w w.heap.size w' st.1 (gthL g i)) (fun i => n - i) 0 ⟨rfl, Nat.zero_le _, Acc.nil (.refl _) (Nat.le_refl _) (Nat.le_refl _)⟩ ?_
  rintro i ⟨s, x, _⟩ w3 ⟨hx, hi, hA⟩ J1 hJ1
  simp only at hx hA; subst hx
  dsimp only
  have hgl := gthL_len g i
  rw [Bool.cond_decide]
  by_cases hc : (i : Int) < (n : Int)
  · rw [if_pos hc]
    refine hone i (by omega) w3 hA.e _ fun w8 e8 => ⟨_, _, _, rfl, ?_⟩
    intro b9 w10 e10 g9 g9' w11 o11
    have z8 := e8.size; have z10 := e10.size; have z11 := o11.size
    have hA1 := (hA.ext e8).off' e10 o11 g9
    by_cases hg : (g i).2.2 = true
    · rw [hg, cond_true]
      refine hA1.push (R := RE) (x := ((g i).1, (g i).2.1)) (by omega) (by omega) fun w13 s14 w15 e13 c15 _ hA2 => ?_
      have z13 := e13.size
      refine ⟨kp_chg c15 fun b hb => ?_, ?_⟩
      · simp only [List.mem_cons, List.not_mem_nil, or_false] at hb; subst hb
        exact ⟨by omega, fun hk => by have := hA.o.lt hk; omega⟩
      · refine hJ1 (i + 1) _ _ ⟨wsucc (m := 2 ^ 40) (by omega) (by omega), by omega, ?_⟩ (by omega)
        rw [gthL_succ, if_pos hg]; exact hA2
    · have hg' := hg
      rw [Bool.not_eq_true] at hg'
      rw [hg', cond_false]
      refine hJ1 (i + 1) _ _ ⟨wsucc (m := 2 ^ 40) (by omega) (by omega), by omega, ?_⟩ (by omega)
      rw [gthL_succ, if_neg hg]; exact hA1
  · rw [if_neg hc]
    have : i = n := by omega
    subst this
    exact hk s w3 hA.e hA.o hA.f

theorem rowsc_ok {CV1 : CVT} {bm bq bh r v : Nat} {may : Value} {f : Nat → Int} {q : Nat → Bool} {mm : List (List Int × Value)} {K : Int → Int → Bool → World → Prop} (hH : HierA w p rank ways F)
    (hb1 : Blk w bm [.map (some r)]) (hb2 : Blk w bq [may]) (hb3 : Blk w bh [.pointer p]) (hM : MapIs false 1 w r mm) (hmp : MpF rank.length f mm) (hv : v < rank.length)
    (hmay : ∀ w', Ext w w' → ∀ K' : Value → World → Prop, (∀ w'', Ext w' w'' → K' (.bool (q v)) w'') → CV1 may [.int .i64 (rkA rank (v : Int))] K' w')
    (hk : ∀ w', Ext w w' → K (v : Int) (if 0 ≤ f v then f v else 0) (decide (0 ≤ f v) && q v) w') : sh_space_rows_c1 CV1 (v : Int) ⟨bm, 0, none⟩ ⟨bq, 0, none⟩ ⟨bh, 0, none⟩ K w := by
  unfold sh_space_rows_c1
  intro b1 w2 e2 g1 g1'
  have z2 := e2.size
  refine ⟨some r, by rw [cell_blk (e2.blkE hb1)]; rfl, mm, hM.grow e2, ?_⟩
  rw [hmp.at hv]
  by_cases hf : 0 ≤ f v
  · rw [if_pos hf]
    refine ⟨f v, rfl, ?_⟩
    rw [Option.isSome_some, cond_true]
    refine ⟨may, by rw [cell_blk (e2.blkE hb2)]; rfl, p, by rw [cell_blk (e2.blkE hb3)]; rfl, ?_⟩
    refine Rank_quiet (hH.ext e2) ?_
    intro w14 e14
    have z14 := e14.size
    rw [show rankF rank (v : Int) = rkA rank (v : Int) by unfold rankF; rw [if_pos (by omega)]]
    refine hmay w14 (e2.trans e14) _ fun w15 e15 => ⟨q v, rfl, kp1 e15 (by omega), fun w16 e16 w17 o17 w18 e18 => ?_⟩
    have := hk w18 ((ext_off (((e2.trans e14).trans e15).trans e16) o17 g1).trans e18)
    rw [if_pos hf, decide_eq_true hf, Bool.true_and] at this
    exact this
  · rw [if_neg hf]
    refine ⟨0, rfl, ?_⟩
    rw [Option.isSome_none, cond_false]
    intro w19 e19 w20 o20 w21 e21
    have := hk w21 ((ext_off (e2.trans e19) o20 g1).trans e21)
    rw [if_neg hf, decide_eq_false hf, Bool.false_and] at this
    exact this

theorem rows_ok (hcv : ∃ CV1, MayCV CV1 ∧ ∀ v a b c K w, sh_space_rows_c1 CV1 v a b c (fun x y t w' => K (.tuple #[.agg #[.int .i64 x, .int .i64 y], .bool t]) w') w →
      CV (.func (.func fn_space_rows_c1) #[] #[.pointer (some a), .pointer (some b), .pointer (some c)]) [.int .i64 v] K w)
    {r : Nat} {may : Value} {f : Nat → Int} {q : Nat → Bool} {mm : List (List Int × Value)} {K : SV → World → Prop} (hH : HierA w p rank ways F) (hn : rank.length < 2 ^ 40) (hM : MapIs false 1 w r mm) (hmp : MpF rank.length f mm) (hbox : ∀ k : Prop, k → BoxV may k)
    (hmay : ∀ CV1, MayCV CV1 → ∀ v, v < rank.length → ∀ w', Ext w w' → ∀ K' : Value → World → Prop, (∀ w'', Ext w' w'' → K' (.bool (q v)) w'') → CV1 may [.int .i64 (rkA rank (v : Int))] K' w')
    (hk : ∀ s w', Ext w w' → Own RE w' s (rowsL rank.length f q) → Fsh w s → K s w') : sh_space_rows CV p (some r) may K w := by
  unfold sh_space_rows
  obtain ⟨CV1, hmv, hrows⟩ := hcv
  intro b1 w2 e2 g1 g1' b3 w4 e4 g3 g3'
  refine hbox _ ?_
  intro b5 w6 e6 g5 g5'
  have e06 := (e2.trans e4).trans e6
  refine HN_ok (hH.ext e06) ⟨fun _ _ => rfl, fun hb3 hb5 hb1 => ?_⟩
  refine gather_ok hn (g := fun v => ((v : Int), (if 0 ≤ f v then f v else 0), decide (0 ≤ f v) && q v)) (fun i hi w' e K' hK' => ?_) fun s w' e hO hF => hk s w' (e06.trans e) hO (hF.ext e06)
  refine hrows _ _ _ _ _ _ (rowsc_ok (hH.ext (e06.trans e)) (e.blkE hb3) (e.blkE hb5) (e.blkE hb1) (hM.grow (e06.trans e)) hmp hi (fun w'' e' K'' hK'' => hmay CV1 hmv i hi w'' ((e06.trans e).trans e') K'' hK'') fun w'' e' => hK' w'' e')

theorem climb_all (hcv : WayCV CV) {s top : Int} {back : Bool} {K : Option Nat → World → Prop} (hH : HierA w p rank ways F) (fit : FitH rank ways)
    (hk : ∀ r mm w', Ext w w' → MapIs false 1 w' r mm → w.heap.size ≤ r → MpF rank.length (clF rank ways top back s) mm → K (some r) w') : sh_space_climb CV p s top (upV back) K w := by
  by_cases hs : 0 ≤ s ∧ s < rank.length
  · obtain ⟨k, rfl⟩ := Int.eq_ofNat_of_zero_le hs.1
    exact climb_ok hcv hH fit (by omega) hk
  · exact climb_no hH hs fun r w' e hM g => hk r [] w' e hM g (MpF.nil.congr fun v _ => (clF_no hs v).symm)

theorem Side_ok (hcv : SpaceCV CV) {s : Int} {back : Bool} {K : SV → World → Prop} (hH : HierA w p rank ways F) (fit : FitH rank ways)
    (hk : ∀ s1 w', Ext w w' → Own RE w' s1 (rowsL rank.length (clF rank ways rank.length back s) fun _ => true) → Fsh w s1 → K s1 w') :
    sh_space_climb CV p s (rank.length : Int) (upV back) (fun m3 w4 => sh_space_rows CV p m3 (Value.func (.func fn_space_all) #[] #[]) (fun s5 w6 => K s5 w6) w4) w := by
  have hn := fit.n
  refine climb_all hcv.way hH fit fun r mm w7 e7 hM g7 hmp => ?_
  refine rows_ok hcv.rows (q := fun _ => true) (hH.ext e7) (by omega) hM hmp (fun _ h => h) (fun CV1 hmv v hv w' e K' hK' => ?_) fun s8 w9 e9 hO8 f8 => hk s8 w9 (e7.trans e9) hO8 (f8.ext e7)
  refine hmv.all _ _ _ ?_
  unfold sh_space_all
  exact hK' w' (.refl _)
theorem Forward_ok (hcv : SpaceCV CV) {s : Int} {K : SV → World → Prop} (hH : HierA w p rank ways F) (fit : FitH rank ways)
    (hk : ∀ s1 w', Ext w w' → Own RE w' s1 (rowsL rank.length (clF rank ways rank.length false s) fun _ => true) → Fsh w s1 → K s1 w') : sh_space_Forward CV p s K w := by
  unfold sh_space_Forward
  exact HN_ok hH (Side_ok (back := false) hcv hH fit hk)
theorem Back_ok (hcv : SpaceCV CV) {s : Int} {K : SV → World → Prop} (hH : HierA w p rank ways F) (fit : FitH rank ways)
    (hk : ∀ s1 w', Ext w w' → Own RE w' s1 (rowsL rank.length (clF rank ways rank.length true s) fun _ => true) → Fsh w s1 → K s1 w') : sh_space_Back CV p s K w := by
  unfold sh_space_Back
  exact HN_ok hH (Side_ok (back := true) hcv hH fit hk)

theorem re_idx {s : SV} {xs : List (Int × Int)} (h : View RE w s xs) {i : Nat} (hl : i < xs.length) {K : Addr → Prop}
    (hk : ∀ a, w.cell? (a.add 0) = some (.int .i64 xs[i].1) → w.cell? (a.add 1) = some (.int .i64 xs[i].2) → K a) : Idx s.a s.len (i : Int) 2 K := by
  refine View.idx (R := RE) h (by omega) (by simpa using hl) fun a _ hc => ?_
  simp only [Int.toNat_natCast] at hc
  exact hk a (hc 0 _ rfl) (hc 1 _ rfl)

end
end Go.Sh

/- Places are taken one by one; ways stand in for what goes through them: in plain lists. -/
set_option maxRecDepth 100000
namespace Go.Sh

section
variable {E : Nat → Nat → Int → Prop} {arcs : List (Int × Int × Int)} {n k : Nat} {B : Int} {L H N L1 : List Wy} {r : Nat → Int} {v : Nat}

end
end Go.Sh

/- When all places are taken: the hierarchy may be, and is as far as the map. -/
set_option maxRecDepth 100000
namespace Go.Sh

/-- A map's edges: its arcs. -/
def EA (arcs : List (Int × Int × Int)) (u v : Nat) (x : Int) : Prop := ∃ k : Nat, arcs[k]? = some ((u : Int), (v : Int), x)
end Go.Sh

/- What is left of a map: laid, and read. -/
set_option maxRecDepth 100000
namespace Go.Sh
open Go.RowKit

section
variable {w w' : World} {n : Nat} {sI sL sO : SV} {inn lost : Nat → Int} {L : List Wy}
end
end Go.Sh

/- Which place is taken next. -/
set_option maxRecDepth 100000
namespace Go.Sh
open Go.RowKit

section
variable {w w' : World} {n : Nat} {sI sL sO : SV} {inn lost : Nat → Int} {L : List Wy}
end
end Go.Sh

/- Is there a way around? -/
set_option maxRecDepth 100000
namespace Go.Sh
open Go.RowKit

theorem Acc.wr {w0 w : World} {n0 n i : Nat} {s : SV} {f : Nat → Int} (h : Acc RI w0 n0 w s (fi n f)) (hi : i < n) {K : Addr → Prop}
    (hk : ∀ a, (∀ (w1 : World) (v : Int) (K' : World → Prop), Ext w w1 → (∀ w', Chg s.blk w1 w' → Acc RI w0 n0 w' s (fi n (up1 f i v)) → K' w') → stL w1 a [.int .i64 v] 0 K') → K a) :
    Idx s.a s.len (i : Int) 1 K :=
  fi_wr h.o hi fun a put => hk a fun w1 v K' e hK' => put w1 v K' (h.o.ext e) fun w' c hO => hK' w' c
    ⟨ext_chg (h.e.trans e) c fun k hk => Nat.le_trans h.m (h.f k hk), h.m, Nat.le_trans h.z (Nat.le_trans e.size c.size), hO, h.f⟩

section
variable {w w' : World} {n : Nat} {sI sL sO : SV} {inn lost : Nat → Int} {L : List Wy}
end
end Go.Sh

/- The reference of space: Fit, Climb, Rows, Above, Same. -/
set_option maxRecDepth 100000
namespace Go.Sh
open Go.RowKit

def endU (back : Bool) (y : Wy) : Int := if back = true then yT y else yF y
def endV (back : Bool) (y : Wy) : Int := if back = true then yF y else yT y
section
variable {rank : List Int} {ways : List Wy} {top : Int} {back : Bool}
theorem rk_ne (ok : OkH rank ways) {a b : Nat} (ha : a < rank.length) (hb : b < rank.length) (hne : a ≠ b) : rkA rank (a : Int) ≠ rkA rank (b : Int) := fun e => by
  rw [← rk_get ha, ← rk_get hb] at e
  have := List.pairwise_iff_getElem.1 (List.nodup_iff_pairwise_ne.1 ok.r.2)
  rcases Nat.lt_or_gt_of_ne hne with h | h
  · exact this a b ha hb h e
  · exact this b a hb ha h e.symm
theorem ES_of (ok : OkH rank ways) {k : Nat} (hk : k < ways.length) {u v : Nat} (hu : endU back ways[k] = (u : Int)) (hv : endV back ways[k] = (v : Int)) (ht : rkA rank (u : Int) < top) (hlt : rkA rank (v : Int) > rkA rank (u : Int)) :
    ES rank ways top back u v (yW ways[k]) := by
  have hf := ok.f k hk; unfold OkF at hf
  cases back with
  | true =>
    have hu : yT ways[k] = (u : Int) := hu
    have hv : yF ways[k] = (v : Int) := hv
    refine ⟨by omega, (yF ways[k], yW ways[k], (k : Int)), ?_, hv, rfl⟩
    unfold edS
    rw [if_pos ht, if_pos rfl, ← hu]
    refine dnF_of ok hk fun h => ?_
    unfold IsUp at h; rw [hu, hv] at h; omega
  | false =>
    have hu : yF ways[k] = (u : Int) := hu
    have hv : yT ways[k] = (v : Int) := hv
    refine ⟨by omega, (yT ways[k], yW ways[k], (k : Int)), ?_, hv, rfl⟩
    unfold edS
    rw [if_pos ht, if_neg (by decide), ← hu]
    refine upF_of ok hk ?_
    unfold IsUp; rw [hu, hv]; omega
theorem ES_way (ok : OkH rank ways) {u v : Nat} {x : Int} (h : ES rank ways top back u v x) : ∃ k, ∃ hk : k < ways.length, endU back ways[k] = (u : Int) ∧ endV back ways[k] = (v : Int) ∧ yW ways[k] = x ∧ rkA rank (u : Int) < top ∧ rkA rank (v : Int) > rkA rank (u : Int) := by
  obtain ⟨hu, e, he, hv, hx⟩ := h
  unfold edS at he
  split at he
  · rename_i ht
    split at he
    · rename_i hb
      subst hb
      obtain ⟨k, hk, h1, h2, rfl⟩ := dnF_mem he
      have hv : yF ways[k] = (v : Int) := hv
      have hf := ok.f k hk; unfold OkF at hf
      refine ⟨k, hk, h1, hv, hx, ht, ?_⟩
      unfold IsUp at h2
      rw [h1, hv] at h2
      have := rk_ne ok (show v < rank.length by omega) hu (by omega)
      omega
    · rename_i hb
      rw [Bool.not_eq_true] at hb
      subst hb
      obtain ⟨k, hk, h1, h2, rfl⟩ := upF_mem he
      have hv : yT ways[k] = (v : Int) := hv
      refine ⟨k, hk, h1, hv, hx, ht, ?_⟩
      unfold IsUp at h2
      rw [h1, hv] at h2; exact h2
  · simp at he
end

section
variable {w : World} {rank : List Int} {ways : List Wy} {sr sy : SV}

theorem Fit_ok {K : Bool → World → Prop} (hr : View RI w sr rank) (hy : View RW w sy ways) (hk : ∀ b w', Ext w w' → (b = true → FitH rank ways ∧ rank.length ≤ 14 ∧ ways.length ≤ 80) → K b w') : sh_postroadref11_Fit sr sy K w := by
  unfold sh_postroadref11_Fit
  intro b1 w2 e2 g1 g1'
  have z2 := e2.size
  have lr := hr.len; have ly := hy.len
  have no : ∀ w', Ext w w' → K false w' := fun w' e => hk false w' e fun q => by cases q
  rw [Bool.cond_decide]; split
  · exact no _ e2
  rename_i h1
  rw [Bool.cond_decide]; split
  · exact no _ e2
  rename_i h2
  refine rCheck_ok (hr.ext e2) (hy.ext e2) fun w4 e4 => ⟨kp1 e4 (by omega), ?_⟩
  by_cases ok : ¬ OkH rank ways
  · rw [show (chkF rank ways != 0) = true by simpa using (chkF_no ok).1, cond_true]
    exact no _ (e2.trans e4)
  rw [Classical.not_not] at ok
  rw [chkF_ok ok, bne_self_eq_false, cond_false]
  refine LoopT.gh (γ := Nat) (fun i (st : Int × Unit) w' => st.1 = i ∧ i ≤ ways.length ∧ Ext w w' ∧ ∀ j (hj : j < ways.length), j < i → yW ways[j] ≤ 1125899906842624) (fun i => ways.length - i) 0 ⟨rfl, Nat.zero_le _, e2.trans e4, fun j hj h => by omega⟩ ?_
  rintro i ⟨x, _⟩ w7 ⟨hx, hi, e7, hb⟩ J1 hJ1
  simp only at hx; subst hx
  dsimp only
  rw [Bool.cond_decide]
  by_cases hc : (i : Int) < (sy.len : Int)
  · rw [if_pos hc]
    have hi' : i < ways.length := by omega
    refine way_idx (hy.ext e7) hi' fun a ha _ _ a2 _ _ => ⟨yW ways[i], ?_, ?_⟩
    · obtain ⟨b, o, sp⟩ := a
      simp only at ha; subst ha
      rw [addm] at a2 ⊢; rw [addm]; exact a2
    rw [Bool.cond_decide]
    by_cases hw : yW ways[i] > 1125899906842624
    · rw [if_pos hw]; exact no _ e7
    · rw [if_neg hw]
      refine hJ1 (i + 1) _ _ ⟨wsucc (m := 2 ^ 40) (by omega) (by omega), by omega, e7, fun j hj hji => ?_⟩ (by omega)
      by_cases e : j = i
      · subst e; omega
      · exact hb j hj (by omega)
  · rw [if_neg hc]
    refine hk true w7 e7 fun _ => ⟨⟨ok, by omega, fun y hy' => ?_⟩, by omega, by omega⟩
    obtain ⟨j, hj, rfl⟩ := List.getElem_of_mem hy'
    exact hb j hj (by omega)

theorem okR_rk (ok : OkH rank ways) {u : Nat} (hu : u < rank.length) : 0 ≤ rkA rank (u : Int) ∧ rkA rank (u : Int) < rank.length := by
  rw [← rk_get hu]; exact ok.r.1 _ (List.getElem_mem hu)

end
end Go.Sh

/- What is known of one hierarchy; SpaceClimbs, SpaceRanks. -/
set_option maxRecDepth 100000
namespace Go.Sh
open Go.RowKit

/-- Distances, shown by hand. -/
theorem isD_by {E : Nat → Nat → Int → Prop} {s : Nat} {f : Nat → Int} (hs : f s = 0) (hw : ∀ v, 0 ≤ f v → Wk E s v (f v)) (hf : ∀ v, f v = -1 ∨ 0 ≤ f v) (hr : ∀ u v x, E u v x → 0 ≤ f u → 0 ≤ f v ∧ f v ≤ f u + x) (v : Nat) : IsD E s v (f v) := by
  have key : ∀ v d, Wk E s v d → 0 ≤ f v ∧ f v ≤ d := by
    intro v d hw
    induction hw with
    | nil => rw [hs]; omega
    | snoc _ e ih =>
      have := hr _ _ _ e ih.1
      exact ⟨this.1, by omega⟩
  rcases hf v with h | h
  · exact .inl ⟨h, fun d hd => by have := (key v d hd).1; omega⟩
  · exact .inr ⟨h, hw v h, fun d hd => (key v d hd).2⟩

theorem sorted_ext1 {l : List (Int × Int)} (hp : l.Pairwise fun a b => a.1 < b.1) {x : Int × Int} (h : ∀ e, e ∈ l ↔ e = x) : l = [x] := by
  cases l with
  | nil => have := (h x).2 rfl; simp at this
  | cons a l =>
    have ha := (h a).1 List.mem_cons_self
    subst ha
    cases l with
    | nil => rfl
    | cons b l =>
      have hb := (h b).1 (by simp)
      have := (List.pairwise_cons.1 hp).1 b List.mem_cons_self
      rw [hb] at this; omega
def lineW : List Wy := [(0, 1, 2, -1, 0), (1, 2, 3, -1, 1)]
theorem rowsL_f {n : Nat} {f g : Nat → Int} {q : Nat → Bool} (h : ∀ v, f v = g v) : rowsL n f q = rowsL n g q := by rw [funext h]

section
variable {CV : CVT} {w : World}
end
end Go.Sh

/- What ways stand in for a place. -/
set_option maxRecDepth 100000
namespace Go.Sh
open Go.RowKit

section
variable {w w' : World} {n : Nat} {sI sL sO : SV} {inn lost : Nat → Int} {L : List Wy}
end
end Go.Sh

/- A way is put; a place is taken. -/
set_option maxRecDepth 100000
namespace Go.Sh
open Go.RowKit

section
variable {w w' : World} {n : Nat} {sI sL sO : SV} {inn lost : Nat → Int} {L : List Wy}

end
end Go.Sh

/- The reference hierarchy of a map. -/
set_option maxRecDepth 100000
namespace Go.Sh
open Go.RowKit

section
variable {E : Nat → Nat → Int → Prop} {arcs : List (Int × Int × Int)} {n k : Nat} {B : Int} {L H : List Wy} {r : Nat → Int}
end

end Go.Sh

/- The reference hierarchy of a map: its walk. -/
set_option maxRecDepth 100000
namespace Go.Sh
open Go.RowKit

section
variable {w : World} {n : Nat} {arcs : List Arc}
end
end Go.Sh

/- HierOfMaps. -/
set_option maxRecDepth 100000
namespace Go.Sh
open Go.RowKit

section
variable {w : World}
end
end Go.Sh

/- GraphTurned. -/
set_option maxRecDepth 100000
namespace Go.Sh
open Go.RowKit

end Go.Sh

/- GraphLoops. -/
set_option maxRecDepth 100000
namespace Go.Sh
open Go.RowKit

end Go.Sh

/- GraphLeast. -/
set_option maxRecDepth 100000
namespace Go.Sh
open Go.RowKit

end Go.Sh

/- How far it is in a map, in plain words; the graph's edges tell the same. -/
set_option maxRecDepth 100000
namespace Go.Sh
open Go.RowKit

/-- How far it is by arcs; below 0: there is no way. -/
noncomputable def dst (arcs : List Arc) (s v : Nat) : Int := by
  classical exact if h : ∃ x, IsD (EA arcs) s v x then h.choose else -1

section
variable {N : Int} {arcs : List Arc}
end
end Go.Sh

/- No place is farther than all arcs together. -/
set_option maxRecDepth 100000
namespace Go.Sh
open Go.RowKit

end Go.Sh

/- dist's functions. -/
set_option maxRecDepth 100000
namespace Go.Sh
open Go.RowKit

section
variable {CV : CVT} {w : World} {p : Option Addr} {N : Int} {arcs : List Arc} {F : Nat → Prop}

end
end Go.Sh

/- The reference of layer 7, and what its laws lean on. -/
set_option maxRecDepth 100000
namespace Go.Sh
open Go.RowKit

section
variable {CV : CVT} {w : World} {N : Int} {s : SV} {arcs : List Arc}

end
end Go.Sh

/- The reference's table: arc by arc, till nothing is nearer. -/
set_option maxRecDepth 100000
namespace Go.Sh
open Go.RowKit

section
variable {w : World} {N : Int} {s : SV} {arcs : List Arc}

end
end Go.Sh

/- SpaceTop, SpaceWithin, SpaceSteps: of maps. -/
set_option maxRecDepth 100000
namespace Go.Sh
open Go.RowKit

section
variable {rank : List Int} {ways : List Wy}
theorem ES_rise (ok : OkH rank ways) {top : Int} {back : Bool} {u v : Nat} {x : Int} (h : ES rank ways top back u v x) : rkA rank (u : Int) < rkA rank (v : Int) := by
  obtain ⟨k, hk, _, _, _, _, h5⟩ := ES_way ok h; omega
theorem wk_len (fit : FitH rank ways) {top : Int} {back : Bool} {u v : Nat} {x : Int} (h : Wk (ES rank ways top back) u v x) : x ≤ (rkA rank (v : Int) - rkA rank (u : Int)) * 1125899906842624 := by
  induction h with
  | nil => omega
  | snoc _ e ih =>
    have h1 := ES_rise fit.ok e
    obtain ⟨k, hk, _, _, h3, _⟩ := ES_way fit.ok e
    have := fit.b _ (List.getElem_mem hk)
    omega
/-- From a place as high as the top none is reached but itself. -/
theorem cl_alone (fit : FitH rank ways) {s : Nat} (hs : s < rank.length) {t : Int} {back : Bool} (h : ∀ v x, ¬ ES rank ways t back s v x) (v : Nat) : clF rank ways t back s v = if v = s then 0 else -1 := by
  refine (clF_is fit hs v).uniq (isD_by (f := fun v => if v = s then 0 else -1) (by simp) (fun v h => ?_) (fun v => ?_) (fun u v x e h' => ?_) v)
  · by_cases q : v = s
    · subst q; simp only [if_pos]; exact .nil
    · simp only [if_neg q] at h; omega
  · by_cases q : v = s
    · exact .inr (by rw [if_pos q]; decide)
    · exact .inl (if_neg q)
  · by_cases q : u = s
    · subst q; exact absurd e (h v x)
    · simp only [if_neg q] at h'; omega
end

section
variable {CV : CVT} {w : World}

end
end Go.Sh

/- What two lists have in common; Meet, Both. -/
set_option maxRecDepth 100000
namespace Go.Sh
open Go.RowKit

abbrev Rc2 := Int × Int
/-- Strictly rising. -/
def Rz (l : List Rc2) : Prop := l.Pairwise fun a b => a.1 < b.1
/-- The pairs of the same place. -/
def com (xs ys : List Rc2) : List (Rc2 × Rc2) := xs.flatMap fun x => (ys.filter fun y => y.1 == x.1).map fun y => (x, y)
theorem com_nil (ys : List Rc2) : com [] ys = [] := rfl
theorem com_nil' (xs : List Rc2) : com xs [] = [] := by induction xs with | nil => rfl | cons x xs ih => simp [com]
theorem com_cons (x : Rc2) (xs ys : List Rc2) : com (x :: xs) ys = ((ys.filter fun y => y.1 == x.1).map fun y => (x, y)) ++ com xs ys := by simp [com]
theorem com_skip {y : Rc2} {xs ys : List Rc2} (h : ∀ x ∈ xs, y.1 ≠ x.1) : com xs (y :: ys) = com xs ys := by
  induction xs with
  | nil => rfl
  | cons x xs ih =>
    rw [com_cons, com_cons, ih fun z hz => h z (List.mem_cons_of_mem _ hz), List.filter_cons_of_neg (by simpa using h x List.mem_cons_self)]
theorem filter_no {x : Rc2} {ys : List Rc2} (h : ∀ y ∈ ys, y.1 ≠ x.1) : (ys.filter fun y => y.1 == x.1) = [] := by
  rw [List.filter_eq_nil_iff]; intro y hy; simpa using h y hy
theorem com_lt {x y : Rc2} {xs ys : List Rc2} (hy : Rz (y :: ys)) (h : x.1 < y.1) : com (x :: xs) (y :: ys) = com xs (y :: ys) := by
  rw [com_cons, filter_no, List.map_nil, List.nil_append]
  intro z hz
  rcases List.mem_cons.1 hz with rfl | hz
  · omega
  · have := (List.pairwise_cons.1 hy).1 z hz; omega
theorem com_gt {x y : Rc2} {xs ys : List Rc2} (hx : Rz (x :: xs)) (h : x.1 > y.1) : com (x :: xs) (y :: ys) = com (x :: xs) ys := by
  refine com_skip fun z hz => ?_
  rcases List.mem_cons.1 hz with rfl | hz
  · omega
  · have := (List.pairwise_cons.1 hx).1 z hz; omega
theorem com_eq {x y : Rc2} {xs ys : List Rc2} (hx : Rz (x :: xs)) (hy : Rz (y :: ys)) (h : x.1 = y.1) : com (x :: xs) (y :: ys) = (x, y) :: com xs ys := by
  rw [com_cons, List.filter_cons_of_pos (by simpa using h.symm), filter_no, com_skip]
  · rfl
  · intro z hz; have := (List.pairwise_cons.1 hx).1 z hz; omega
  · intro z hz; have := (List.pairwise_cons.1 hy).1 z hz; omega
theorem com_mem {xs ys : List Rc2} {p : Rc2 × Rc2} : p ∈ com xs ys ↔ p.1 ∈ xs ∧ p.2 ∈ ys ∧ p.1.1 = p.2.1 := by
  unfold com
  rw [List.mem_flatMap]
  constructor
  · rintro ⟨x, hx, hp⟩
    obtain ⟨y, hy, rfl⟩ := List.mem_map.1 hp
    rw [List.mem_filter] at hy
    exact ⟨hx, hy.1, (by simpa using hy.2 : y.1 = x.1).symm⟩
  · rintro ⟨h1, h2, h3⟩
    exact ⟨p.1, h1, List.mem_map.2 ⟨p.2, List.mem_filter.2 ⟨h2, by rw [beq_iff_eq]; exact h3.symm⟩, rfl⟩⟩
section
variable {w : World}
theorem View.tail1 {s : SV} {x : Rc2} {xs : List Rc2} (h : View RE w s (x :: xs)) (hc : s.len ≤ s.cap) {K : SV → Prop} (hk : ∀ t, View RE w t xs → t.len ≤ t.cap → K t) : semSlice 2 s.a s.len s.cap (some (1 : Int)) none K := by
  have hl := h.len
  simp only [List.length_cons] at hl
  unfold semSlice
  simp only [Option.getD_some, Option.getD_none, Int.toNat_natCast]
  refine ⟨by omega, fun x hx => (by cases hx), by omega, by omega, hk _ ⟨?_, ?_, ?_⟩ (by show s.len - 1 ≤ s.cap - 1; omega)⟩
  · show s.len - (1 : Int).toNat = xs.length
    have : (1 : Int).toNat = 1 := rfl
    omega
  · intro hne p hp
    have h1 : 1 ≤ xs.length := by cases xs with | nil => exact absurd rfl hne | cons _ _ => simp
    have : ¬ s.cap = (1 : Int).toNat := by have : (1 : Int).toNat = 1 := rfl; omega
    simp only [if_neg this] at hp
    obtain ⟨a, ha, rfl⟩ := Option.map_eq_some_iff.1 hp
    have := h.spot (by simp) a ha
    obtain ⟨b, o, sp⟩ := a
    simp only at this; subst this
    rw [addm]
  · intro i y hy
    obtain ⟨p, hp, hcell⟩ := h.at_ (i + 1) y (by simpa using hy)
    have hi := (List.getElem?_eq_some_iff.1 hy).1
    have : ¬ s.cap = (1 : Int).toNat := by have : (1 : Int).toNat = 1 := rfl; omega
    simp only [if_neg this, hp, Option.map_some]
    have hsp := h.spot (by simp) p hp
    obtain ⟨b, o, sp⟩ := p
    simp only at hsp; subst hsp
    refine ⟨_, rfl, fun j v hv => ?_⟩
    have := hcell j v hv
    rw [addm]
    simp only at this ⊢
    rw [← this]
    congr 2
    have e1 : (1 : Int).toNat = 1 := rfl
    have e2 : RE.sz = 2 := rfl
    rw [e1, e2, Nat.add_mul]; omega

/-- The pairs are given out, one by one; I tells what whoever takes them holds, F his blocks. -/
theorem common_ok {W w0 : World} {xs ys : List Rc2} {sa sb : SV} {b1 b2 : Nat} {Y0 : Int → Int → Int → Int → (Bool → World → Prop) → World → Prop} {I : List (Rc2 × Rc2) → (Nat → Prop) → World → Prop} {F0 : Nat → Prop} {K : World → Prop}
    (hx : Rz xs) (hy : Rz ys) (va : View RE W sa xs) (vb : View RE W sb ys) (ca : sa.len ≤ sa.cap) (cb : sb.len ≤ sb.cap) (e0 : Ext W w0) (hB1 : Blk w0 b1 [.slice sa.a sa.len sa.cap]) (hB2 : Blk w0 b2 [.slice sb.a sb.len sb.cap]) (g1 : W.heap.size ≤ b1) (g2 : W.heap.size ≤ b2) (hne : b1 ≠ b2)
    (hlt : ∀ d F w, I d F w → ∀ i, F i → i < w.heap.size) (hch : ∀ d F w w' G, I d F w → Chg G w w' → (∀ i, F i → ¬ G i) → I d F w')
    (hY : ∀ d F w x y r K', I d F w → Ext W w → com xs ys = d ++ (x, y) :: r → (∀ w' F', I (d ++ [(x, y)]) F' w' → Chg F w w' → (∀ i, F' i → F i ∨ w.heap.size ≤ i) → K' true w') → Y0 x.1 x.2 y.1 y.2 K' w)
    (h0 : I [] F0 w0) (hF0 : ∀ i, F0 i → W.heap.size ≤ i ∧ i ≠ b1 ∧ i ≠ b2)
    (hK : ∀ F w', I (com xs ys) F w' → Ext W w' → Chg (fun i => F0 i ∨ i = b1 ∨ i = b2) w0 w' → (∀ i, F i → F0 i ∨ w0.heap.size ≤ i) → K w') : sh_space_common_c1 Y0 ⟨b1, 0, none⟩ ⟨b2, 0, none⟩ K w0 := by
  unfold sh_space_common_c1
  have l1 := blk_lt hB1; have l2 := blk_lt hB2
  refine LoopT.gh (γ := List (Rc2 × Rc2) × List Rc2 × List Rc2 × (Nat → Prop)) (fun g (_ : Unit) w' => ∃ s1 s2, I g.1 g.2.2.2 w' ∧ Ext W w' ∧ Chg (fun i => F0 i ∨ i = b1 ∨ i = b2) w0 w' ∧ (∀ i, g.2.2.2 i → F0 i ∨ w0.heap.size ≤ i) ∧ com xs ys = g.1 ++ com g.2.1 g.2.2.1 ∧ Rz g.2.1 ∧ Rz g.2.2.1 ∧
      View RE W s1 g.2.1 ∧ View RE W s2 g.2.2.1 ∧ s1.len ≤ s1.cap ∧ s2.len ≤ s2.cap ∧ Blk w' b1 [.slice s1.a s1.len s1.cap] ∧ Blk w' b2 [.slice s2.a s2.len s2.cap]) (fun g => g.2.1.length + g.2.2.1.length) ([], xs, ys, F0)
    ⟨sa, sb, h0, e0, .refl _ _, fun i h => .inl h, rfl, hx, hy, va, vb, ca, cb, hB1, hB2⟩ ?_
  rintro ⟨d, xs', ys', F⟩ ⟨⟩ w3 ⟨s1, s2, hI, e3, c3, hF, hcom, rx, ry, v1, v2, k1, k2, hb1, hb2⟩ J1 hJ1
  simp only at hI hF hcom rx ry v1 v2
  have z3 := c3.size
  have hl1 := v1.len; have hl2 := v2.len
  have nF1 : ¬ F b1 := fun h => (hF _ h).elim (fun h => (hF0 _ h).2.1 rfl) fun h => by omega
  have nF2 : ¬ F b2 := fun h => (hF _ h).elim (fun h => (hF0 _ h).2.2 rfl) fun h => by omega
  have done : com xs' ys' = [] → K w3 := fun h => by rw [h, List.append_nil] at hcom; rw [← hcom] at hI; exact hK F w3 hI e3 c3 hF
  refine ⟨s1, by rw [cell_blk hb1]; rfl, ?_⟩
  rw [Bool.cond_decide]
  by_cases h1 : (s1.len : Int) > 0
  case neg =>
    rw [if_neg h1]
    have : xs' = [] := List.length_eq_zero_iff.1 (by omega)
    subst this
    exact done (com_nil _)
  rw [if_pos h1]
  refine ⟨s2, by rw [cell_blk hb2]; rfl, ?_⟩
  rw [Bool.cond_decide]
  by_cases h2 : (s2.len : Int) > 0
  case neg =>
    rw [if_neg h2]
    have : ys' = [] := List.length_eq_zero_iff.1 (by omega)
    subst this
    exact done (com_nil' _)
  rw [if_pos h2]
  obtain ⟨x, xs', rfl⟩ : ∃ x l, xs' = x :: l := List.exists_cons_of_ne_nil fun h => by subst h; simp at hl1; omega
  obtain ⟨y, ys', rfl⟩ : ∃ x l, ys' = x :: l := List.exists_cons_of_ne_nil fun h => by subst h; simp at hl2; omega
  refine ⟨s1, by rw [cell_blk hb1]; rfl, ?_⟩
  refine re_idx (v1.ext e3) (i := 0) (by simp) fun _ a0 a1 => ⟨_, a0, _, a1, ?_⟩
  refine ⟨s2, by rw [cell_blk hb2]; rfl, ?_⟩
  refine View.idx (R := RE) (v2.ext e3) (i := 0) (by omega) (by simp) fun a12 hsp hc12 => ?_
  obtain ⟨pb, po, ps⟩ := a12
  simp only at hsp; subst hsp
  have q0 : w3.cell? ((⟨pb, po, none⟩ : Addr).add 0) = some (.int .i64 y.1) := hc12 0 _ rfl
  have q1 : w3.cell? ((⟨pb, po, none⟩ : Addr).add 1) = some (.int .i64 y.2) := hc12 1 _ rfl
  refine ⟨_, q0, _, q1, ?_⟩
  intro b17 w18 e18 g17 g17' b19 w20 e20 g19 g19' w21 e21 w22 o22
  have z18 := e18.size; have z20 := e20.size; have z21 := e21.size; have z22 := o22.size
  have e22 : Ext w3 w22 := ext_off ((e18.trans e20).trans e21) o22 g17
  refine ⟨⟨_, e22.cell q0, _, e22.cell q1, rfl⟩, ⟨s2, by rw [cell_blk (e22.blkE hb2)]; rfl, rfl⟩, ?_⟩
  intro w23 e23 w24 o24 w25 e25
  have z23 := e23.size; have z24 := o24.size; have z25 := e25.size
  have g19 : w3.heap.size ≤ b19 := by
    rcases g19 with ⟨h, _⟩ | h
    · rcases h with h | h
      · exact h.elim
      · exact h.1
    · omega
  have e325 : Ext w3 w25 := (ext_off (e22.trans e23) o24 g19).trans e25
  have hI25 : I d F w25 := hch _ _ _ _ (fun _ => False) hI (.of_ext e325) fun _ _ h => h
  have bb1 := e325.blkE hb1; have bb2 := e325.blkE hb2
  have e25' := e3.trans e325
  have c25 := c3.trans (.of_ext (F := fun i => F0 i ∨ i = b1 ∨ i = b2) e325) fun _ _ h => h
  have kp : ∀ {w25 w28 : World} {b}, w3.heap.size ≤ w25.heap.size → b < w3.heap.size → b17 < w25.heap.size → b19 < w25.heap.size → Off b w25 w28 → Keeps [b19, b17] w25 w28 := fun {w25 w28 b} _ hb h17 h19 o => by
    refine kp_chg (.of_off (F := fun i => i = b) o rfl) fun i hi => ?_
    simp only [List.mem_cons, List.not_mem_nil, or_false] at hi
    rcases hi with rfl | rfl
    · exact ⟨h19, by omega⟩
    · exact ⟨h17, by omega⟩
  rw [Bool.cond_decide]
  simp only [List.getElem_cons_zero]
  by_cases hlt1 : x.1 < y.1
  · rw [if_pos hlt1]
    refine ⟨s1, by rw [cell_blk bb1]; rfl, ?_⟩
    refine v1.tail1 k1 fun s27 v27 k27 => ?_
    refine stL_blk (b := b1) (o := 0) _ 0 _ _ _ bb1 (by simp) fun w28 o28 hb28 => ?_
    refine ⟨kp (by omega) (by omega) (by omega) (by omega) o28, ?_⟩
    refine hJ1 (d, xs', y :: ys', F) () w28 ⟨s27, s2, hch _ _ _ _ _ hI25 (.of_off (F := fun i => i = b1) o28 rfl) fun i hi e => nF1 (e ▸ hi), ext_off e25' o28 g1, c25.trans (.of_off (F := fun i => i = b1) o28 rfl) fun i _ h => .inr (.inl h), hF, ?_, (List.pairwise_cons.1 rx).2, ry, v27, v2, k27, k2, hb28, bb2.off o28 (Ne.symm hne)⟩ (by simp)
    rw [hcom, com_lt ry hlt1]
  · rw [if_neg hlt1, Bool.cond_decide]
    by_cases hgt1 : x.1 > y.1
    · rw [if_pos hgt1]
      refine ⟨s2, by rw [cell_blk bb2]; rfl, ?_⟩
      refine v2.tail1 k2 fun s30 v30 k30 => ?_
      refine stL_blk (b := b2) (o := 0) _ 0 _ _ _ bb2 (by simp) fun w31 o31 hb31 => ?_
      refine ⟨kp (by omega) (by omega) (by omega) (by omega) o31, ?_⟩
      refine hJ1 (d, x :: xs', ys', F) () w31 ⟨s1, s30, hch _ _ _ _ _ hI25 (.of_off (F := fun i => i = b2) o31 rfl) fun i hi e => nF2 (e ▸ hi), ext_off e25' o31 g2, c25.trans (.of_off (F := fun i => i = b2) o31 rfl) fun i _ h => .inr (.inr h), hF, ?_, rx, (List.pairwise_cons.1 ry).2, v1, v30, k1, k30, bb1.off o31 hne, hb31⟩ (by simp)
      rw [hcom, com_gt rx hgt1]
    · rw [if_neg hgt1]
      have heq : x.1 = y.1 := by omega
      have hc2 := com_eq rx ry heq
      refine hY d F w25 x y (com xs' ys') _ hI25 e25' (by rw [hcom, hc2]) fun w33 F' hI33 c33 hF' => ?_
      have z33 := c33.size
      have lF : ∀ i, F i → i < w3.heap.size := fun i hi => hlt _ _ _ hI i hi
      have nb : ∀ b, w3.heap.size ≤ b → b < w25.heap.size → ¬ F b := fun b h1 _ h => by have := lF b h; omega
      refine ⟨kp_chg c33 fun i hi => ?_, ?_⟩
      · simp only [List.mem_cons, List.not_mem_nil, or_false] at hi
        rcases hi with rfl | rfl
        · exact ⟨by omega, nb _ g19 (by omega)⟩
        · exact ⟨by omega, nb _ g17 (by omega)⟩
      rw [Bool.not_true, cond_false]
      have bb1 := c33.blk bb1 nF1; have bb2 := c33.blk bb2 nF2
      have e33 : Ext W w33 := ext_chg e25' c33 fun i hi => (hF i hi).elim (fun h => (hF0 i h).1) fun h => by have := e0.size; omega
      have c33' := c25.trans c33 fun i hi h => (hF i h).elim .inl fun h' => .inl (by
        exfalso
        omega)
      have nF1' : ¬ F' b1 := fun h => (hF' _ h).elim nF1 fun h => by omega
      have nF2' : ¬ F' b2 := fun h => (hF' _ h).elim nF2 fun h => by omega
      refine ⟨s1, by rw [cell_blk bb1]; rfl, ?_⟩
      refine v1.tail1 k1 fun s35 v35 k35 => ?_
      refine ⟨s2, by rw [cell_blk bb2]; rfl, ?_⟩
      refine v2.tail1 k2 fun s38 v38 k38 => ?_
      intro w39 e39
      have z39 := e39.size
      refine stL_blk (b := b1) (o := 0) _ 0 _ _ _ (e39.blkE bb1) (by simp) fun w40 o40 hb40 => ?_
      have z40 := o40.size
      have bb2 := (e39.blkE bb2).off o40 (Ne.symm hne)
      refine ⟨kp (by omega) (by omega) (by omega) (by omega) o40, ⟨s2, by rw [cell_blk bb2]; rfl, rfl⟩, ?_⟩
      intro w41 e41
      have z41 := e41.size
      refine stL_blk (b := b2) (o := 0) _ 0 _ _ _ (e41.blkE bb2) (by simp) fun w42 o42 hb42 => ?_
      refine ⟨kp (by omega) (by omega) (by omega) (by omega) o42, fun w43 e43 => ?_⟩
      have i39 := hch _ _ _ _ (fun _ => False) hI33 (.of_ext e39) fun _ _ h => h
      have i40 := hch _ _ _ _ _ i39 (.of_off (F := fun i => i = b1) o40 rfl) fun i hi e => nF1' (e ▸ hi)
      have i41 := hch _ _ _ _ (fun _ => False) i40 (.of_ext e41) fun _ _ h => h
      have i42 := hch _ _ _ _ _ i41 (.of_off (F := fun i => i = b2) o42 rfl) fun i hi e => nF2' (e ▸ hi)
      have i43 := hch _ _ _ _ (fun _ => False) i42 (.of_ext e43) fun _ _ h => h
      have e42 : Ext W w42 := ext_off ((ext_off (e33.trans e39) o40 g1).trans e41) o42 g2
      have c39 := c33'.trans (.of_ext (F := fun i => F0 i ∨ i = b1 ∨ i = b2) e39) fun _ _ h => h
      have c40 := c39.trans (.of_off (F := fun i => i = b1) o40 rfl) fun i _ h => .inr (.inl h)
      have c41 := c40.trans (.of_ext (F := fun i => F0 i ∨ i = b1 ∨ i = b2) e41) fun _ _ h => h
      have c42 := c41.trans (.of_off (F := fun i => i = b2) o42 rfl) fun i _ h => .inr (.inr h)
      have c43 := c42.trans (.of_ext (F := fun i => F0 i ∨ i = b1 ∨ i = b2) e43) fun _ _ h => h
      refine hJ1 (d ++ [(x, y)], xs', ys', F') () w43 ⟨s35, s38, i43, e42.trans e43, c43, fun i hi => (hF' i hi).elim (hF i) fun h => by right; omega, ?_, (List.pairwise_cons.1 rx).2, (List.pairwise_cons.1 ry).2, v35, v38, k35, k38, ?_, e43.blkE hb42⟩ (by simp only [List.length_cons]; omega)
      · rw [hcom, hc2]; simp
      · exact e43.blkE ((e41.blkE hb40).off o42 hne)
end
end Go.Sh

/- Meet and Both; their reference. -/
set_option maxRecDepth 100000
namespace Go.Sh
open Go.RowKit

def meetS (s : Int × Int) (p : Rc2 × Rc2) : Int × Int := if s.2 = -1 ∨ IntKind.i64.wrap (p.1.2 + p.2.2) ≤ s.1 then (IntKind.i64.wrap (p.1.2 + p.2.2), p.1.1) else s
def meetD (d : List (Rc2 × Rc2)) : Int × Int := d.foldl meetS (-1, -1)
/-- The least sum, and where. -/
def meetF (xs ys : List Rc2) : Int × Int := meetD (com xs ys)
theorem meetD_snoc (d : List (Rc2 × Rc2)) (p : Rc2 × Rc2) : meetD (d ++ [p]) = meetS (meetD d) p := by unfold meetD; rw [List.foldl_append]; rfl
section
variable {w : World}
theorem Meet_ok {sa sb : SV} {xs ys : List Rc2} {K : Int → Int → World → Prop} (hx : Rz xs) (hy : Rz ys) (va : View RE w sa xs) (vb : View RE w sb ys) (ca : sa.len ≤ sa.cap) (cb : sb.len ≤ sb.cap)
    (hk : ∀ w', Ext w w' → K (meetF xs ys).1 (meetF xs ys).2 w') : sh_space_Meet sa sb K w := by
  unfold sh_space_Meet
  intro b1 w2 e2 g1 g1' b3 w4 e4 g3 g3' w5 o5 w6 o6 b1007 w1008 e1008 g7 g7' b1009 w1010 e1010 g9 g9' hB7 hB9
  have z2 := e2.size; have z4 := e4.size; have z5 := o5.size; have z6 := o6.size; have z8 := e1008.size; have z10 := e1010.size
  refine ⟨kp_ext (e1008.trans e1010) (by (intro b hb; simp only [List.mem_cons, List.not_mem_nil, or_false] at hb; omega)), fun hB1 hB3 D l w1013 e1013 gD hDl hl => ?_⟩
  have z13 := e1013.size
  have e6 : Ext w w6 := ext_off (ext_off (e2.trans e4) o5 g1) o6 (by omega)
  have e13 := (e6.trans e1008).trans (e1010.trans e1013)
  have n13 : b1 ≠ b3 := by omega
  refine common_ok (W := w) (w0 := w1013) (I := fun d F w' => F = (fun i => i = b1 ∨ i = b3 ∨ i = l) ∧ Blk w' b1 [.int .i64 (meetD d).1] ∧ Blk w' b3 [.int .i64 (meetD d).2] ∧ w'.heap[l]? = w1013.heap[l]?) (F0 := fun i => i = b1 ∨ i = b3 ∨ i = l)
    hx hy va vb ca cb e13 (e1013.blkE hB7) (e1013.blkE hB9) (by omega) (by omega) (by omega) ?_ ?_ ?_ ⟨rfl, e1013.blkE hB1, e1013.blkE hB3, rfl⟩ (fun i hi => by omega) ?_
  · rintro d F w' ⟨rfl, h1, h3, hL⟩ i hi
    rcases hi with rfl | rfl | rfl
    · exact blk_lt h1
    · exact blk_lt h3
    · rw [Array.getElem?_eq_getElem hl] at hL
      exact (Array.getElem?_eq_some_iff.1 hL).1
  · rintro d F w' w'' G ⟨rfl, h1, h3, hL⟩ c hG
    have ll : l < w'.heap.size := by
      rw [Array.getElem?_eq_getElem hl] at hL
      exact (Array.getElem?_eq_some_iff.1 hL).1
    exact ⟨rfl, c.blk h1 (hG _ (.inl rfl)), c.blk h3 (hG _ (.inr (.inl rfl))), by rw [c.block l ll (hG _ (.inr (.inr rfl)))]; exact hL⟩
  · rintro d F w1018 x y r K' ⟨rfl, h1, h3, hL⟩ e18 hcom hK'
    have ll : l < w1018.heap.size := by
      rw [Array.getElem?_eq_getElem hl] at hL
      exact (Array.getElem?_eq_some_iff.1 hL).1
    have l1 := blk_lt h1; have l3 := blk_lt h3
    refine ⟨hL, ?_⟩
    intro b1020 w1021 e1021 g20 g20' w1022 o1022 b1023 w1024 e1024 g23 g23' w1025 o1025 w1026 o1026
    have z21 := e1021.size; have z22 := o1022.size; have z24 := e1024.size; have z25 := o1025.size; have z26 := o1026.size
    have e25 : Ext w1018 w1025 := ext_off ((ext_off e1021 o1022 g20).trans e1024) o1025 (by omega)
    have c26 : Chg (fun i => i = b1 ∨ i = b3 ∨ i = l) w1018 w1026 := (Chg.of_ext (F := fun i => i = b1 ∨ i = b3 ∨ i = l) e25).trans (.of_off (F := fun i => i = l) o1026 rfl) fun i _ h => .inr (.inr h)
    have k1 := (e25.blkE h1).off o1026 (show b1 ≠ l by omega)
    have k3 := (e25.blkE h3).off o1026 (show b3 ≠ l by omega)
    have fin : ∀ w', Chg (fun i => i = b1 ∨ i = b3 ∨ i = l) w1018 w' → Blk w' b1 [.int .i64 (meetD (d ++ [(x, y)])).1] → Blk w' b3 [.int .i64 (meetD (d ++ [(x, y)])).2] → ∀ w'', Off l w' w'' → (w''.heap[l]? = w1013.heap[l]? → K' true w'') := fun w' c h1 h3 w'' o hh =>
      hK' w'' _ ⟨rfl, h1.off o (by omega), h3.off o (by omega), hh⟩ (c.trans (.of_off (F := fun i => i = l) o rfl) fun i _ h => .inr (.inr h)) fun i hi => .inl hi
    have write : (meetD (d ++ [(x, y)])) = (IntKind.i64.wrap (x.2 + y.2), x.1) → ∀ w1028, Ext w1026 w1028 → stL w1028 ⟨b1, 0, none⟩ [.int .i64 (IntKind.i64.wrap (x.2 + y.2))] 0 (fun w1029 => Keeps [b1023, b1020, l] w1028 w1029 ∧ ∀ w1030, Ext w1029 w1030 → stL w1030 ⟨b3, 0, none⟩ [.int .i64 x.1] 0 (fun w1031 => Keeps [b1023, b1020, l] w1030 w1031 ∧ ∀ w1032, Ext w1031 w1032 → ∀ w1033, Off l w1032 w1033 → (w1033.heap[l]? = w1013.heap[l]? → K' true w1033))) := fun hm w1028 e28 => by
      have z28 := e28.size
      refine stL_blk (b := b1) (o := 0) _ 0 _ _ _ (e28.blkE k1) (by simp) fun w1029 o29 hb1 => ?_
      have z29 := o29.size
      refine ⟨kp_chg (.of_off (F := fun i => i = b1) o29 rfl) fun i hi => ?_, fun w1030 e30 => ?_⟩
      · simp only [List.mem_cons, List.not_mem_nil, or_false] at hi; omega
      have z30 := e30.size
      refine stL_blk (b := b3) (o := 0) _ 0 _ _ _ (e30.blkE ((e28.blkE k3).off o29 (Ne.symm n13))) (by simp) fun w1031 o31 hb3 => ?_
      have z31 := o31.size
      refine ⟨kp_chg (.of_off (F := fun i => i = b3) o31 rfl) fun i hi => ?_, fun w1032 e32 => ?_⟩
      · simp only [List.mem_cons, List.not_mem_nil, or_false] at hi; omega
      have c28 := c26.trans (.of_ext (F := fun i => i = b1 ∨ i = b3 ∨ i = l) e28) fun _ _ h => h
      have c29 := c28.trans (.of_off (F := fun i => i = b1) o29 rfl) fun i _ h => .inl h
      have c30 := c29.trans (.of_ext (F := fun i => i = b1 ∨ i = b3 ∨ i = l) e30) fun _ _ h => h
      have c31 := c30.trans (.of_off (F := fun i => i = b3) o31 rfl) fun i _ h => .inr (.inl h)
      have c32 := c31.trans (.of_ext (F := fun i => i = b1 ∨ i = b3 ∨ i = l) e32) fun _ _ h => h
      exact fin w1032 c32 (by rw [hm]; exact e32.blkE ((e30.blkE hb1).off o31 n13)) (by rw [hm]; exact e32.blkE hb3)
    have ms := meetD_snoc d (x, y)
    unfold meetS at ms
    simp only at ms
    refine ⟨_, by rw [cell_blk k3]; rfl, ?_⟩
    by_cases hat : (meetD d).2 = -1
    · rw [show ((meetD d).2 == -1) = true by rw [hat]; rfl, cond_true]
      rw [if_pos (.inl hat)] at ms
      exact write ms
    · rw [show ((meetD d).2 == -1) = false by rw [beq_eq_false_iff_ne]; exact hat, cond_false]
      refine ⟨_, by rw [cell_blk k1]; rfl, ?_⟩
      rw [Bool.cond_decide]
      by_cases hle : IntKind.i64.wrap (x.2 + y.2) ≤ (meetD d).1
      · rw [if_pos hle]
        rw [if_pos (.inr hle)] at ms
        exact write ms
      · rw [if_neg hle]
        rw [if_neg (fun q => q.elim hat hle)] at ms
        exact fin w1026 c26 (by rw [ms]; exact k1) (by rw [ms]; exact k3)
  · rintro F w1042 ⟨rfl, h1, h3, hL⟩ e42 c42 _
    refine ⟨kp_chg c42 fun i hi => ?_, .inl ⟨hL, fun w1043 o43 => ?_⟩⟩
    · simp only [List.mem_cons, List.not_mem_nil, or_false] at hi; omega
    have k1 := h1.off o43 (show b1 ≠ l by omega)
    have k3 := h3.off o43 (show b3 ≠ l by omega)
    refine ⟨_, by rw [cell_blk k1]; rfl, _, by rw [cell_blk k3]; rfl, fun w1046 e46 w1047 o47 => ?_⟩
    exact hk w1047 (ext_off ((ext_off e42 o43 (by omega)).trans e46) o47 (by omega))

theorem com_append (a b ys : List Rc2) : com (a ++ b) ys = com a ys ++ com b ys := by simp [com]
end
end Go.Sh

/- SpaceMeets, SpaceTurned. -/
set_option maxRecDepth 100000
namespace Go.Sh
open Go.RowKit

def sumP (p : Rc2 × Rc2) : Int := IntKind.i64.wrap (p.1.2 + p.2.2)
section
variable {CV : CVT} {w : World}
end
end Go.Sh

/- How far it is, by a hierarchy; QueryBy, QueryMeets. -/
set_option maxRecDepth 100000
namespace Go.Sh
open Go.RowKit

theorem Own.cap {α : Type} {R : Rc α} {w : World} {s : SV} {xs : List α} (h : Own R w s xs) : s.len ≤ s.cap := by
  obtain ⟨rest, h1, h2, _⟩ := h; omega

noncomputable def fwdL (rank : List Int) (ways : List Wy) (s : Int) : List Rc2 := rowsL rank.length (clF rank ways rank.length false s) fun _ => true
noncomputable def bckL (rank : List Int) (ways : List Wy) (t : Int) : List Rc2 := rowsL rank.length (clF rank ways rank.length true t) fun _ => true
noncomputable def whereF (rank : List Int) (ways : List Wy) (s t : Int) : Int × Int := meetF (fwdL rank ways s) (bckL rank ways t)

section
variable {CV : CVT} {w : World} {p : Option Addr} {rank : List Int} {ways : List Wy} {F : Nat → Prop}
theorem fwd_rz (s : Int) : Rz (fwdL rank ways s) := rowsL_pw _ _ _
theorem bck_rz (t : Int) : Rz (bckL rank ways t) := rowsL_pw _ _ _
theorem Where_ok (hcv : SpaceCV CV) {s t : Int} {K : Int → Int → World → Prop} (hH : HierA w p rank ways F) (fit : FitH rank ways) (hk : ∀ w', Ext w w' → K (whereF rank ways s t).1 (whereF rank ways s t).2 w') : sh_query_Where CV p s t K w := by
  unfold sh_query_Where
  refine Forward_ok hcv hH fit fun s1 w2 e2 h1 _ => ?_
  refine Back_ok hcv (hH.ext e2) fit fun s3 w4 e4 h3 _ => ?_
  exact Meet_ok (fwd_rz s) (bck_rz t) (h1.ext e4).view h3.view h1.cap h3.cap fun w' e => hk w' ((e2.trans e4).trans e)
theorem Far_ok (hcv : SpaceCV CV) {s t : Int} {K : Int → World → Prop} (hH : HierA w p rank ways F) (fit : FitH rank ways) (hk : ∀ w', Ext w w' → K (whereF rank ways s t).1 w') : sh_query_Far CV p s t K w := by
  unfold sh_query_Far
  exact Where_ok hcv hH fit hk

/-! ### One hierarchy is known -/
def tentR : List Int := [0, 2, 1]
theorem tent_ok : OkH tentR lineW := by
  refine ⟨by decide, by decide, ⟨by decide, by decide⟩, fun i hi => ?_, fun y hy => ?_⟩
  · have : i = 0 ∨ i = 1 := by simp [lineW] at hi; omega
    rcases this with rfl | rfl
    · show OkF 3 [] (0, 1, 2, -1, 0)
      unfold OkF; decide
    · show OkF 3 [(0, 1, 2, -1, 0)] (1, 2, 3, -1, 1)
      unfold OkF; decide
  · simp [lineW] at hy
    rcases hy with rfl | rfl <;> unfold OkW <;> rw [if_pos (by decide)] <;> decide
theorem tent_fit : FitH tentR lineW := ⟨tent_ok, by decide, fun y hy => by
  simp [lineW] at hy
  rcases hy with rfl | rfl <;> decide⟩
theorem tent_e {back : Bool} {u v : Nat} {x : Int} (h : ES tentR lineW 3 back u v x) : (back = false ∧ u = 0 ∧ v = 1 ∧ x = 2) ∨ (back = true ∧ u = 2 ∧ v = 1 ∧ x = 3) := by
  obtain ⟨k, hk, k1, k2, k3, _, k5⟩ := ES_way tent_ok h
  have : k = 0 ∨ k = 1 := by simp [lineW] at hk; omega
  cases back with
  | false =>
    rcases this with rfl | rfl
    · left
      have k1 : (0 : Int) = (u : Int) := k1
      have k2 : (1 : Int) = (v : Int) := k2
      have k3 : (2 : Int) = x := k3
      exact ⟨rfl, by omega, by omega, k3.symm⟩
    · exfalso
      have k1 : (1 : Int) = (u : Int) := k1
      have k2 : (2 : Int) = (v : Int) := k2
      rw [← k1, ← k2] at k5
      exact absurd k5 (by decide)
  | true =>
    rcases this with rfl | rfl
    · exfalso
      have k1 : (1 : Int) = (u : Int) := k1
      have k2 : (0 : Int) = (v : Int) := k2
      rw [← k1, ← k2] at k5
      exact absurd k5 (by decide)
    · right
      have k1 : (2 : Int) = (u : Int) := k1
      have k2 : (1 : Int) = (v : Int) := k2
      have k3 : (3 : Int) = x := k3
      exact ⟨rfl, by omega, by omega, k3.symm⟩
theorem tent_01 : ES tentR lineW 3 false 0 1 2 := ES_of tent_ok (k := 0) (by decide) (u := 0) (v := 1) rfl rfl (by decide) (by decide)
theorem tent_21 : ES tentR lineW 3 true 2 1 3 := ES_of tent_ok (k := 1) (by decide) (u := 2) (v := 1) rfl rfl (by decide) (by decide)
def tf0 (v : Nat) : Int := if v = 0 then 0 else if v = 1 then 2 else -1
def tb2 (v : Nat) : Int := if v = 2 then 0 else if v = 1 then 3 else -1
theorem cl_tf0 (v : Nat) : clF tentR lineW 3 false 0 v = tf0 v := by
  refine (clF_is tent_fit (s := 0) (by decide) v).uniq (isD_by (f := tf0) rfl (fun v h => ?_) (fun v => ?_) (fun u v x e h => ?_) v)
  · unfold tf0 at h ⊢
    split at h
    · subst_vars; exact .nil
    · split at h
      · subst_vars; exact .edge tent_01
      · omega
  · unfold tf0
    split
    · exact .inr (by decide)
    · split
      · exact .inr (by decide)
      · exact .inl rfl
  · rcases tent_e e with ⟨_, rfl, rfl, rfl⟩ | ⟨q, _⟩
    · exact ⟨by decide, by decide⟩
    · cases q
theorem cl_tb2 (v : Nat) : clF tentR lineW 3 true 2 v = tb2 v := by
  refine (clF_is tent_fit (s := 2) (by decide) v).uniq (isD_by (f := tb2) rfl (fun v h => ?_) (fun v => ?_) (fun u v x e h => ?_) v)
  · unfold tb2 at h ⊢
    split at h
    · subst_vars; exact .nil
    · split at h
      · subst_vars; exact .edge tent_21
      · omega
  · unfold tb2
    split
    · exact .inr (by decide)
    · split
      · exact .inr (by decide)
      · exact .inl rfl
  · rcases tent_e e with ⟨q, _⟩ | ⟨_, rfl, rfl, rfl⟩
    · cases q
    · exact ⟨by decide, by decide⟩
theorem cl_t0 (v : Nat) : clF tentR lineW 3 true 0 v = if v = 0 then 0 else -1 := cl_alone tent_fit (s := 0) (by decide) (fun v x e => by
  rcases tent_e e with ⟨q, _⟩ | ⟨_, q, _⟩
  · cases q
  · omega) v
theorem cl_t2 (v : Nat) : clF tentR lineW 3 false 2 v = if v = 2 then 0 else -1 := cl_alone tent_fit (s := 2) (by decide) (fun v x e => by
  rcases tent_e e with ⟨_, q, _⟩ | ⟨q, _⟩
  · omega
  · cases q) v
theorem tent_02 : whereF tentR lineW 0 2 = (5, 1) := by
  unfold whereF fwdL bckL
  rw [show ((tentR.length : Nat) : Int) = 3 from rfl, rowsL_f cl_tf0, rowsL_f cl_tb2, show rowsL tentR.length tf0 (fun _ => true) = [(0, 0), (1, 2)] by decide, show rowsL tentR.length tb2 (fun _ => true) = [(1, 3), (2, 0)] by decide]
  unfold meetF
  rw [show com [(0, 0), (1, 2)] [(1, 3), (2, 0)] = [((1, 2), (1, 3))] by decide]
  unfold meetD meetS
  simp only [List.foldl_cons, List.foldl_nil, true_or, if_pos]
  rw [w64 (by decide) (by decide)]; rfl
theorem tent_20 : whereF tentR lineW 2 0 = (-1, -1) := by
  unfold whereF fwdL bckL
  rw [show ((tentR.length : Nat) : Int) = 3 from rfl, rowsL_f cl_t2, rowsL_f cl_t0, show rowsL tentR.length (fun v => if v = 2 then 0 else -1) (fun _ => true) = [(2, 0)] by decide, show rowsL tentR.length (fun v => if v = 0 then 0 else -1) (fun _ => true) = [(0, 0)] by decide]
  rfl
theorem known12_ok (hcv : SpaceCV CV) {K : Bool → World → Prop} (hk : ∀ w', Ext w w' → K true w') : sh_postroadlaw12_known CV K w := by
  unfold sh_postroadlaw12_known
  intro b1 w2 e2 g1 hB1 b3 w4 e4 g3 hB3
  have hr : View RI w4 ⟨some ⟨b1, 0, none⟩, 3, 3⟩ tentR := View.all (R := RI) (xs := tentR) (e4.blkE hB1)
  have hy : View RW w4 ⟨some ⟨b3, 0, none⟩, 2, 2⟩ lineW := View.all (R := RW) (xs := lineW) hB3
  refine HNew_ok hr hy (by decide) (by decide) (fun _ p w6 F e6 hH _ => ?_) (fun hno => absurd tent_ok hno)
  refine Where_ok hcv (s := 0) (t := 2) hH tent_fit fun w9 e9 => ?_
  rw [tent_02, show ((5 : Int) == 5) = true from rfl, cond_true, show ((1 : Int) == 1) = true from rfl, cond_true]
  refine Far_ok hcv (s := 0) (t := 2) (hH.ext e9) tent_fit fun w11 e11 => ?_
  rw [tent_02, show ((5 : Int) == 5) = true from rfl, cond_true]
  refine Far_ok hcv (s := 2) (t := 0) (hH.ext (e9.trans e11)) tent_fit fun w13 e13 => ?_
  rw [tent_20]
  exact hk w13 (((e2.trans e4).trans (e6.trans e9)).trans (e11.trans e13))

/-! ### As far as the map -/
theorem sum_w (fit : FitH rank ways) {s t : Nat} (hs : s < rank.length) (ht : t < rank.length) {m : Nat} (hm : m < rank.length) (h1 : 0 ≤ clF rank ways rank.length false s m) (h2 : 0 ≤ clF rank ways rank.length true t m) :
    IntKind.i64.wrap (clF rank ways rank.length false s m + clF rank ways rank.length true t m) = clF rank ways rank.length false s m + clF rank ways rank.length true t m := by
  have a := wk_len fit ((clF_is (top := (rank.length : Int)) (back := false) fit hs m).wk h1)
  have b := wk_len fit ((clF_is (top := (rank.length : Int)) (back := true) fit ht m).wk h2)
  have := okR_rk fit.ok hs; have := okR_rk fit.ok ht; have := okR_rk fit.ok hm
  have := fit.n
  exact w64 (by omega) (by omega)
end
end Go.Sh

/- A search: what is settled, and what is open; two of them, step by step. -/
set_option maxRecDepth 100000
namespace Go.Sh
open Go.RowKit

/-- What is open, as a list. -/
def opnL (n : Nat) (o : Nat → Int) : List (Int × Int) := ((List.range n).filter fun v => decide (0 ≤ o v)).map fun (v : Nat) => ((v : Int), o v)
theorem mem_opnL {n : Nat} {o : Nat → Int} {e : Int × Int} : e ∈ opnL n o ↔ ∃ v, v < n ∧ 0 ≤ o v ∧ e = ((v : Int), o v) := by
  unfold opnL
  rw [List.mem_map]
  constructor
  · rintro ⟨v, hv, rfl⟩
    rw [List.mem_filter, List.mem_range, decide_eq_true_iff] at hv
    exact ⟨v, hv.1, hv.2, rfl⟩
  · rintro ⟨v, h1, h2, rfl⟩
    exact ⟨v, by rw [List.mem_filter, List.mem_range, decide_eq_true_iff]; exact ⟨h1, h2⟩, rfl⟩
theorem opnL_at {n : Nat} {o : Nat → Int} {v : Nat} {k : Int} : ((v : Int), k) ∈ opnL n o ↔ v < n ∧ 0 ≤ o v ∧ k = o v := by
  rw [mem_opnL]
  constructor
  · rintro ⟨u, h1, h2, h3⟩
    have a := congrArg Prod.fst h3
    have b := congrArg Prod.snd h3
    simp only at a b
    have : u = v := by omega
    subst this; exact ⟨h1, h2, b⟩
  · rintro ⟨h1, h2, rfl⟩; exact ⟨v, h1, h2, rfl⟩

/-- The first of what is open. -/
def IsFst (n : Nat) (o : Nat → Int) (v : Nat) : Prop := v < n ∧ 0 ≤ o v ∧ ∀ u, u < n → 0 ≤ o u → o v < o u ∨ o v = o u ∧ v ≤ u
theorem IsFst.uniq {n : Nat} {o : Nat → Int} {u v : Nat} (h : IsFst n o u) (k : IsFst n o v) : u = v := by
  have a := h.2.2 v k.1 k.2.1
  have b := k.2.2 u h.1 h.2.1
  omega
/-- An edge is looked at; a place is settled. -/
def rlxO (f : Nat → Int) (d : Int) (o : Nat → Int) (e : Int × Int × Int) : Nat → Int := if f e.1.toNat < 0 ∧ (o e.1.toNat < 0 ∨ d + e.2.1 < o e.1.toNat) then up1 o e.1.toNat (d + e.2.1) else o
def setF (f o : Nat → Int) (v : Nat) : Nat → Int := up1 f v (o v)
def setO (f o : Nat → Int) (v : Nat) (ed : List (Int × Int × Int)) : Nat → Int := ed.foldl (rlxO (setF f o v) (o v)) (up1 o v (-1))

/-- A search is on its way. -/
structure Sch (n s : Nat) (M : Int) (ed : Nat → List (Int × Int × Int)) (f o : Nat → Int) : Prop where
  d : Dij (EE' n ed) n s M f (opnL n o)
  o : ∀ v, v < n → o v = -1 ∨ 0 ≤ o v
section
variable {n s : Nat} {M : Int} {ed : Nat → List (Int × Int × Int)} {f o : Nat → Int}
theorem Sch.begin (hs : s < n) (hM : 0 ≤ M) : Sch n s M ed (fun _ => -1) (up1 (fun _ => -1) s 0) := by
  have h : opnL n (up1 (fun _ => -1) s 0) = [((s : Int), 0)] := by
    refine sorted_ext1 ?_ fun e => ?_
    · unfold opnL
      rw [List.pairwise_map]
      exact (List.Pairwise.filter _ List.pairwise_lt_range).imp fun h => by dsimp only; omega
    · rw [mem_opnL]
      constructor
      · rintro ⟨v, _, h2, rfl⟩
        by_cases e : v = s
        · subst e; rw [up1_at]
        · rw [up1_ne e] at h2; omega
      · rintro rfl
        exact ⟨s, hs, by rw [up1_at]; decide, by rw [up1_at]⟩
  refine ⟨by rw [h]; exact Dij.begin hs hM, fun v _ => ?_⟩
  by_cases e : v = s
  · subst e; rw [up1_at]; exact .inr (by decide)
  · rw [up1_ne e]; exact .inl rfl

theorem Sch.settle (h : Sch n s M ed f o) (ok : EdOk n M ed) {v : Nat} (hv : IsFst n o v) : Sch n s M ed (setF f o v) (setO f o v (ed v)) ∧ cntR (setF f o v) n = cntR f n + 1 ∧ IsD (EE' n ed) s v (o v) := by
  have hpos : ∀ u v x, EE' n ed u v x → 0 ≤ x := fun u v x ⟨hu, e, he, _, hx⟩ => by have := ok.e u hu e he; omega
  have hdom : ∀ u v x, EE' n ed u v x → u < n → v < n := fun u v x ⟨hu, e, he, hv, _⟩ _ => by have := ok.e u hu e he; omega
  have hm : ((v : Int), o v) ∈ opnL n o := opnL_at.2 ⟨hv.1, hv.2.1, rfl⟩
  have hmin : ∀ y ∈ opnL n o, o v ≤ y.2 := fun y hy => by
    obtain ⟨u, u1, u2, rfl⟩ := mem_opnL.1 hy
    have := hv.2.2 u u1 u2
    simp only; omega
  have hD := h.d.least hpos hdom hm hmin
  have hne : ∀ (o' : Nat → Int) (u : Nat) (x : Int), (∀ e, e ∈ opnL n (up1 o' u x) ↔ (u < n ∧ 0 ≤ x ∧ e = ((u : Int), x)) ∨ e ∈ opnL n o' ∧ e.1 ≠ (u : Int)) := fun o' u x e => by
    rw [mem_opnL, mem_opnL]
    constructor
    · rintro ⟨a, a1, a2, rfl⟩
      by_cases q : a = u
      · subst q; rw [up1_at] at a2 ⊢; exact .inl ⟨a1, a2, rfl⟩
      · rw [up1_ne q] at a2 ⊢; exact .inr ⟨⟨a, a1, a2, rfl⟩, by simp only; omega⟩
    · rintro (⟨a1, a2, rfl⟩ | ⟨⟨a, a1, a2, rfl⟩, a3⟩)
      · exact ⟨u, a1, by rw [up1_at]; exact a2, by rw [up1_at]⟩
      · have q : a ≠ u := fun q => a3 (by rw [q])
        exact ⟨a, a1, by rw [up1_ne q]; exact a2, by rw [up1_ne q]⟩
  obtain ⟨hP, _, hcnt⟩ := h.d.pop hpos hdom hm hmin (L' := opnL n (up1 o v (-1))) fun e => by
    rw [hne]
    exact ⟨fun q => q.elim (fun q => by omega) id, .inr⟩
  simp only [Int.toNat_natCast] at hP hcnt hD
  have key : ∀ i, i ≤ (ed v).length → DijP (EE' n ed) n s M (setF f o v) (opnL n (((ed v).take i).foldl (rlxO (setF f o v) (o v)) (up1 o v (-1)))) v (fun v' x' => ∃ j, ∃ hj : j < (ed v).length, j < i ∧ ((ed v)[j]).1 = (v' : Int) ∧ ((ed v)[j]).2.1 = x') ∧
      ∀ u, u < n → (((ed v).take i).foldl (rlxO (setF f o v) (o v)) (up1 o v (-1))) u = -1 ∨ 0 ≤ (((ed v).take i).foldl (rlxO (setF f o v) (o v)) (up1 o v (-1))) u := by
    intro i
    induction i with
    | zero =>
      intro _
      refine ⟨hP.mono fun _ _ ⟨j, _, hj, _⟩ => by omega, fun u hu => ?_⟩
      simp only [List.take_zero, List.foldl_nil]
      by_cases e : u = v
      · subst e; exact .inl up1_at
      · rw [up1_ne e]; exact h.o u hu
    | succ i ih =>
      intro hi
      have hi' : i < (ed v).length := by omega
      obtain ⟨ih, io⟩ := ih (by omega)
      rw [List.take_add_one, List.getElem?_eq_getElem hi', Option.toList_some, List.foldl_append]
      generalize ((ed v).take i).foldl (rlxO (setF f o v) (o v)) (up1 o v (-1)) = o' at ih io
      obtain ⟨q0, q1, q2, q3⟩ := ok.e v hv.1 _ (List.getElem_mem hi')
      obtain ⟨u, hu⟩ := Int.eq_ofNat_of_zero_le q0
      have hun : u < n := by omega
      have hEv : EE' n ed v u ((ed v)[i]).2.1 := ⟨hv.1, _, List.getElem_mem hi', hu, rfl⟩
      have hfv : setF f o v v = o v := up1_at
      have mono : ∀ {L : List (Int × Int)}, DijP (EE' n ed) n s M (setF f o v) L v (fun v' x' => (∃ j, ∃ hj : j < (ed v).length, j < i ∧ ((ed v)[j]).1 = (v' : Int) ∧ ((ed v)[j]).2.1 = x') ∨ v' = u ∧ x' = ((ed v)[i]).2.1) →
          DijP (EE' n ed) n s M (setF f o v) L v (fun v' x' => ∃ j, ∃ hj : j < (ed v).length, j < i + 1 ∧ ((ed v)[j]).1 = (v' : Int) ∧ ((ed v)[j]).2.1 = x') := fun h => h.mono fun v' x' ⟨j, hj, hji, r1, r2⟩ => by
        by_cases e : j = i
        · subst e; right; exact ⟨by omega, r2.symm⟩
        · left; exact ⟨j, hj, by omega, r1, r2⟩
      simp only [List.foldl_cons, List.foldl_nil]
      unfold rlxO
      rw [hu, Int.toNat_natCast]
      by_cases hc : setF f o v u < 0 ∧ (o' u < 0 ∨ o v + ((ed v)[i]).2.1 < o' u)
      · rw [if_pos hc]
        have hfu : setF f o v u = -1 := by
          rcases ih.d u hun with q | ⟨_, q, _⟩
          · exact q
          · omega
        refine ⟨mono (ih.set hun hEv q3 hfu (fun k hk => ?_) fun e => ?_), fun a ha => ?_⟩
        · obtain ⟨_, k2, rfl⟩ := opnL_at.1 hk
          rw [hfv]; omega
        · rw [hne, hfv]
          exact or_congr ⟨fun q => q.2.2, fun q => ⟨hun, by have := hv.2.1; omega, q⟩⟩ Iff.rfl
        · by_cases e : a = u
          · subst e; rw [up1_at]; exact .inr (by have := hv.2.1; omega)
          · rw [up1_ne e]; exact io a ha
      · rw [if_neg hc]
        refine ⟨mono (ih.skip ?_), io⟩
        by_cases h1 : 0 ≤ setF f o v u
        · exact .inl h1
        · right
          have : ¬ (o' u < 0 ∨ o v + ((ed v)[i]).2.1 < o' u) := fun q => hc ⟨by omega, q⟩
          exact ⟨o' u, opnL_at.2 ⟨hun, by omega, rfl⟩, by rw [hfv]; omega⟩
  obtain ⟨k1, k2⟩ := key _ (Nat.le_refl _)
  rw [List.take_length] at k1 k2
  refine ⟨⟨k1.done fun v' x ⟨_, e, he, r1, r2⟩ => ?_, k2⟩, hcnt, hD⟩
  obtain ⟨j, hj, rfl⟩ := List.getElem_of_mem he
  exact ⟨j, hj, hj, r1, r2⟩
end
end Go.Sh

/- Both searches, step by step. -/
set_option maxRecDepth 100000
namespace Go.Sh
open Go.RowKit

/-- One of both may go on with v. -/
def Avl (n : Nat) (o : Nat → Int) (best : Int) (v : Nat) : Prop := IsFst n o v ∧ (best < 0 ∨ o v < best)
theorem Avl.uniq {n : Nat} {o : Nat → Int} {best : Int} {u v : Nat} (h : Avl n o best u) (k : Avl n o best v) : u = v := h.1.uniq k.1
/-- The best sum, with a place. -/
def bstF (f g : Nat → Int) (v : Nat) (best : Int) : Int := if 0 ≤ f v ∧ 0 ≤ g v ∧ (best < 0 ∨ f v + g v < best) then f v + g v else best

structure BS where
  fa : Nat → Int
  oa : Nat → Int
  fb : Nat → Int
  ob : Nat → Int
  best : Int
  steps : Nat
def BS.goA (x : BS) (ea : Nat → List (Int × Int × Int)) (v : Nat) : BS := ⟨setF x.fa x.oa v, setO x.fa x.oa v (ea v), x.fb, x.ob, bstF (setF x.fa x.oa v) x.fb v x.best, x.steps + 1⟩
def BS.goB (x : BS) (eb : Nat → List (Int × Int × Int)) (v : Nat) : BS := ⟨x.fa, x.oa, setF x.fb x.ob v, setO x.fb x.ob v (eb v), bstF x.fa (setF x.fb x.ob v) v x.best, x.steps + 1⟩
inductive BStep (n : Nat) (ea eb : Nat → List (Int × Int × Int)) : BS → BS → Prop
  | a {x : BS} {v : Nat} (h : Avl n x.oa x.best v) (hb : ∀ u, Avl n x.ob x.best u → x.oa v ≤ x.ob u) : BStep n ea eb x (x.goA ea v)
  | b {x : BS} {v : Nat} (h : Avl n x.ob x.best v) (ha : ∀ u, Avl n x.oa x.best u → x.ob v < x.oa u) : BStep n ea eb x (x.goB eb v)
def BStop (n : Nat) (x : BS) : Prop := (∀ v, ¬ Avl n x.oa x.best v) ∧ ∀ v, ¬ Avl n x.ob x.best v
inductive BRun (n : Nat) (ea eb : Nat → List (Int × Int × Int)) (x : BS) : BS → Prop
  | nil : BRun n ea eb x x
  | snoc {y z : BS} : BRun n ea eb x y → BStep n ea eb y z → BRun n ea eb x z
section
variable {n : Nat} {ea eb : Nat → List (Int × Int × Int)} {x y z : BS}
theorem BStep.det (h : BStep n ea eb x y) (k : BStep n ea eb x z) : y = z := by
  cases h with
  | a h hb =>
    cases k with
    | a k _ => rw [h.uniq k]
    | b k ha => have := hb _ k; have := ha _ h; omega
  | b h ha =>
    cases k with
    | a k hb => have := hb _ h; have := ha _ k; omega
    | b k _ => rw [h.uniq k]
theorem BStep.no (h : BStep n ea eb x y) (k : BStop n x) : False := by
  cases h with
  | a h _ => exact k.1 _ h
  | b h _ => exact k.2 _ h
theorem BStep.steps (h : BStep n ea eb x y) : y.steps = x.steps + 1 := by cases h <;> rfl
theorem BRun.first (h : BRun n ea eb x z) : x = z ∨ ∃ y, BStep n ea eb x y ∧ BRun n ea eb y z := by
  induction h with
  | nil => exact .inl rfl
  | snoc _ e ih =>
    right
    rcases ih with rfl | ⟨y, h1, h2⟩
    · exact ⟨_, e, .nil⟩
    · exact ⟨y, h1, h2.snoc e⟩
theorem BRun.steps (h : BRun n ea eb x y) : x.steps ≤ y.steps := by
  induction h with
  | nil => exact Nat.le_refl _
  | snoc _ e ih => have := e.steps; omega
/-- There is one end alone. -/
theorem BRun.end_ : ∀ (k : Nat) {x y z : BS}, BRun n ea eb x y → BStop n y → BRun n ea eb x z → BStop n z → y.steps - x.steps ≤ k → y = z
  | 0, x, y, z, h, hy, k, hz, hk => by
    rcases h.first with rfl | ⟨a, h1, h2⟩
    · rcases k.first with rfl | ⟨b, k1, _⟩
      · rfl
      · exact (k1.no hy).elim
    · have := h1.steps; have := h2.steps; omega
  | m + 1, x, y, z, h, hy, k, hz, hk => by
    rcases h.first with rfl | ⟨a, h1, h2⟩
    · rcases k.first with rfl | ⟨b, k1, _⟩
      · rfl
      · exact (k1.no hy).elim
    · rcases k.first with rfl | ⟨b, k1, k2⟩
      · exact (h1.no hz).elim
      · have e := h1.det k1
        subst e
        have := h1.steps
        exact BRun.end_ m h2 hy k2 hz (by omega)
end

/-- What is known on the way. -/
structure BInv (n s t : Nat) (M : Int) (ea eb : Nat → List (Int × Int × Int)) (x : BS) : Prop where
  a : Sch n s M ea x.fa x.oa
  b : Sch n t M eb x.fb x.ob
  best : (x.best = -1 ∧ ∀ m, m < n → ¬ (0 ≤ x.fa m ∧ 0 ≤ x.fb m)) ∨ (0 ≤ x.best ∧ (∃ m, m < n ∧ 0 ≤ x.fa m ∧ 0 ≤ x.fb m ∧ x.best = x.fa m + x.fb m) ∧ ∀ m, m < n → 0 ≤ x.fa m → 0 ≤ x.fb m → x.best ≤ x.fa m + x.fb m)
  st : x.steps = cntR x.fa n + cntR x.fb n
section
variable {n s t : Nat} {M : Int} {ea eb : Nat → List (Int × Int × Int)} {x y : BS}
def BS.start (s t : Nat) : BS := ⟨fun _ => -1, up1 (fun _ => -1) s 0, fun _ => -1, up1 (fun _ => -1) t 0, -1, 0⟩
theorem cntR_none (n : Nat) : cntR (fun _ => (-1 : Int)) n = 0 := by
  induction n with
  | zero => rfl
  | succ n ih => unfold cntR; rw [ih, if_neg (by decide)]
theorem BInv.begin (hs : s < n) (ht : t < n) (hM : 0 ≤ M) : BInv n s t M ea eb (BS.start s t) :=
  ⟨Sch.begin hs hM, Sch.begin ht hM, .inl ⟨rfl, fun m _ h => by have := h.1; simp only [BS.start] at this; omega⟩, by show 0 = _; simp only [BS.start]; rw [cntR_none]⟩

theorem bstF_ok {f g f' : Nat → Int} {n v : Nat} {best : Int} (hv : v < n) (hf : 0 ≤ f' v) (hne : ∀ m, m < n → m ≠ v → f' m = f m) (hold : f v = -1)
    (h : (best = -1 ∧ ∀ m, m < n → ¬ (0 ≤ f m ∧ 0 ≤ g m)) ∨ (0 ≤ best ∧ (∃ m, m < n ∧ 0 ≤ f m ∧ 0 ≤ g m ∧ best = f m + g m) ∧ ∀ m, m < n → 0 ≤ f m → 0 ≤ g m → best ≤ f m + g m)) :
    (bstF f' g v best = -1 ∧ ∀ m, m < n → ¬ (0 ≤ f' m ∧ 0 ≤ g m)) ∨ (0 ≤ bstF f' g v best ∧ (∃ m, m < n ∧ 0 ≤ f' m ∧ 0 ≤ g m ∧ bstF f' g v best = f' m + g m) ∧ ∀ m, m < n → 0 ≤ f' m → 0 ≤ g m → bstF f' g v best ≤ f' m + g m) := by
  unfold bstF
  by_cases hc : 0 ≤ f' v ∧ 0 ≤ g v ∧ (best < 0 ∨ f' v + g v < best)
  · rw [if_pos hc]
    refine .inr ⟨by omega, ⟨v, hv, hc.1, hc.2.1, rfl⟩, fun m hm h1 h2 => ?_⟩
    by_cases e : m = v
    · subst e; exact Int.le_refl _
    · rw [hne m hm e] at h1 ⊢
      rcases h with ⟨_, q⟩ | ⟨q0, _, q⟩
      · exact absurd ⟨h1, h2⟩ (q m hm)
      · have := q m hm h1 h2; omega
  · rw [if_neg hc]
    rcases h with ⟨q1, q2⟩ | ⟨q0, ⟨m, m1, m2, m3, m4⟩, q⟩
    · refine .inl ⟨q1, fun m hm ⟨h1, h2⟩ => ?_⟩
      by_cases e : m = v
      · subst e; exact hc ⟨h1, h2, .inl (by omega)⟩
      · rw [hne m hm e] at h1; exact q2 m hm ⟨h1, h2⟩
    · have mv : m ≠ v := fun e => by subst e; omega
      refine .inr ⟨q0, ⟨m, m1, by rw [hne m m1 mv]; exact m2, m3, by rw [hne m m1 mv]; exact m4⟩, fun k hk h1 h2 => ?_⟩
      by_cases e : k = v
      · subst e
        have : ¬ (best < 0 ∨ f' k + g k < best) := fun q => hc ⟨h1, h2, q⟩
        omega
      · rw [hne k hk e] at h1 ⊢; exact q k hk h1 h2
theorem bstF_comm (f g : Nat → Int) (v : Nat) (best : Int) : bstF f g v best = bstF g f v best := by
  unfold bstF
  rw [Int.add_comm (g v)]
  by_cases h : 0 ≤ f v ∧ 0 ≤ g v ∧ (best < 0 ∨ f v + g v < best)
  · rw [if_pos h, if_pos ⟨h.2.1, h.1, h.2.2⟩]
  · rw [if_neg h, if_neg fun q => h ⟨q.2.1, q.1, q.2.2⟩]

theorem BInv.step (h : BInv n s t M ea eb x) (oka : EdOk n M ea) (okb : EdOk n M eb) (k : BStep n ea eb x y) : BInv n s t M ea eb y := by
  cases k with
  | @a v hv _ =>
    obtain ⟨h1, h2, _⟩ := h.a.settle oka hv.1
    have hf := (h.a.d.o _ (opnL_at.2 ⟨hv.1.1, hv.1.2.1, rfl⟩)).2.2.1
    simp only [Int.toNat_natCast] at hf
    refine ⟨h1, h.b, bstF_ok hv.1.1 (by unfold setF; rw [up1_at]; exact hv.1.2.1) (fun m _ e => up1_ne e) hf h.best, ?_⟩
    have := h.st
    show x.steps + 1 = cntR (setF x.fa x.oa v) n + cntR x.fb n
    omega
  | @b v hv _ =>
    obtain ⟨h1, h2, _⟩ := h.b.settle okb hv.1
    have hf := (h.b.d.o _ (opnL_at.2 ⟨hv.1.1, hv.1.2.1, rfl⟩)).2.2.1
    simp only [Int.toNat_natCast] at hf
    have hb := h.best
    refine ⟨h.a, h1, ?_, ?_⟩
    · show (bstF x.fa (setF x.fb x.ob v) v x.best = -1 ∧ _) ∨ _
      have := bstF_ok (f := x.fb) (g := x.fa) (f' := setF x.fb x.ob v) (best := x.best) hv.1.1 (by unfold setF; rw [up1_at]; exact hv.1.2.1) (fun m _ e => up1_ne e) hf (by
        rcases hb with ⟨q1, q2⟩ | ⟨q0, ⟨m, m1, m2, m3, m4⟩, q⟩
        · exact .inl ⟨q1, fun m hm r => q2 m hm ⟨r.2, r.1⟩⟩
        · exact .inr ⟨q0, ⟨m, m1, m3, m2, by omega⟩, fun k hk r1 r2 => by have := q k hk r2 r1; omega⟩)
      rw [bstF_comm] at this
      rcases this with ⟨q1, q2⟩ | ⟨q0, ⟨m, m1, m2, m3, m4⟩, q⟩
      · exact .inl ⟨q1, fun m hm r => q2 m hm ⟨r.2, r.1⟩⟩
      · exact .inr ⟨q0, ⟨m, m1, m3, m2, by show bstF _ _ _ _ = x.fa m + setF x.fb x.ob v m; omega⟩, fun k hk r1 r2 => by
          have := q k hk r2 r1
          show bstF _ _ _ _ ≤ x.fa k + setF x.fb x.ob v k
          omega⟩
    · have := h.st
      show x.steps + 1 = cntR x.fa n + cntR (setF x.fb x.ob v) n
      omega
theorem BInv.run (h : BInv n s t M ea eb x) (oka : EdOk n M ea) (okb : EdOk n M eb) (k : BRun n ea eb x y) : BInv n s t M ea eb y := by
  induction k with
  | nil => exact h
  | snoc _ e ih => exact ih.step oka okb e

end
end Go.Sh

/- To many, and from many. -/
set_option maxRecDepth 100000
namespace Go.Sh
open Go.RowKit

/-- The least, -1 where there is none. -/
def mvS (o d : Int) : Int := if o = -1 ∨ d < o then d else o
theorem meet_mv {d : List (Rc2 × Rc2)} (h0 : ∀ p ∈ d, 0 ≤ p.1.1) (hs : ∀ p ∈ d, 0 ≤ sumP p) : (meetD d).1 = (d.map sumP).foldl mvS (-1) := by
  suffices h : ∀ n, n ≤ d.length → (meetD (d.take n)).1 = ((d.take n).map sumP).foldl mvS (-1) ∧ ((meetD (d.take n)).2 = -1 ↔ (meetD (d.take n)).1 = -1) by
    have := (h d.length (Nat.le_refl _)).1
    rw [List.take_length] at this; exact this
  intro n
  induction n with
  | zero => intro _; exact ⟨rfl, Iff.rfl⟩
  | succ n ih =>
    intro hn
    have hn' : n < d.length := by omega
    obtain ⟨i1, i2⟩ := ih (by omega)
    have e : d.take (n + 1) = d.take n ++ [d[n]] := by rw [List.take_add_one, List.getElem?_eq_getElem hn']; rfl
    have p0 := h0 _ (List.getElem_mem hn')
    have s0 := hs _ (List.getElem_mem hn')
    rw [e, meetD_snoc, List.map_append, List.foldl_append, ← i1]
    show (meetS (meetD (d.take n)) d[n]).1 = mvS _ (sumP d[n]) ∧ _
    unfold meetS mvS
    change 0 ≤ IntKind.i64.wrap (d[n].1.2 + d[n].2.2) at s0
    unfold sumP
    by_cases h1 : (meetD (d.take n)).2 = -1
    · rw [if_pos (.inl h1), if_pos (.inl (i2.1 h1))]
      refine ⟨rfl, ?_⟩
      simp only
      constructor <;> intro q <;> omega
    · have h1' : ¬ (meetD (d.take n)).1 = -1 := fun q => h1 (i2.2 q)
      by_cases h2 : IntKind.i64.wrap (d[n].1.2 + d[n].2.2) ≤ (meetD (d.take n)).1
      · rw [if_pos (.inr h2)]
        refine ⟨?_, ?_⟩
        · simp only
          split <;> omega
        · simp only
          constructor <;> intro q <;> omega
      · rw [if_neg (fun q => q.elim h1 h2), if_neg (fun q => q.elim h1' fun q => by omega)]
        exact ⟨rfl, i2⟩

section
variable {CV : CVT} {w : World} {p : Option Addr} {rank : List Int} {ways : List Wy} {F : Nat → Prop}

/-- What lies in a place's bucket, of the first i targets. -/
noncomputable def bkL (rank : List Int) (ways : List Wy) (ts : List Int) : Nat → Nat → List Rc2
  | 0, _ => []
  | i + 1, v => bkL rank ways ts i v ++ ((bckL rank ways (ts.getD i 0)).filter fun e => e.1 == (v : Int)).map fun e => ((i : Int), e.2)
theorem bkL_succ (ts : List Int) (i v : Nat) : bkL rank ways ts (i + 1) v = bkL rank ways ts i v ++ ((bckL rank ways (ts.getD i 0)).filter fun e => e.1 == (v : Int)).map fun e => ((i : Int), e.2) := rfl
theorem bkL_lt {ts : List Int} {i v : Nat} {e : Rc2} (h : e ∈ bkL rank ways ts i v) : 0 ≤ e.1 ∧ e.1 < i := by
  induction i with
  | zero => simp [bkL] at h
  | succ i ih =>
    rw [bkL_succ] at h
    rcases List.mem_append.1 h with h | h
    · have := ih h; omega
    · obtain ⟨x, _, rfl⟩ := List.mem_map.1 h
      simp only; omega
theorem bkL_filter {ts : List Int} {v k : Nat} : ∀ {i : Nat}, (bkL rank ways ts i v).filter (fun e => e.1 == (k : Int)) = if k < i then ((bckL rank ways (ts.getD k 0)).filter fun e => e.1 == (v : Int)).map fun e => ((k : Int), e.2) else []
  | 0 => by simp [bkL]
  | i + 1 => by
    rw [bkL_succ, List.filter_append, bkL_filter]
    by_cases h : k = i
    · subst h
      rw [if_neg (by omega), if_pos (by omega), List.nil_append, List.filter_eq_self.2]
      intro e he
      obtain ⟨x, _, rfl⟩ := List.mem_map.1 he
      simp
    · rw [show (((bckL rank ways (ts.getD i 0)).filter fun e => e.1 == (v : Int)).map fun e => ((i : Int), e.2)).filter (fun e => e.1 == (k : Int)) = [] by
        rw [List.filter_eq_nil_iff]
        intro e he
        obtain ⟨x, _, rfl⟩ := List.mem_map.1 he
        simp; omega, List.append_nil]
      by_cases h' : k < i
      · rw [if_pos h', if_pos (by omega)]
      · rw [if_neg h', if_neg (by omega)]
theorem filter_one {l : List Rc2} (h : Rz l) (v : Int) : (l.filter fun e => e.1 == v).length ≤ 1 := by
  induction l with
  | nil => simp
  | cons x l ih =>
    obtain ⟨h1, h2⟩ := List.pairwise_cons.1 h
    by_cases e : x.1 = v
    · rw [List.filter_cons_of_pos (by simpa using e), show (l.filter fun e => e.1 == v) = [] by
        rw [List.filter_eq_nil_iff]; intro y hy; have := h1 y hy; simp; omega]
      simp
    · rw [List.filter_cons_of_neg (by simpa using e)]; exact ih h2
theorem bkL_len (ts : List Int) (i v : Nat) : (bkL rank ways ts i v).length ≤ i := by
  induction i with
  | zero => exact Nat.le_refl _
  | succ i ih =>
    rw [bkL_succ, List.length_append, List.length_map]
    have := filter_one (bck_rz (rank := rank) (ways := ways) (ts.getD i 0)) (v : Int)
    omega

/-- Buckets in memory. -/
structure BkM (w0 w : World) (r : Nat) (mm : List (List Int × Value)) (sv : Nat → SV) (bk : Nat → List Rc2) : Prop where
  e : Ext w0 w
  m : MapIs false 1 w r mm
  rg : w0.heap.size ≤ r
  a : ∀ v : Nat, (assoc mm [(v : Int)]).getD (.slice none 0 0) = .slice (sv v).a (sv v).len (sv v).cap
  o : ∀ v, Own RE w (sv v) (bk v)
  f : ∀ v k, (sv v).blk k → w0.heap.size ≤ k ∧ k ≠ r
  d : ∀ u v k, u ≠ v → (sv u).blk k → ¬ (sv v).blk k
theorem BkM.ext {w0 w w' : World} {r : Nat} {mm : List (List Int × Value)} {sv : Nat → SV} {bk : Nat → List Rc2} (h : BkM w0 w r mm sv bk) (e : Ext w w') : BkM w0 w' r mm sv bk :=
  ⟨h.e.trans e, h.m.grow e, h.rg, h.a, fun v => (h.o v).ext e, h.f, h.d⟩
theorem buckets_ok (hcv : SpaceCV CV) {st : SV} {ts : List Int} {K : Option Nat → World → Prop} (hH : HierA w p rank ways F) (fit : FitH rank ways) (ht : View RI w st ts) (hn : ts.length ≤ 4096)
    (hk : ∀ r w' mm sv, BkM w w' r mm sv (bkL rank ways ts ts.length) → K (some r) w') : sh_query_buckets CV p st K w := by
  unfold sh_query_buckets
  have lt := ht.len
  have hfn := fit.n
  intro r w2 e2 g2 hm
  have h0 : BkM w w2 r [] (fun _ => ⟨none, 0, 0⟩) (bkL rank ways ts 0) := ⟨e2, MapIs.nil hm, g2, fun _ => rfl, fun _ => Own.nil, fun _ _ ⟨_, h, _⟩ => (by cases h), fun _ _ _ _ ⟨_, h, _⟩ => (by cases h)⟩
  refine LoopT.gh (γ := Nat) (fun i (st : Int × Unit) w' => st.1 = i ∧ i ≤ ts.length ∧ ∃ mm sv, BkM w w' r mm sv (bkL rank ways ts i)) (fun i => ts.length - i) 0 ⟨rfl, Nat.zero_le _, _, _, h0⟩ ?_
  rintro i ⟨x, _⟩ w5 ⟨hx, hi, mm, sv, hB⟩ J1 hJ1
  simp only at hx; subst hx
  dsimp only
  rw [Bool.cond_decide]
  by_cases hc : (i : Int) < (st.len : Int)
  · rw [if_pos hc]
    have hi' : i < ts.length := by omega
    refine int_idx (ht.ext hB.e) hi' fun _ a0 => ⟨_, a0, ?_⟩
    refine Back_ok hcv (hH.ext hB.e) fit fun s8 w9 e9 h8 f8 => ?_
    have lt5 : ∀ v k, (sv v).blk k → k < w5.heap.size := fun v k hk => (hB.o v).lt hk
    have lr5 := hB.m.lt
    have hB := hB.ext e9
    have hgd : ts.getD i 0 = ts[i] := by rw [List.getD_eq_getElem?_getD, List.getElem?_eq_getElem hi']; rfl
    change Own RE w9 s8 (bckL rank ways ts[i]) at h8
    have ll := rowsL_len rank.length (clF rank ways rank.length true ts[i]) fun _ => true
    change (bckL rank ways ts[i]).length ≤ _ at ll
    have hmem : ∀ e ∈ bckL rank ways ts[i], ∃ v : Nat, v < rank.length ∧ e.1 = (v : Int) := fun e he => by
      obtain ⟨v, hv, _, _, rfl⟩ := rowsL_mem.1 he; exact ⟨v, hv, rfl⟩
    have hfin : ∀ v, bkL rank ways ts (i + 1) v = bkL rank ways ts i v ++ ((bckL rank ways ts[i]).filter fun e => e.1 == (v : Int)).map fun e => ((i : Int), e.2) := fun v => by rw [bkL_succ, hgd]
    have lt8 : ∀ k, s8.blk k → w5.heap.size ≤ k ∧ k < w9.heap.size := fun k hk => ⟨f8 k hk, h8.lt hk⟩
    have d8 : ∀ v k, (sv v).blk k → ¬ s8.blk k := fun v k h1 h2 => by have := lt5 v k h1; have := (lt8 k h2).1; omega
    generalize bckL rank ways ts[i] = l at h8 ll hmem hfin
    have v8 := h8.view
    have l8 := v8.len
    refine LoopT.gh (γ := Nat) (fun j (st : Int × Unit) w' => st.1 = j ∧ j ≤ l.length ∧ w9.heap.size ≤ w'.heap.size ∧ View RE w' s8 l ∧ ∃ mm sv, BkM w w' r mm sv (fun v => bkL rank ways ts i v ++ ((l.take j).filter fun e => e.1 == (v : Int)).map fun e => ((i : Int), e.2)) ∧ ∀ v k, (sv v).blk k → ¬ s8.blk k) (fun j => l.length - j) 0
      ⟨rfl, Nat.zero_le _, Nat.le_refl _, v8, mm, sv, by simpa using hB, d8⟩ ?_
    clear hB v8 d8
    rintro j ⟨x, _⟩ w12 ⟨hx, hj, z12, v8, mm, sv, hB, d8⟩ J2 hJ2
    simp only at hx; subst hx
    dsimp only
    rw [Bool.cond_decide]
    by_cases hcj : (j : Int) < (s8.len : Int)
    · rw [if_pos hcj]
      have hj' : j < l.length := by omega
      obtain ⟨v, hv, hve⟩ := hmem _ (List.getElem_mem hj')
      refine re_idx v8 hj' fun _ a0 a1 => ⟨_, a0, _, a1, ?_⟩
      intro b16 w17 e17 g16 g16' w18 o18
      have z17 := e17.size; have z18 := o18.size
      have e18 : Ext w12 w18 := ext_off e17 o18 g16
      have hB18 := hB.ext e18
      refine ⟨mm, hB18.m, sv v, by rw [hve]; exact hB.a v, ?_⟩
      intro w21 e21
      have z21 := e21.size
      have hB21 := hB18.ext e21
      have lr := hB.m.lt
      have hlen : (bkL rank ways ts i v ++ ((l.take j).filter fun e => e.1 == (v : Int)).map fun e => ((i : Int), e.2)).length ≤ 4096 + 2048 := by
        rw [List.length_append, List.length_map]
        have := bkL_len (rank := rank) (ways := ways) ts i v
        have := List.length_filter_le (fun e : Rc2 => e.1 == (v : Int)) (l.take j)
        rw [List.length_take] at this
        omega
      intro b22 w23 e23 g22 hB22 w24 e24
      have z23 := e23.size; have z24 := e24.size
      have hB24 := hB21.ext (e23.trans e24)
      refine Own.app (R := RE) (hB24.o v) (View.one (R := RE) (x := ((i : Int), l[j].2)) (e24.blkE hB22)) (by simp only [List.length_cons, List.length_nil]; omega) (by simp only [List.length_cons, List.length_nil]; omega) fun s25 w26 c26 hs hO => ?_
      have z26 := c26.size
      refine ⟨kp_chg c26 fun b hb => ?_, fun w27 e27 => ?_⟩
      · simp only [List.mem_cons, List.not_mem_nil, or_false] at hb; subst hb
        exact ⟨by omega, fun hk => by have := (hB.o v).lt hk; omega⟩
      have z27 := e27.size
      have nr : ¬ (sv v).blk r := fun hk => (hB.f v r hk).2 rfl
      have hM27 : MapIs false 1 w27 r mm := (hB24.m.same (c26.block r (by omega) nr)).grow e27
      refine ⟨r, rfl, mm, hM27, fun w28 o28 hM28 => ?_⟩
      have z28 := o28.size
      refine ⟨kp_chg (.of_off (F := fun k => k = r) o28 rfl) fun b hb => ?_, fun w29 e29 => ?_⟩
      · simp only [List.mem_cons, List.not_mem_nil, or_false] at hb; subst hb
        exact ⟨by omega, by omega⟩
      have z29 := e29.size
      have f25 : ∀ k, s25.blk k → w.heap.size ≤ k ∧ k ≠ r := fun k hk => (hs k hk).elim (hB.f v k) fun h => ⟨by have := hB.e.size; omega, by omega⟩
      have e0 : Ext w w26 := ext_chg (hB24.e) c26 fun k hk => (hB.f v k hk).1
      have e28 : Ext w w28 := ext_off (e0.trans e27) o28 hB.rg
      refine hJ2 (j + 1) _ _ ⟨wsucc (m := 2 ^ 40) (by omega) (by omega), by omega, by omega, ?_, upd mm [l[j].1] (.slice s25.a s25.len s25.cap), fun u => if u = v then s25 else sv u, ⟨e28.trans e29, hM28.grow e29, hB.rg, fun u => ?_, fun u => ?_, fun u k hk => ?_, fun a b k hab ha hb => ?_⟩, fun u k hk h8k => ?_⟩ (by omega)
      · refine ((((v8.ext e18).ext e21).ext (e23.trans e24)).chg c26 fun k h1 h2 => d8 v k h2 h1).ext e27 |>.chg (.of_off (F := fun k => k = r) o28 rfl) (fun k h1 h2 => ?_) |>.ext e29
        have h9 := (lt8 k h1).1
        omega
      · rw [assoc_upd, hve]
        by_cases q : u = v
        · subst q; rw [if_pos rfl, if_pos rfl]; rfl
        · rw [if_neg (by simp only [List.cons.injEq, and_true]; omega), if_neg q]; exact hB.a u
      · have et : l.take (j + 1) = l.take j ++ [l[j]] := by rw [List.take_add_one, List.getElem?_eq_getElem hj']; rfl
        rw [et, List.filter_append, List.map_append, ← List.append_assoc]
        by_cases q : u = v
        · subst q
          rw [if_pos rfl, List.filter_cons_of_pos (by rw [hve]; simp)]
          exact ((hO.ext e27).chg (.of_off (F := fun k => k = r) o28 rfl) fun k hk e => (f25 k hk).2 e).ext e29
        · rw [if_neg q, List.filter_cons_of_neg (by rw [hve]; simp; omega)]
          simp only [List.filter_nil, List.map_nil, List.append_nil]
          exact ((((hB24.o u).chg c26 fun k h1 h2 => hB.d u v k q h1 h2).ext e27).chg (.of_off (F := fun k => k = r) o28 rfl) fun k hk e => (hB.f u k hk).2 e).ext e29
      · by_cases q : u = v
        · subst q; rw [if_pos rfl] at hk; exact f25 k hk
        · rw [if_neg q] at hk; exact hB.f u k hk
      · by_cases qa : a = v
        · rw [if_pos qa] at ha
          have qb : ¬ b = v := fun h => hab (qa.trans h.symm)
          rw [if_neg qb] at hb
          rcases hs k ha with h | h
          · exact hB.d v b k (fun h => qb h.symm) h hb
          · have := (hB.o b).lt hb; omega
        · rw [if_neg qa] at ha
          by_cases qb : b = v
          · rw [if_pos qb] at hb
            rcases hs k hb with h | h
            · exact hB.d a v k qa ha h
            · have := (hB.o a).lt ha; omega
          · rw [if_neg qb] at hb
            exact hB.d a b k hab ha hb
      · dsimp only at hk
        by_cases q : u = v
        · rw [if_pos q] at hk
          rcases hs k hk with h | h
          · exact d8 v k h h8k
          · have := (lt8 k h8k).2; omega
        · rw [if_neg q] at hk; exact d8 u k hk h8k
    · rw [if_neg hcj]
      have : j = l.length := by omega
      subst this
      rw [List.take_length] at hB
      refine hJ1 (i + 1) _ _ ⟨wsucc (m := 2 ^ 40) (by omega) (by omega), by omega, mm, sv, ?_⟩ (by omega)
      rw [show bkL rank ways ts (i + 1) = fun v => bkL rank ways ts i v ++ (l.filter fun e => e.1 == (v : Int)).map fun e => ((i : Int), e.2) from funext hfin]
      exact hB
  · rw [if_neg hc]
    have : i = ts.length := by omega
    subst this
    exact hk r w5 mm sv hB

/-- Sums of what both lists have are of numbers. -/
theorem com_nn (fit : FitH rank ways) {s t : Int} {pq : Rc2 × Rc2} (h : pq ∈ com (fwdL rank ways s) (bckL rank ways t)) : 0 ≤ pq.1.1 ∧ 0 ≤ sumP pq := by
  obtain ⟨c1, c2, c3⟩ := com_mem.1 h
  unfold fwdL at c1; unfold bckL at c2
  obtain ⟨a, a1, a2, _, a3⟩ := rowsL_mem.1 c1
  obtain ⟨b, b1, b2, _, b3⟩ := rowsL_mem.1 c2
  rw [a3, b3] at c3
  have : a = b := by simp only at c3; omega
  subst this
  have hs : 0 ≤ s ∧ s < rank.length := by
    by_cases q : 0 ≤ s ∧ s < rank.length
    · exact q
    · rw [clF_no q] at a2; omega
  have ht : 0 ≤ t ∧ t < rank.length := by
    by_cases q : 0 ≤ t ∧ t < rank.length
    · exact q
    · rw [clF_no q] at b2; omega
  obtain ⟨s, rfl⟩ := Int.eq_ofNat_of_zero_le hs.1
  obtain ⟨t, rfl⟩ := Int.eq_ofNat_of_zero_le ht.1
  unfold sumP
  rw [a3, b3]
  simp only
  rw [sum_w fit (by omega) (by omega) a1 a2 b2]
  exact ⟨by omega, by omega⟩
theorem where_mv (fit : FitH rank ways) (s t : Int) : (whereF rank ways s t).1 = ((com (fwdL rank ways s) (bckL rank ways t)).map sumP).foldl mvS (-1) :=
  meet_mv (fun _ h => (com_nn fit h).1) fun _ h => (com_nn fit h).2

/-- How far it is to each of many. -/
noncomputable def manyL (rank : List Int) (ways : List Wy) (s : Int) (ts : List Int) : List Int := fi ts.length fun k => (whereF rank ways s (ts.getD k 0)).1

theorem row_ok (hcv : SpaceCV CV) {w0 : World} {r : Nat} {mm : List (List Int × Value)} {sv : Nat → SV} {ts : List Int} {s0 : Int} {K : SV → World → Prop} (hH : HierA w p rank ways F) (fit : FitH rank ways) (hn : ts.length ≤ 4096) (hB : BkM w0 w r mm sv (bkL rank ways ts ts.length))
    (hk : ∀ s w', Ext w w' → Own RI w' s (manyL rank ways s0 ts) → Fsh w s → K s w') : sh_query_row CV p s0 (ts.length : Int) (some r) K w := by
  unfold sh_query_row
  have hfn := fit.n
  refine own_mk (R := RI) (by omega) (by omega) (by omega) fun s1 w2 e2 f2 o2 => ?_
  rw [Int.toNat_natCast, show RI.z = (0 : Int) from rfl, fi_rep] at o2
  have hA : Acc RI w w.heap.size w2 s1 (fi ts.length fun _ => 0) := ⟨e2, Nat.le_refl _, e2.size, o2, f2⟩
  have l1 := o2.view.len
  rw [fi_len] at l1
  refine Join.cut (fun _ w' => Acc RI w w.heap.size w' s1 (fi ts.length fun _ => -1)) (fun J hJ => ?_) ?_
  · refine LoopT.gh (γ := Nat) (fun i (st : Int × Unit) w' => st.1 = i ∧ i ≤ ts.length ∧ Acc RI w w.heap.size w' s1 (fi ts.length fun j => if j < i then -1 else 0)) (fun i => ts.length - i) 0 ⟨rfl, Nat.zero_le _, by simpa using hA⟩ ?_
    rintro i ⟨x, _⟩ w6 ⟨hx, hi, hA⟩ J1 hJ1
    simp only at hx; subst hx
    dsimp only
    rw [Bool.cond_decide]
    by_cases hci : (i : Int) < (s1.len : Int)
    · rw [if_pos hci]
      refine hA.wr (show i < ts.length by omega) fun p put => put w6 (-1) _ (.refl _) fun w8 c8 hA1 => ?_
      refine hJ1 (i + 1) _ _ ⟨wsucc (m := 2 ^ 40) (by omega) (by omega), by omega, ?_⟩ (by omega)
      rw [show fi ts.length (fun j => if j < i + 1 then (-1 : Int) else 0) = fi ts.length (up1 (fun j => if j < i then (-1 : Int) else 0) i (-1)) from fi_congr fun j hj => by
        unfold up1
        by_cases e : j = i
        · subst e; simp
        · rw [if_neg e]; dsimp only; by_cases q : j < i
          · rw [if_pos q, if_pos (by omega)]
          · rw [if_neg q, if_neg (by omega)]]
      exact hA1
    · rw [if_neg hci]
      have : i = ts.length := by omega
      subst this
      refine hJ _ _ ?_
      rw [show fi ts.length (fun _ => (-1 : Int)) = fi ts.length (fun j => if j < ts.length then (-1 : Int) else 0) from fi_congr fun j hj => by rw [if_pos hj]]
      exact hA
  · rintro _ w10 hA
    refine Forward_ok hcv (hH.ext hA.e) fit fun s11 w12 e12 h11 f11 => ?_
    have lf := rowsL_len rank.length (clF rank ways rank.length false s0) fun _ => true
    change Own RE w12 s11 (fwdL rank ways s0) at h11
    change (fwdL rank ways s0).length ≤ _ at lf
    have hmem : ∀ e ∈ fwdL rank ways s0, ∃ v : Nat, v < rank.length ∧ e.1 = (v : Int) := fun e he => by
      obtain ⟨v, hv, _, _, rfl⟩ := rowsL_mem.1 he; exact ⟨v, hv, rfl⟩
    have hwm := fun t => where_mv fit s0 t
    have hA12 := hA.ext e12
    have d11 : ∀ k, s11.blk k → ¬ s1.blk k := fun k h1 h2 => by have := f11 k h1; have := hA.o.lt h2; omega
    have lt11 : ∀ k, s11.blk k → k < w12.heap.size := fun k hk => h11.lt hk
    generalize hl : fwdL rank ways s0 = l at *
    have v11 := h11.view
    have l11 := v11.len
    let g : Nat → Nat → Int := fun i k => ((com (l.take i) (bckL rank ways (ts.getD k 0))).map sumP).foldl mvS (-1)
    refine LoopT.gh (γ := Nat) (fun i (st : Int × Unit) w' => st.1 = i ∧ i ≤ l.length ∧ w12.heap.size ≤ w'.heap.size ∧ View RE w' s11 l ∧ Acc RI w w.heap.size w' s1 (fi ts.length (g i))) (fun i => l.length - i) 0 ⟨rfl, Nat.zero_le _, Nat.le_refl _, v11, hA12⟩ ?_
    clear v11
    rintro i ⟨x, _⟩ w15 ⟨hx, hi, z15, v11, hA⟩ J1 hJ1
    simp only at hx; subst hx
    dsimp only
    rw [Bool.cond_decide]
    by_cases hc : (i : Int) < (s11.len : Int)
    · rw [if_pos hc]
      have hi' : i < l.length := by omega
      obtain ⟨u, hu, hue⟩ := hmem _ (List.getElem_mem hi')
      refine re_idx v11 hi' fun _ a0 a1 => ⟨_, a0, _, a1, ?_⟩
      intro b19 w20 e20 g19 g19' w21 o21
      have z20 := e20.size; have z21 := o21.size
      have e21 : Ext w15 w21 := ext_off e20 o21 g19
      have hA21 := hA.ext e21
      have hB21 := hB.ext hA21.e
      refine ⟨mm, hB21.m, sv u, by rw [hue]; exact hB.a u, ?_⟩
      have lbk := bkL_len (rank := rank) (ways := ways) ts ts.length u
      have hbl := fun e (he : e ∈ bkL rank ways ts ts.length u) => bkL_lt he
      have hbf := fun k => @bkL_filter rank ways ts u k ts.length
      have vb := hB.o u
      have lbs := vb.view.len
      generalize hbk : bkL rank ways ts ts.length u = bk at *
      let g2 : Nat → Nat → Int := fun j k => ((com (l.take i) (bckL rank ways (ts.getD k 0))).map sumP ++ ((bk.take j).filter fun e => e.1 == (k : Int)).map fun e => IntKind.i64.wrap (l[i].2 + e.2)).foldl mvS (-1)
      refine LoopT.gh (γ := Nat) (fun j (st : Int × Unit) w' => st.1 = j ∧ j ≤ bk.length ∧ w21.heap.size ≤ w'.heap.size ∧ View RE w' s11 l ∧ Acc RI w w.heap.size w' s1 (fi ts.length (g2 j))) (fun j => bk.length - j) 0
        ⟨rfl, Nat.zero_le _, Nat.le_refl _, v11.ext e21, by
          rw [show fi ts.length (g2 0) = fi ts.length (g i) from fi_congr fun k _ => by simp [g, g2]]
          exact hA21⟩ ?_
      have nA := hA.o
      clear v11
      rintro j ⟨x, _⟩ w26 ⟨hx, hj, z26, v11, hA26⟩ J2 hJ2
      simp only at hx; subst hx
      dsimp only
      rw [Bool.cond_decide]
      by_cases hcj : (j : Int) < ((sv u).len : Int)
      · rw [if_pos hcj]
        have hj' : j < bk.length := by omega
        obtain ⟨k0, k1⟩ := hbl _ (List.getElem_mem hj')
        obtain ⟨k, hke⟩ := Int.eq_ofNat_of_zero_le k0
        have hkn : k < ts.length := by omega
        refine re_idx (vb.ext hA26.e).view hj' fun _ a0 a1 => ⟨_, a0, _, a1, ?_⟩
        intro b30 w31 e31 g30 g30' w32 o32
        have z31 := e31.size; have z32 := o32.size
        have e32 : Ext w26 w32 := ext_off e31 o32 g30
        have hA32 := hA26.ext e32
        have v32 := v11.ext e32
        rw [hke]
        have et : bk.take (j + 1) = bk.take j ++ [bk[j]] := by rw [List.take_add_one, List.getElem?_eq_getElem hj']; rfl
        have step : ∀ k', g2 (j + 1) k' = if k' = k then mvS (g2 j k) (IntKind.i64.wrap (l[i].2 + bk[j].2)) else g2 j k' := fun k' => by
          show List.foldl _ _ (_ ++ List.map _ (List.filter _ (bk.take (j + 1)))) = _
          rw [et, List.filter_append]
          by_cases q : k' = k
          · subst q
            rw [if_pos rfl, List.filter_cons_of_pos (by rw [hke]; simp), List.map_append, ← List.append_assoc, List.foldl_append]
            rfl
          · rw [if_neg q, List.filter_cons_of_neg (by rw [hke]; simp; omega)]
            simp only [List.filter_nil, List.append_nil]
            rfl
        have nb : ∀ b, w15.heap.size ≤ b → b < w26.heap.size → ¬ s1.blk b ∨ True := fun _ _ _ => .inr trivial
        have n19 : ¬ s1.blk b19 := fun hk => by have := nA.lt hk; omega
        have n30 : ¬ s1.blk b30 := fun hk => by have := nA.lt hk; omega
        have write : mvS (g2 j k) (IntKind.i64.wrap (l[i].2 + bk[j].2)) = IntKind.i64.wrap (l[i].2 + bk[j].2) → Idx s1.a s1.len (k : Int) 1 (fun a35 => stL w32 a35 [(.int .i64 (IntKind.i64.wrap (l[i].2 + bk[j].2)))] 0 (fun w36 => Keeps [b30, b19] w32 w36 ∧ J2 ((IntKind.i64.wrap ((j : Int) + (1 : Int))), ()) w36)) := fun hm => by
          refine hA32.wr hkn fun _ put => put w32 _ _ (.refl _) fun w36 c36 hA36 => ?_
          have z36 := c36.size
          refine ⟨kp_chg c36 fun b hb => ?_, ?_⟩
          · simp only [List.mem_cons, List.not_mem_nil, or_false] at hb
            rcases hb with rfl | rfl
            · exact ⟨by omega, n30⟩
            · exact ⟨by omega, n19⟩
          · refine hJ2 (j + 1) _ _ ⟨wsucc (m := 2 ^ 40) (by omega) (by omega), by omega, by omega, v32.chg c36 d11, ?_⟩ (by omega)
            rw [show fi ts.length (g2 (j + 1)) = fi ts.length (up1 (g2 j) k (IntKind.i64.wrap (l[i].2 + bk[j].2))) from fi_congr fun k' _ => by rw [step, hm]; rfl]
            exact hA36
        refine fi_rd hA32.o.view hkn fun _ r1 => ⟨_, r1, ?_⟩
        by_cases h1 : g2 j k = -1
        · rw [show (g2 j k == -1) = true by rw [beq_iff_eq]; exact h1, cond_true]
          exact write (by unfold mvS; rw [if_pos (.inl h1)])
        · rw [show (g2 j k == -1) = false by rw [beq_eq_false_iff_ne]; exact h1, cond_false]
          refine fi_rd hA32.o.view hkn fun _ r1 => ⟨_, r1, ?_⟩
          rw [Bool.cond_decide]
          by_cases h2 : IntKind.i64.wrap (l[i].2 + bk[j].2) < g2 j k
          · rw [if_pos h2]
            exact write (by unfold mvS; rw [if_pos (.inr h2)])
          · rw [if_neg h2]
            refine hJ2 (j + 1) _ _ ⟨wsucc (m := 2 ^ 40) (by omega) (by omega), by omega, by omega, v32, ?_⟩ (by omega)
            rw [show fi ts.length (g2 (j + 1)) = fi ts.length (g2 j) from fi_congr fun k' _ => by
              rw [step]
              by_cases q : k' = k
              · subst q; rw [if_pos rfl]; unfold mvS; rw [if_neg (fun q => q.elim h1 h2)]
              · rw [if_neg q]]
            exact hA32
      · rw [if_neg hcj]
        have : j = bk.length := by omega
        subst this
        refine hJ1 (i + 1) _ _ ⟨wsucc (m := 2 ^ 40) (by omega) (by omega), by omega, by omega, v11, ?_⟩ (by omega)
        rw [show fi ts.length (g (i + 1)) = fi ts.length (g2 bk.length) from fi_congr fun k hk => by
          show List.foldl _ _ (List.map sumP (com (l.take (i + 1)) _)) = List.foldl _ _ (_ ++ List.map _ (List.filter _ (bk.take bk.length)))
          have et : l.take (i + 1) = l.take i ++ [l[i]] := by rw [List.take_add_one, List.getElem?_eq_getElem hi']; rfl
          rw [List.take_length, hbf k, if_pos hk, et, com_append, List.map_append, com_cons, com_nil, List.append_nil, hue, List.map_map, List.map_map]
          rfl]
        exact hA26
    · rw [if_neg hc]
      have : i = l.length := by omega
      subst this
      refine hk s1 w15 hA.e ?_ hA.f
      unfold manyL
      rw [show fi ts.length (fun k => (whereF rank ways s0 (ts.getD k 0)).1) = fi ts.length (g l.length) from fi_congr fun k _ => by
        rw [hwm]
        show _ = List.foldl _ _ (List.map sumP (com (l.take l.length) _))
        rw [List.take_length]]
      exact hA.o

theorem Many_ok (hcv : SpaceCV CV) {st : SV} {ts : List Int} {s0 : Int} {K : SV → World → Prop} (hH : HierA w p rank ways F) (fit : FitH rank ways) (ht : View RI w st ts) (hn : ts.length ≤ 4096)
    (hk : ∀ s w', Ext w w' → Own RI w' s (manyL rank ways s0 ts) → Fsh w s → K s w') : sh_query_Many CV p s0 st K w := by
  unfold sh_query_Many
  refine buckets_ok hcv hH fit ht hn fun r w2 mm sv hB => ?_
  rw [ht.len]
  exact row_ok hcv (hH.ext hB.e) fit hn hB fun s w' e hO hF => hk s w' (hB.e.trans e) hO (hF.ext hB.e)
end
end Go.Sh

/- Where both searches end: as far as where climbs meet. -/
set_option maxRecDepth 100000
namespace Go.Sh
open Go.RowKit

section
variable {rank : List Int} {ways : List Wy} {s t : Nat} {x : BS}
abbrev eA (rank : List Int) (ways : List Wy) : Nat → List Edg := edS rank ways rank.length false
abbrev eB (rank : List Int) (ways : List Wy) : Nat → List Edg := edS rank ways rank.length true
end
end Go.Sh

/- The reference of Look: first, better. -/
set_option maxRecDepth 100000
namespace Go.Sh
open Go.RowKit

section
variable {o : Nat → Int} {i : Nat} {a : Int}
end
theorem rd_idx {w : World} {s : SV} {xs : List (Int × Int × Int)} (h : View RD w s xs) {i : Nat} (hl : i < xs.length) {K : Addr → Prop}
    (hk : ∀ a, w.cell? (a.add 0) = some (.int .i64 xs[i].1) → w.cell? (a.add 1) = some (.int .i64 xs[i].2.1) → w.cell? (a.add 2) = some (.int .i64 xs[i].2.2) → K a) : Idx s.a s.len (i : Int) 3 K := by
  refine View.idx (R := RD) h (by omega) (by simpa using hl) fun a _ hc => ?_
  simp only [Int.toNat_natCast] at hc
  exact hk a (hc 0 _ rfl) (hc 1 _ rfl) (hc 2 _ rfl)
theorem rlxO_snoc {F o : Nat → Int} {d : Int} {ed : List (Int × Int × Int)} {j : Nat} (h : j < ed.length) : (ed.take (j + 1)).foldl (rlxO F d) o = rlxO F d ((ed.take j).foldl (rlxO F d) o) ed[j] := by
  rw [take_snoc' h, List.foldl_append]; rfl
theorem edS_full {rank : List Int} {ways : List Wy} (ok : OkH rank ways) {back : Bool} {u : Nat} (hu : u < rank.length) : edS rank ways rank.length back u = if back = true then dnF rank ways (u : Int) else upF rank ways (u : Int) := by
  unfold edS
  rw [if_pos (by have := okR_rk ok hu; omega)]
end Go.Sh

/- The reference of Look: the walk. -/
set_option maxRecDepth 100000
namespace Go.Sh
open Go.RowKit

section
variable {b c : Nat} {w w' : World} {n : Nat} {f o : Nat → Int} {sd sD : SV}
end

section
variable {n s : Nat} {M : Int} {ed : Nat → List (Int × Int × Int)} {f o : Nat → Int}
theorem Sch.lo (h : Sch n s M ed f o) (ok : EdOk n M ed) {v : Nat} (hv : v < n) : o v < 2 ^ 62 := by
  rcases h.o v hv with q | q
  · omega
  · have h1 : o v ≤ (n : Int) * M := h.d.kb (opnL_at.2 ⟨hv, q, rfl⟩)
    have := ok.b
    omega
theorem Sch.lf (h : Sch n s M ed f o) (ok : EdOk n M ed) {v : Nat} (hv : v < n) : f v < 2 ^ 62 := by
  rcases h.d.d v hv with q | ⟨_, _, q⟩
  · omega
  · have h1 : ((cntR f n : Int) - 1) * M ≤ (n : Int) * M := Int.mul_le_mul_of_nonneg_right (by have := cntR_le f n; omega) h.d.m
    have := ok.b; omega
end

end Go.Sh

/- The program's searches: first, step. -/
set_option maxRecDepth 100000
namespace Go.Sh
open Go.RowKit

theorem opnL_up {n u : Nat} {o : Nat → Int} {x : Int} (e : Int × Int) : e ∈ opnL n (up1 o u x) ↔ (u < n ∧ 0 ≤ x ∧ e = ((u : Int), x)) ∨ e ∈ opnL n o ∧ e.1 ≠ (u : Int) := by
  rw [mem_opnL, mem_opnL]
  constructor
  · rintro ⟨a, a1, a2, rfl⟩
    by_cases q : a = u
    · subst q; rw [up1_at] at a2 ⊢; exact .inl ⟨a1, a2, rfl⟩
    · rw [up1_ne q] at a2 ⊢; exact .inr ⟨⟨a, a1, a2, rfl⟩, by simp only; omega⟩
  · rintro (⟨a1, a2, rfl⟩ | ⟨⟨a, a1, a2, rfl⟩, a3⟩)
    · exact ⟨u, a1, by rw [up1_at]; exact a2, by rw [up1_at]⟩
    · have q : a ≠ u := fun q => a3 (by rw [q])
      exact ⟨a, a1, by rw [up1_ne q]; exact a2, by rw [up1_ne q]⟩

/-- A search as the program keeps it. -/
structure PSr (w : World) (b n : Nat) (f o : Nat → Int) (fv : Value) (q : Option Addr) (r : Nat) (F : Nat → Prop) (L : List (Int × Int)) : Prop where
  bx : Blk w b [.pointer q, .map (some r), fv]
  hp : HeapA w q n L F
  hl : ∀ e, e ∈ L ↔ e ∈ opnL n o
  mp : ∃ mm, MapIs false 1 w r mm ∧ MpF n f mm
  nb : ¬ F b
  br : b ≠ r
  nr : ¬ F r
section
variable {w w' : World} {b n r : Nat} {f o : Nat → Int} {fv : Value} {q : Option Addr} {F : Nat → Prop} {L : List (Int × Int)}
theorem PSr.chg {G : Nat → Prop} (h : PSr w b n f o fv q r F L) (c : Chg G w w') (h1 : ¬ G b) (h2 : ¬ G r) (h3 : ∀ k, F k → ¬ G k) : PSr w' b n f o fv q r F L := by
  obtain ⟨mm, hm, hf⟩ := h.mp
  exact ⟨c.blk h.bx h1, h.hp.chg c h3, h.hl, ⟨mm, hm.same (c.block r hm.lt h2), hf⟩, h.nb, h.br, h.nr⟩
theorem PSr.ext (h : PSr w b n f o fv q r F L) (e : Ext w w') : PSr w' b n f o fv q r F L := h.chg (G := fun _ => False) (.of_ext e) id id fun _ _ => id
theorem PSr.off {c : Nat} (h : PSr w b n f o fv q r F L) (e : Off c w w') (h1 : b ≠ c) (h2 : r ≠ c) (h3 : ¬ F c) : PSr w' b n f o fv q r F L :=
  h.chg (G := fun k => k = c) (.of_off e rfl) h1 h2 fun k hk e => h3 (e ▸ hk)
theorem PSr.c0 (h : PSr w b n f o fv q r F L) : w.cell? ((⟨b, 0, none⟩ : Addr).add 0) = some (.pointer q) := by rw [addm, cell_blk h.bx]; rfl
theorem PSr.c1 (h : PSr w b n f o fv q r F L) : w.cell? ((⟨b, 0, none⟩ : Addr).add 1) = some (.map (some r)) := by rw [addm, cell_blk h.bx]; rfl
theorem PSr.c2 (h : PSr w b n f o fv q r F L) : w.cell? ((⟨b, 0, none⟩ : Addr).add 2) = some fv := by rw [addm, cell_blk h.bx]; rfl
theorem PSr.lt (h : PSr w b n f o fv q r F L) : b < w.heap.size ∧ r < w.heap.size ∧ ∀ k, F k → k < w.heap.size :=
  ⟨blk_lt h.bx, by obtain ⟨mm, hm, _⟩ := h.mp; exact hm.lt, fun _ hk => h.hp.lt hk⟩

theorem least_fst (hl : ∀ e, e ∈ L ↔ e ∈ opnL n o) {m : Int × Int} (h : Least L m) : ∃ v : Nat, m = ((v : Int), o v) ∧ IsFst n o v := by
  obtain ⟨v, h1, h2, rfl⟩ := mem_opnL.1 ((hl m).1 h.1)
  refine ⟨v, rfl, h1, h2, fun u hu hu0 => ?_⟩
  have := h.2 _ ((hl ((u : Int), o u)).2 (opnL_at.2 ⟨hu, hu0, rfl⟩))
  unfold eLt at this
  simp only [Bool.or_eq_false_iff, decide_eq_false_iff_not, Bool.and_eq_false_iff, beq_eq_false_iff_ne] at this
  obtain ⟨a, c⟩ := this
  by_cases e : o u = o v
  · right; exact ⟨e.symm, by rcases c with c | c <;> omega⟩
  · left; omega

/-- What first answers. -/
def FstP (n : Nat) (o : Nat → Int) (best d : Int) (t : Bool) : Prop := (t = true ∧ ∃ v, Avl n o best v ∧ d = o v) ∨ (t = false ∧ ∀ v, ¬ Avl n o best v)
theorem first_ok {best : Int} {K : Int → Bool → World → Prop} (h : PSr w b n f o fv q r F L) (hb : best = -1 ∨ 0 ≤ best) (hk : ∀ d t w', Ext w w' → FstP n o best d t → K d t w') : sh_query_search_first (some ⟨b, 0, none⟩) best K w := by
  unfold sh_query_search_first
  refine ⟨_, rfl, q, h.c0, ?_⟩
  by_cases hL : L = []
  · have hp := h.hp
    rw [hL] at hp
    refine First_no hp ?_
    rw [cond_false]
    refine hk _ _ w (.refl _) (.inr ⟨rfl, fun v hv => ?_⟩)
    have := (h.hl ((v : Int), o v)).2 (opnL_at.2 ⟨hv.1.1, hv.1.2.1, rfl⟩)
    rw [hL] at this; simp at this
  · refine First_ok h.hp hL fun m w6 hm e6 => ?_
    obtain ⟨v, rfl, hv⟩ := least_fst h.hl hm
    rw [cond_true]
    rcases hb with rfl | hb
    · rw [show ((-1 : Int) == -1) = true from rfl, cond_true]
      exact hk _ _ w6 e6 (.inl ⟨rfl, v, ⟨hv, .inl (by decide)⟩, rfl⟩)
    · rw [show (best == -1) = false by rw [beq_eq_false_iff_ne]; omega, cond_false]
      by_cases hlt : o v < best
      · rw [decide_eq_true hlt]
        exact hk _ _ w6 e6 (.inl ⟨rfl, v, ⟨hv, .inr hlt⟩, rfl⟩)
      · rw [decide_eq_false hlt]
        refine hk _ _ w6 e6 (.inr ⟨rfl, fun u hu => ?_⟩)
        have := hu.1.uniq hv
        subst this
        rcases hu.2 with h | h <;> omega

theorem step_ok {CV : CVT} {w0 : World} {v : Nat} {ed : List Edg} {K : Int → World → Prop} (h : PSr w b n f o fv q r F L) (e0 : Ext w0 w) (hr : w0.heap.size ≤ r) (hF : ∀ k, F k → w0.heap.size ≤ k) (hv : IsFst n o v) (hn : n ≤ 16777216)
    (hl : ed.length < 2 ^ 40) (hb : ∀ e ∈ ed, 0 ≤ e.1 ∧ e.1 < n ∧ IntKind.i64.wrap (o v + e.2.1) = o v + e.2.1 ∧ 0 ≤ o v + e.2.1)
    (hcall : ∀ w1, Ext w0 w1 → ∀ K' : Value → World → Prop, (∀ t w'', Ext w1 w'' → Own RD w'' t ed → Fsh w1 t → K' (.slice t.a t.len t.cap) w'') → CV fv [.int .i64 (v : Int)] K' w1)
    (hk : ∀ w' F' L', Ext w0 w' → Chg (fun k => k = r ∨ F k) w w' → (∀ k, F' k → F k ∨ w.heap.size ≤ k) → PSr w' b n (setF f o v) (setO f o v ed) fv q r F' L' → K v w') : sh_query_search_step CV (some ⟨b, 0, none⟩) K w := by
  unfold sh_query_search_step
  refine ⟨_, rfl, q, h.c0, ?_⟩
  obtain ⟨lb, lr, lF⟩ := h.lt
  have hL : L ≠ [] := fun e => by
    have := (h.hl ((v : Int), o v)).2 (opnL_at.2 ⟨hv.1, hv.2.1, rfl⟩)
    rw [e] at this; simp at this
  refine Pop_ok h.hp hL fun m w6 F6 hm c6 f6 h6 => ?_
  obtain ⟨v', rfl, hv'⟩ := least_fst h.hl hm
  obtain rfl := hv'.uniq hv
  dsimp only at h6 ⊢
  have z6 := c6.size
  obtain ⟨mm, hM, hmf⟩ := h.mp
  have M6 : MapIs false 1 w6 r mm := hM.same (c6.block r lr h.nr)
  have B6 := c6.blk h.bx h.nb
  refine ⟨_, rfl, some r, by rw [addm, cell_blk B6]; rfl, r, rfl, mm, M6, fun w9 o9 M9 => ?_⟩
  have z9 := o9.size
  have hmf := hmf.set hv.1 hv.2.1
  have n6 : ∀ k, F6 k → k ≠ b ∧ k ≠ r := fun k hk => by
    rcases f6 k hk with q | q
    · exact ⟨fun e => h.nb (e ▸ q), fun e => h.nr (e ▸ q)⟩
    · omega
  have P9 : PSr w9 b n (setF f o v') (up1 o v' (-1)) fv q r F6 (rid L (v' : Int)) := by
    refine ⟨B6.off o9 h.br, h6.chg (G := fun k => k = r) (.of_off o9 rfl) fun k h1 h2 => (n6 k h1).2 h2, fun e => ?_, ⟨_, M9, hmf⟩, fun hk => (n6 _ hk).1 rfl, h.br, fun hk => (n6 _ hk).2 rfl⟩
    rw [rid_mem, opnL_up, h.hl]
    exact ⟨.inr, fun q => q.resolve_left fun q => by omega⟩
  have e6 : Ext w0 w6 := ext_chg e0 c6 hF
  have e9 : Ext w0 w9 := ext_off e6 o9 hr
  have c9 : Chg (fun k => k = r ∨ F k) w w9 := (c6.mono fun _ _ => .inr).trans (.of_off o9 (.inl rfl)) fun _ _ => id
  refine ⟨_, rfl, fv, P9.c2, ?_⟩
  refine hcall w9 e9 _ fun t w14 e14 hO f14 => ⟨t, rfl, ?_⟩
  have z14 := e14.size
  have lt := hO.view.len
  have Fv : setF f o v' v' = o v' := up1_at
  let g := fun j => (ed.take j).foldl (rlxO (setF f o v') (o v')) (up1 o v' (-1))
  have F6' : ∀ k, F6 k → k < w6.heap.size := fun k hk => h6.lt hk
  refine LoopT.gh (γ := Nat × List (Int × Int) × (Nat → Prop)) (fun gh (st : Int × Unit) w' => st.1 = gh.1 ∧ gh.1 ≤ ed.length ∧ Ext w0 w' ∧ Chg (fun k => k = r ∨ F k) w w' ∧ w14.heap.size ≤ w'.heap.size ∧ (∀ k, gh.2.2 k → F k ∨ w.heap.size ≤ k) ∧ (∀ k, t.blk k → ¬ gh.2.2 k) ∧ Own RD w' t ed ∧ PSr w' b n (setF f o v') (g gh.1) fv q r gh.2.2 gh.2.1) (fun gh => ed.length - gh.1)
    (0, rid L (v' : Int), F6) ⟨rfl, Nat.zero_le _, e9.trans e14, c9.trans (.of_ext (F := fun _ => False) e14) fun _ _ h => h.elim, Nat.le_refl _, f6, fun k hk h2 => by have := f14 k hk; have := F6' k h2; omega, hO, P9.ext e14⟩ ?_
  rintro ⟨i, L1, F1⟩ ⟨x, _⟩ w17 ⟨hx, hi, e17, c17, z17, f17, d17, hO, P⟩ J1 hJ1
  simp only at hx hi f17 d17 P hJ1; subst hx
  dsimp only
  rw [Bool.cond_decide]
  by_cases hc : (i : Int) < (t.len : Int)
  · rw [if_pos hc]
    have hi' : i < ed.length := by omega
    obtain ⟨q0, q1, q2, q3⟩ := hb _ (List.getElem_mem hi')
    obtain ⟨u, hu⟩ := Int.eq_ofNat_of_zero_le q0
    have hun : u < n := by omega
    refine rd_idx hO.view hi' fun _ a0 a1 a2 => ⟨_, a0, _, a1, _, a2, ?_⟩
    intro b22 w23 e23 g22 g22' w24 o24
    have z23 := e23.size; have z24 := o24.size
    have c1724 : Chg (fun k => k = r ∨ F k) w w24 := (c17.trans (.of_ext (F := fun _ => False) e23) fun _ _ h => h.elim).trans (Chg.of_off (F := fun k => k = b22) o24 rfl) fun i hi e => by subst e; have := c17.size; omega
    obtain ⟨lb1, lr1, lF1⟩ := P.lt
    have P24 : PSr w24 b n (setF f o v') (g i) fv q r F1 L1 := (P.ext e23).off o24 (by omega) (by omega) fun hk => by have := lF1 _ hk; omega
    have e24 : Ext w0 w24 := ext_off (e17.trans e23) o24 (by have := e17.size; omega)
    have hO24 : Own RD w24 t ed := (hO.ext e23).off o24 fun hk => by have := hO.lt hk; omega
    have gs : g (i + 1) = rlxO (setF f o v') (o v') (g i) ed[i] := rlxO_snoc hi'
    have key : ∀ k, ((u : Int), k) ∈ L1 ↔ 0 ≤ g i u ∧ k = g i u := fun k => by
      rw [P24.hl, opnL_at]; exact ⟨fun q => q.2, fun q => ⟨hun, q⟩⟩
    rw [hu]
    refine ⟨_, rfl, q, P24.c0, ?_⟩
    refine Quiet.mk (if 0 ≤ g i u then (g i u, true) else (0, false)) (fun w1 e1 K1 hK1 => ?_) ?_
    · refine Key_ok (P24.ext e1).hp (fun k hk w2 e2 => ?_) fun hno => ?_
      · obtain ⟨k1, k2⟩ := (key k).1 hk
        have := hK1 w2 e2
        rw [if_pos k1] at this; rw [k2]; exact this
      · have : ¬ 0 ≤ g i u := fun q => hno _ ((key _).2 ⟨q, rfl⟩)
        have h2 := hK1 w1 (.refl _)
        rw [if_neg this] at h2; exact h2
    intro w32 e32
    have P32 := P24.ext e32
    obtain ⟨mm1, M32, F32⟩ := P32.mp
    refine ⟨_, rfl, some r, P32.c1, mm1, M32, ?_⟩
    have at1 := F32.at hun
    have next : ∀ (L2 : List (Int × Int)) (F2 : Nat → Prop) (w' : World), Ext w0 w' → Chg (fun k => k = r ∨ F k) w w' → w14.heap.size ≤ w'.heap.size → (∀ k, F2 k → F k ∨ w.heap.size ≤ k) → (∀ k, t.blk k → ¬ F2 k) → Own RD w' t ed → PSr w' b n (setF f o v') (g (i + 1)) fv q r F2 L2 → J1 (IntKind.i64.wrap ((i : Int) + 1), ()) w' := fun L2 F2 w' k1 k2 k3 k4 k5 k6 k7 =>
      hJ1 (i + 1, L2, F2) _ _ ⟨wsucc (m := 2 ^ 40) (by omega) (by omega), by simp only; omega, k1, k2, k3, k4, k5, k6, k7⟩ (by simp only; omega)
    have same : ¬ (setF f o v' u < 0 ∧ (g i u < 0 ∨ o v' + ed[i].2.1 < g i u)) → ∀ w', Ext w24 w' → J1 (IntKind.i64.wrap ((i : Int) + 1), ()) w' := fun hno w' e' => by
      refine next L1 F1 w' (e24.trans e') (c1724.trans (.of_ext (F := fun _ => False) e') fun _ _ h => h.elim) (by have := e'.size; omega) f17 d17 (hO24.ext e') ?_
      rw [gs]; unfold rlxO; rw [hu, Int.toNat_natCast, if_neg hno]; exact P24.ext e'
    have set : setF f o v' u < 0 → (g i u < 0 ∨ o v' + ed[i].2.1 < g i u) → ∀ w37, Ext w24 w37 → (Nn (some (⟨b, 0, none⟩ : Addr)) (fun a38 => ∃ p39 : Option Addr, w37.cell? (a38.add 0) = some (.pointer p39) ∧ ∀ w41, Ext w37 w41 →
        sh_heap_Heap_Set p39 (u : Int) (IntKind.i64.wrap (o v' + ed[i].2.1)) (fun _ w42 => Keeps [b22] w41 w42 ∧ ∀ w43, Ext w42 w43 → J1 (IntKind.i64.wrap ((i : Int) + 1), ()) w43) w41)) := fun h1 h2 w37 e37 => by
      have P37 := P24.ext e37
      refine ⟨_, rfl, q, P37.c0, fun w41 e41 => ?_⟩
      have e2441 := e37.trans e41
      have z41 := e2441.size
      have P41 := P24.ext e2441
      rw [q2]
      refine Set_ok P41.hp (by omega) (by omega) fun w42 F2 c2 f2 h2' => ⟨kc1 c2 (by omega) fun hk => by have := lF1 _ hk; omega, fun w43 e43 => ?_⟩
      have z42 := c2.size
      have f2' : ∀ k, F2 k → F k ∨ w.heap.size ≤ k := fun k hk => by
        rcases f2 k hk with h | h
        · exact f17 k h
        · right; have := c1724.size; omega
      have fr2 : ∀ k, F2 k → F1 k ∨ w24.heap.size ≤ k := fun k hk => (f2 k hk).imp id fun h => by omega
      have P42 : PSr w42 b n (setF f o v') (up1 (g i) u (o v' + ed[i].2.1)) fv q r F2 (((u : Int), o v' + ed[i].2.1) :: rid L1 (u : Int)) := by
        refine ⟨c2.blk P41.bx P41.nb, h2', fun e => ?_, ?_, fun hk => ?_, h.br, fun hk => ?_⟩
        · rw [List.mem_cons, rid_mem, opnL_up, P41.hl]
          exact or_congr ⟨fun k => ⟨hun, q3, k⟩, fun k => k.2.2⟩ Iff.rfl
        · obtain ⟨m2, k1, k2⟩ := P41.mp
          exact ⟨m2, k1.same (c2.block r k1.lt P41.nr), k2⟩
        · rcases fr2 _ hk with k | k
          · exact P41.nb k
          · omega
        · rcases fr2 _ hk with k | k
          · exact P41.nr k
          · omega
      have cc : Chg (fun k => k = r ∨ F k) w w42 := ((c1724.trans (.of_ext (F := fun _ => False) e2441) fun _ _ h => h.elim)).trans c2 fun k hk hF1 => by
        rcases f17 k hF1 with h | h
        · exact .inr h
        · omega
      refine next (((u : Int), o v' + ed[i].2.1) :: rid L1 (u : Int)) F2 w43 ((ext_chg (e24.trans e2441) c2 fun k hk => ?_).trans e43) (cc.trans (.of_ext (F := fun _ => False) e43) fun _ _ h => h.elim) (by have := e43.size; omega) f2' (fun k hk h3 => ?_) (((hO24.ext e2441).chg c2 fun k h3 h4 => d17 k h3 h4).ext e43) ?_
      · rcases f17 k hk with h | h
        · exact hF k h
        · have := e0.size; omega
      · rcases fr2 _ h3 with k1 | k1
        · exact d17 k hk k1
        · have := hO24.lt hk; omega
      · rw [gs]; unfold rlxO; rw [hu, Int.toNat_natCast, if_pos ⟨h1, h2⟩]; exact P42.ext e43
    rw [at1]
    by_cases hfu : 0 ≤ setF f o v' u
    · rw [if_pos hfu]
      refine ⟨_, rfl, fun w37 e37 => ?_⟩
      rw [Option.isSome_some, Bool.not_true, cond_false]
      exact same (fun k => by omega) w37 (e32.trans e37)
    · rw [if_neg hfu]
      refine ⟨0, rfl, fun w37 e37 => ?_⟩
      rw [Option.isSome_none, Bool.not_false, cond_true]
      by_cases hgu : 0 ≤ g i u
      · rw [if_pos hgu, Bool.not_true, cond_false, Bool.cond_decide]
        dsimp only
        rw [q2]
        split
        · rename_i hlt
          have := set (by omega) (.inr hlt) w37 (e32.trans e37)
          rw [q2] at this; exact this
        · rename_i hlt
          exact same (fun k => by rcases k.2 with k | k <;> omega) w37 (e32.trans e37)
      · rw [if_neg hgu, Bool.not_false, cond_true]
        exact set (by omega) (.inl (by omega)) w37 (e32.trans e37)
  · rw [if_neg hc]
    have : i = ed.length := by omega
    subst this
    refine hk w17 F1 L1 e17 c17 f17 ?_
    have e : g ed.length = setO f o v' ed := by show (ed.take ed.length).foldl _ _ = _; rw [List.take_length]; rfl
    rw [← e]; exact P
end
end Go.Sh

/- The program's Look: its beginning, one step of it. -/
set_option maxRecDepth 100000
namespace Go.Sh
open Go.RowKit

def nArr (b5 b7 : Nat) : List Value := [.pointer (some ⟨b5, 0, none⟩), .pointer (some ⟨b7, 0, none⟩)]
theorem opnL_one {n v : Nat} (hv : v < n) (e : Int × Int) : e ∈ opnL n (up1 (fun _ => -1) v 0) ↔ e = ((v : Int), 0) := by
  rw [opnL_up]
  constructor
  · rintro (⟨_, _, h⟩ | ⟨h, _⟩)
    · exact h
    · obtain ⟨u, _, h0, _⟩ := mem_opnL.1 h; omega
  · exact fun h => .inl ⟨hv, by decide, h⟩

section
variable {CV : CVT} {w : World} {p : Option Addr} {rank : List Int} {ways : List Wy} {FH : Nat → Prop}
theorem lookInit_ok {w15 : World} {b9 bk v : Nat} {i : Int} {cs : List Value} {fv : Value} {K : World → Prop} (hH : HierA w p rank ways FH) (e15 : Ext w w15) (hn : rank.length ≤ 16777216) (hB9 : Blk w15 b9 cs) (hcs : cs[i.toNat]? = some (.pointer (some ⟨bk, 0, none⟩))) (hi : 0 ≤ i ∧ i < 2)
    (hbk : Blk w15 bk [.pointer none, .map none, fv]) (hne : bk ≠ b9) (hw : w.heap.size ≤ bk) (hv : v < rank.length)
    (hk : ∀ w41 q r F L, Chg (fun k => k = bk) w15 w41 → PSr w41 bk rank.length (fun _ => -1) (up1 (fun _ => -1) v 0) fv q r F L → w15.heap.size ≤ r → (∀ k, F k → w15.heap.size ≤ k) → K w41) :
    0 ≤ i ∧ i < ((2 : Nat) : Int) ∧
    (∃ p17 : Option Addr, w15.cell? ((⟨b9, 0, none⟩ : Addr).add (i.toNat * 1)) = some (.pointer p17) ∧
    (0 ≤ i ∧ i < ((2 : Nat) : Int) ∧
    (∃ p19 : Option Addr, w15.cell? ((⟨b9, 0, none⟩ : Addr).add (i.toNat * 1)) = some (.pointer p19) ∧
    (Quiet (Int) (fun r22 => (.int .i64 r22)) (fun K23 w24' => sh_hier_Hier_N p (fun x21 w24 => K23 x21 w24) w24') w15 (fun r22 =>
    (∀ w26, Ext w15 w26 →
    (sh_heap_New r22 (fun p25 w27 =>
    (KeepZ (zI (fun _ => False) w15 w26) w26 w27 ∧
    ((∃ y20 : Option Addr, w27.cell? ((⟨b9, 0, none⟩ : Addr).add (i.toNat * 1)) = some (.pointer y20) ∧ ((.pointer y20) : Value) = (.pointer p19)) ∧
    ((∃ y18 : Option Addr, w27.cell? ((⟨b9, 0, none⟩ : Addr).add (i.toNat * 1)) = some (.pointer y18) ∧ ((.pointer y18) : Value) = (.pointer p17)) ∧
    (Nn p17 (fun a28 =>
    (∀ w29, Ext w27 w29 →
    (stL w29 (a28.add 0) [(.pointer p25)] 0 (fun w30 =>
    (KeepZ (zI (zI (fun _ => False) w15 w26) w27 w29) w29 w30 ∧
    ((∃ y20 : Option Addr, w30.cell? ((⟨b9, 0, none⟩ : Addr).add (i.toNat * 1)) = some (.pointer y20) ∧ ((.pointer y20) : Value) = (.pointer p19)) ∧
    (MkMA (zI (zI (fun _ => False) w15 w26) w27 w29) w30 (fun r31 w32 =>
    (Nn p19 (fun a33 =>
    (∀ w34, Ext w32 w34 →
    (stL w34 (a33.add 1) [(.map (some r31))] 0 (fun w35 =>
    (∀ w36, Ext w35 w36 →
    (0 ≤ i ∧ i < ((2 : Nat) : Int) ∧
    (∃ p37 : Option Addr, w36.cell? ((⟨b9, 0, none⟩ : Addr).add (i.toNat * 1)) = some (.pointer p37) ∧
    (Nn p37 (fun a38 =>
    (∃ p39 : Option Addr, w36.cell? (a38.add 0) = some (.pointer p39) ∧
    (sh_heap_Heap_Set p39 (v : Int) (0 : Int) (fun _ w41 => K w41) w36))))))))))))))))))))))))) w26))))))) := by
  have lb9 := blk_lt hB9; have lbk := blk_lt hbk
  have at9 : ∀ {w' : World}, Blk w' b9 cs → w'.cell? ((⟨b9, 0, none⟩ : Addr).add (i.toNat * 1)) = some (.pointer (some ⟨bk, 0, none⟩)) := fun h => by rw [addm, cell_blk h, Nat.zero_add, Nat.mul_one]; exact hcs
  have l9 := at9 hB9
  refine ⟨hi.1, hi.2, _, l9, hi.1, hi.2, _, l9, ?_⟩
  refine Quiet.mk (rank.length : Int) (fun w1 e1 K1 hK1 => HN_ok (hH.ext (e15.trans e1)) (hK1 _ (.refl _))) fun w26 e26 => ?_
  have z26 := e26.size
  refine New_ok (by omega) (by omega) fun q w27 F e27 hP f27 => ?_
  rw [Int.toNat_natCast] at hP
  have z27 := e27.size
  have B27 := (e26.trans e27).blkE hB9
  have e1527 := e26.trans e27
  refine ⟨⟨z27, fun b hb => e27.blk ?_⟩, ⟨_, at9 B27, rfl⟩, ⟨_, at9 B27, rfl⟩, _, rfl, fun w29 e29 => ?_⟩
  · unfold zI at hb
    rcases hb with h | h
    · exact h.elim
    · exact h.2
  have z29 := e29.size
  have bk29 := (e1527.trans e29).blkE hbk
  refine stL_blk (o := 0) [.pointer q] 0 w29 _ _ bk29 (by simp only [List.length_cons, List.length_nil]; omega) fun w30 o30 bk30 => ?_
  have z30 := o30.size
  have bk30 : Blk w30 bk [.pointer q, .map none, fv] := bk30
  have B30 : Blk w30 b9 cs := ((e29.blkE B27).off o30 (Ne.symm hne))
  refine ⟨⟨by omega, fun b hb => o30.block b fun e => ?_⟩, ⟨_, at9 B30, rfl⟩, ?_⟩
  · unfold zI at hb
    rcases hb with (h | h) | h
    · exact h.elim
    · omega
    · omega
  intro r w32 e32 hz hm
  have z32 := e32.size
  have hM : MapIs false 1 w32 r [] := MapIs.nil hm
  have hr : w15.heap.size ≤ r ∧ (r < w26.heap.size ∨ w27.heap.size ≤ r) := by
    unfold zI at hz
    rcases hz with ((h | h) | h) | h
    · exact h.elim
    · exact ⟨h.1, .inl h.2⟩
    · exact ⟨by omega, .inr h.1⟩
    · exact ⟨by omega, .inr (by omega)⟩
  have lr := hM.lt
  have hrb : r ≠ bk := by have := hr.1; omega
  have F27 : ∀ k, F k → k < w27.heap.size := fun k hk => hP.lt hk
  refine ⟨_, rfl, fun w34 e34 => ?_⟩
  have z34 := e34.size
  have bk34 := (e32.trans e34).blkE bk30
  refine stL_blk (o := 1) [.map (some r)] 0 w34 _ _ bk34 (by simp only [List.length_cons, List.length_nil]; omega) fun w35 o35 bk35 w36 e36 => ?_
  have z35 := o35.size; have z36 := e36.size
  have bk36 : Blk w36 bk [.pointer q, .map (some r), fv] := e36.blkE bk35
  have B36 : Blk w36 b9 cs := e36.blkE (((e32.trans e34).blkE B30).off o35 (Ne.symm hne))
  refine ⟨hi.1, hi.2, _, at9 B36, _, rfl, q, by rw [addm, cell_blk bk36]; rfl, ?_⟩
  have nF : ∀ k, F k → k ≠ bk := fun k hk => by have := f27 k hk; omega
  have hP36 : HeapA w36 q rank.length [] F := ((((hP.ext e29).chg (G := fun k => k = bk) (.of_off o30 rfl) nF).ext (e32.trans e34)).chg (G := fun k => k = bk) (.of_off o35 rfl) nF).ext e36
  have M36 : MapIs false 1 w36 r [] := ((hM.grow e34).same (o35.block r hrb)).grow e36
  refine Set_ok hP36 (by omega) (by omega) fun w41 F' c41 f41 hP41 => ?_
  have z41 := c41.size
  have nF' : ∀ k, F' k → w26.heap.size ≤ k ∧ (k < w27.heap.size ∨ w36.heap.size ≤ k) := fun k hk => by
    rcases f41 k hk with h | h
    · exact ⟨f27 k h, .inl (F27 k h)⟩
    · exact ⟨by omega, .inr h⟩
  have c36 : Chg (fun k => k = bk) w15 w36 := ((((Chg.of_ext (F := fun k => k = bk) (e1527.trans e29)).trans (.of_off (F := fun k => k = bk) o30 rfl) fun _ _ h => h).trans (.of_ext (F := fun _ => False) (e32.trans e34)) fun _ _ h => h.elim).trans (.of_off (F := fun k => k = bk) o35 rfl) fun _ _ h => h).trans (.of_ext (F := fun _ => False) e36) fun _ _ h => h.elim
  refine hk w41 q r F' _ (c36.trans c41 fun k hk hF => by have := f27 k hF; omega) ⟨c41.blk bk36 fun h => nF _ h rfl, hP41, fun e => ?_, ⟨[], M36.same (c41.block r (by omega) fun h => by have := F27 r h; have := f27 r h; omega), MpF.nil⟩, fun h => by have := nF' _ h; omega, Ne.symm hrb, fun h => by have := nF' _ h; omega⟩ hr.1 fun k h => by have := nF' k h; omega
  rw [opnL_one hv, List.mem_cons]
  exact ⟨fun h => h.elim id fun h => by simp [rid] at h, .inl⟩

/-- One step: which of both is given by its place. -/
theorem lookStep_ok {w0 w58 : World} {b9 b b' n v r r' : Nat} {k : Int} {cs : List Value} {f o f' o' : Nat → Int} {fv fv' : Value} {q q' : Option Addr} {F F' : Nat → Prop} {L L' : List (Int × Int)} {best : Int} {ed : List Edg} {again : Int → World → Prop}
    (hB9 : Blk w58 b9 cs) (hc : cs[k.toNat]? = some (.pointer (some ⟨b, 0, none⟩))) (hc' : cs[(IntKind.i64.wrap ((1 : Int) - k)).toNat]? = some (.pointer (some ⟨b', 0, none⟩))) (hk0 : 0 ≤ k ∧ k < 2) (hk1 : 0 ≤ IntKind.i64.wrap ((1 : Int) - k) ∧ IntKind.i64.wrap ((1 : Int) - k) < 2)
    (P : PSr w58 b n f o fv q r F L) (P' : PSr w58 b' n f' o' fv' q' r' F' L') (n9 : b9 ≠ r ∧ ¬ F b9) (n1 : b' ≠ r ∧ ¬ F b') (n2 : r' ≠ r ∧ ¬ F r') (n3 : ∀ k, F' k → k ≠ r ∧ ¬ F k)
    (e0 : Ext w0 w58) (hr : w0.heap.size ≤ r) (hF : ∀ k, F k → w0.heap.size ≤ k) (hv : IsFst n o v) (hn : n ≤ 16777216) (hbest : best = -1 ∨ 0 ≤ best)
    (hl : ed.length < 2 ^ 40) (hb : ∀ e ∈ ed, 0 ≤ e.1 ∧ e.1 < n ∧ IntKind.i64.wrap (o v + e.2.1) = o v + e.2.1 ∧ 0 ≤ o v + e.2.1) (hsum : 0 ≤ f' v → IntKind.i64.wrap (f' v + o v) = f' v + o v)
    (hcall : ∀ w1, Ext w0 w1 → ∀ K' : Value → World → Prop, (∀ t w'', Ext w1 w'' → Own RD w'' t ed → Fsh w1 t → K' (.slice t.a t.len t.cap) w'') → CV fv [.int .i64 (v : Int)] K' w1)
    (hk : ∀ w' F1 L1, Ext w0 w' → w58.heap.size ≤ w'.heap.size → (∀ k, F1 k → F k ∨ w58.heap.size ≤ k) → Blk w' b9 cs → PSr w' b n (setF f o v) (setO f o v ed) fv q r F1 L1 → PSr w' b' n f' o' fv' q' r' F' L' → again (bstF (setF f o v) f' v best) w') :
    0 ≤ k ∧ k < ((2 : Nat) : Int) ∧
    (∃ p59 : Option Addr, w58.cell? ((⟨b9, 0, none⟩ : Addr).add (k.toNat * 1)) = some (.pointer p59) ∧
    (sh_query_search_step CV p59 (fun x60 w61 =>
    (0 ≤ (IntKind.i64.wrap ((1 : Int) - k)) ∧ (IntKind.i64.wrap ((1 : Int) - k)) < ((2 : Nat) : Int) ∧
    (∃ p62 : Option Addr, w61.cell? ((⟨b9, 0, none⟩ : Addr).add (((IntKind.i64.wrap ((1 : Int) - k))).toNat * 1)) = some (.pointer p62) ∧
    (Nn p62 (fun a63 =>
    (∃ m64 : Option Nat, w61.cell? (a63.add 1) = some (.map m64) ∧
    (∃ mm65, MapR false 1 w61 m64 mm65 ∧ ∃ x66 : Int, (assoc mm65 [x60]).getD (.int .i64 (0 : Int)) = (.int .i64 x66) ∧
    (cond ((assoc mm65 [x60]).isSome) (0 ≤ k ∧ k < ((2 : Nat) : Int) ∧
    (∃ p67 : Option Addr, w61.cell? ((⟨b9, 0, none⟩ : Addr).add (k.toNat * 1)) = some (.pointer p67) ∧
    (Nn p67 (fun a68 =>
    (∃ m69 : Option Nat, w61.cell? (a68.add 1) = some (.map m69) ∧
    (∃ mm70, MapR false 1 w61 m69 mm70 ∧ ∃ x71 : Int, (assoc mm70 [x60]).getD (.int .i64 (0 : Int)) = (.int .i64 x71) ∧
    (cond (best == (-1 : Int)) (again (IntKind.i64.wrap (x66 + x71)) w61) (cond (decide ((IntKind.i64.wrap (x66 + x71)) < best)) (again (IntKind.i64.wrap (x66 + x71)) w61) (again best w61))))))))) (again best w61))))))))) w58)) := by
  have at9 : ∀ {w' : World} {j : Int} {x : Option Addr}, Blk w' b9 cs → cs[j.toNat]? = some (.pointer x) → w'.cell? ((⟨b9, 0, none⟩ : Addr).add (j.toNat * 1)) = some (.pointer x) := fun h h2 => by rw [addm, cell_blk h, Nat.zero_add, Nat.mul_one]; exact h2
  have hf : f v = -1 ∨ f v ≠ -1 := Classical.em _
  refine ⟨hk0.1, hk0.2, _, at9 hB9 hc, ?_⟩
  refine step_ok P e0 hr hF hv hn hl hb hcall fun w61 F1 L1 e61 c61 f61 P61 => ?_
  have B61 : Blk w61 b9 cs := c61.blk hB9 fun h => h.elim n9.1 n9.2
  have P61' : PSr w61 b' n f' o' fv' q' r' F' L' := P'.chg c61 (fun h => h.elim n1.1 n1.2) (fun h => h.elim n2.1 n2.2) fun k hk h => h.elim (n3 k hk).1 (n3 k hk).2
  have z61 := c61.size
  have yes : (0 ≤ f' v ∧ (best < 0 ∨ o v + f' v < best)) → again (o v + f' v) w61 := fun h => by
    have := hk w61 F1 L1 e61 z61 f61 B61 P61 P61'
    unfold bstF setF at this
    rw [up1_at, if_pos ⟨hv.2.1, h⟩] at this; exact this
  have no : ¬ (0 ≤ f' v ∧ (best < 0 ∨ o v + f' v < best)) → again best w61 := fun h => by
    have := hk w61 F1 L1 e61 z61 f61 B61 P61 P61'
    unfold bstF setF at this
    rw [up1_at, if_neg fun q => h q.2] at this; exact this
  obtain ⟨mm', M', H'⟩ := P61'.mp
  obtain ⟨mm, M, H⟩ := P61.mp
  refine ⟨hk1.1, hk1.2, _, at9 B61 hc', _, rfl, _, P61'.c1, mm', M', ?_⟩
  rw [H'.at hv.1]
  by_cases hg : 0 ≤ f' v
  · rw [if_pos hg]
    refine ⟨_, rfl, ?_⟩
    rw [Option.isSome_some, cond_true]
    refine ⟨hk0.1, hk0.2, _, at9 B61 hc, _, rfl, _, P61.c1, mm, M, ?_⟩
    rw [H.at hv.1]
    have e1 : setF f o v v = o v := up1_at
    rw [e1, if_pos hv.2.1]
    refine ⟨_, rfl, ?_⟩
    rw [hsum hg, Int.add_comm]
    rcases hbest with rfl | hbest
    · rw [show ((-1 : Int) == -1) = true from rfl, cond_true]
      exact yes ⟨hg, .inl (by decide)⟩
    · rw [show (best == -1) = false by rw [beq_eq_false_iff_ne]; omega, cond_false, Bool.cond_decide]
      split
      · rename_i h; exact yes ⟨hg, .inr h⟩
      · rename_i h; exact no fun q => by rcases q.2 with q | q <;> omega
  · rw [if_neg hg]
    refine ⟨_, rfl, ?_⟩
    rw [Option.isSome_none, cond_false]
    exact no fun q => hg q.1
end
end Go.Sh

/- The program's Look. -/
set_option maxRecDepth 100000
namespace Go.Sh
open Go.RowKit

/-- What is known of the searches' function values. -/
structure LookCV (CV : CVT) : Prop where
  up : ∀ h v K w, sh_hier_Hier_Up h v (fun s w' => K (.slice s.a s.len s.cap) w') w → CV (.func (.func fn_hier_Hier_Up) #[.pointer h] #[]) [.int .i64 v] K w
  dn : ∀ h v K w, sh_hier_Hier_Down h v (fun s w' => K (.slice s.a s.len s.cap) w') w → CV (.func (.func fn_hier_Hier_Down) #[.pointer h] #[]) [.int .i64 v] K w

structure PSg where
  q : Option Addr
  r : Nat
  F : Nat → Prop
  L : List (Int × Int)
def upB (p : Option Addr) : Value := .func (.func fn_hier_Hier_Up) #[.pointer p] #[]
def dnB (p : Option Addr) : Value := .func (.func fn_hier_Hier_Down) #[.pointer p] #[]
/-- Both searches in memory. -/
structure LSt (p : Option Addr) (w w11 w' : World) (b5 b7 b9 n : Nat) (x : BS) (A B : PSg) : Prop where
  e : Ext w w'
  z : w11.heap.size ≤ w'.heap.size
  b9 : Blk w' b9 (nArr b5 b7)
  sA : PSr w' b5 n x.fa x.oa (upB p) A.q A.r A.F A.L
  sB : PSr w' b7 n x.fb x.ob (dnB p) B.q B.r B.F B.L
  rA : w11.heap.size ≤ A.r
  rB : w11.heap.size ≤ B.r
  fA : ∀ k, A.F k → w11.heap.size ≤ k
  fB : ∀ k, B.F k → w11.heap.size ≤ k
  d1 : A.r ≠ B.r
  d2 : ¬ A.F B.r
  d3 : ¬ B.F A.r
  d4 : ∀ k, A.F k → ¬ B.F k
theorem LSt.ext {p : Option Addr} {w w11 w' w'' : World} {b5 b7 b9 n : Nat} {x : BS} {A B : PSg} (h : LSt p w w11 w' b5 b7 b9 n x A B) (e : Ext w' w'') : LSt p w w11 w'' b5 b7 b9 n x A B :=
  ⟨h.e.trans e, Nat.le_trans h.z e.size, e.blkE h.b9, h.sA.ext e, h.sB.ext e, h.rA, h.rB, h.fA, h.fB, h.d1, h.d2, h.d3, h.d4⟩

section
variable {CV : CVT} {w : World} {p : Option Addr} {rank : List Int} {ways : List Wy} {FH : Nat → Prop}
theorem Look_ok (hcv : LookCV CV) {s t : Int} {K : Int → Int → World → Prop} (hH : HierA w p rank ways FH) (fit : FitH rank ways)
    (hno : ¬ (0 ≤ s ∧ s < rank.length ∧ 0 ≤ t ∧ t < rank.length) → K (-1) 0 w)
    (hk : ∀ (a b : Nat) (x : BS) (w' : World), s = a → t = b → a < rank.length → b < rank.length → Ext w w' → BRun rank.length (eA rank ways) (eB rank ways) (BS.start a b) x → BStop rank.length x → K x.best x.steps w') : sh_query_Look CV p s t K w := by
  have hn := fit.n
  unfold sh_query_Look
  refine Rank_ok hH ?_
  rw [Bool.cond_decide]; split
  · rename_i h; rw [rankF_neg hH.ok] at h; exact hno fun q => h ⟨q.1, q.2.1⟩
  rename_i h1
  rw [rankF_neg hH.ok, Classical.not_not] at h1
  refine Rank_ok hH ?_
  rw [Bool.cond_decide]; split
  · rename_i h; rw [rankF_neg hH.ok] at h; exact hno fun q => h q.2.2
  rename_i h2
  rw [rankF_neg hH.ok, Classical.not_not] at h2
  obtain ⟨a, rfl⟩ := Int.eq_ofNat_of_zero_le h1.1
  obtain ⟨b, rfl⟩ := Int.eq_ofNat_of_zero_le h2.1
  have ha : a < rank.length := by omega
  have hb : b < rank.length := by omega
  intro b5 w6 e6 g5 g5' b7 w8 e8 g7 g7' h5 h7 b9 w10 e10 g9 g9' w11 o11 h9
  have z6 := e6.size; have z8 := e8.size; have z10 := e10.size; have z11 := o11.size
  have e11 : Ext w w11 := ext_off ((e6.trans e8).trans e10) o11 (by omega)
  have H5 : Blk w11 b5 [.pointer none, .map none, upB p] := (e10.blkE h5).off o11 (by omega)
  have H7 : Blk w11 b7 [.pointer none, .map none, dnB p] := (e10.blkE h7).off o11 (by omega)
  have n57 : b5 ≠ b7 := by omega
  have n59 : b5 ≠ b9 := by omega
  have n79 : b7 ≠ b9 := by omega
  have l5 : b5 < w11.heap.size := by omega
  have l7 : b7 < w11.heap.size := by omega
  have l9 : b9 < w11.heap.size := by omega
  have h9 : Blk w11 b9 (nArr b5 b7) := h9
  refine Join.cut (fun _ w' => ∃ A B, LSt p w w11 w' b5 b7 b9 rank.length (BS.start a b) A B) (fun J hJ => ?_) ?_
  · refine LoopT.gh (γ := Nat) (fun i (st : Int × Unit) w' => st.1 = i ∧ i ≤ 2 ∧ Ext w w' ∧ w11.heap.size ≤ w'.heap.size ∧ Blk w' b9 (nArr b5 b7) ∧ (i = 0 → Blk w' b5 [.pointer none, .map none, upB p] ∧ Blk w' b7 [.pointer none, .map none, dnB p]) ∧
      (i = 1 → ∃ A : PSg, PSr w' b5 rank.length (fun _ => -1) (up1 (fun _ => -1) a 0) (upB p) A.q A.r A.F A.L ∧ w11.heap.size ≤ A.r ∧ (∀ k, A.F k → w11.heap.size ≤ k) ∧ Blk w' b7 [.pointer none, .map none, dnB p]) ∧
      (i = 2 → ∃ A B, LSt p w w11 w' b5 b7 b9 rank.length (BS.start a b) A B)) (fun i => 2 - i) 0 ⟨rfl, by decide, e11, Nat.le_refl _, h9, fun _ => ⟨H5, H7⟩, fun h => absurd h (by decide), fun h => absurd h (by decide)⟩ ?_
    rintro i ⟨x, _⟩ w15 ⟨hx, hi, e15, z15, h9, i0, i1, i2⟩ J1 hJ1
    simp only at hx; subst hx
    dsimp only
    rw [Bool.cond_decide]
    by_cases hc : (i : Int) < 2
    · rw [if_pos hc]
      have hi01 : i = 0 ∨ i = 1 := by omega
      rcases hi01 with rfl | rfl
      · obtain ⟨q5, q7⟩ := i0 rfl
        refine ⟨by decide, by decide, (a : Int), rfl, ?_⟩
        refine lookInit_ok (cs := nArr b5 b7) (bk := b5) hH e15 (by omega) h9 rfl ⟨by decide, by decide⟩ q5 n59 (by omega) ha fun w41 q r F L c41 P hr hF => ?_
        have z41 := c41.size
        refine hJ1 1 _ _ ⟨by dsimp only; exact wsucc (m := 2 ^ 40) (by omega) (by omega), by decide, ext_chg e15 c41 fun k hk => by omega, by omega, c41.blk h9 fun h => n59 h.symm, fun h => absurd h (by decide), fun _ => ⟨⟨q, r, F, L⟩, P, by dsimp only; omega, fun k hk => by have := hF k hk; omega, c41.blk q7 fun h => n57 h.symm⟩, fun h => absurd h (by decide)⟩ (by decide)
      · obtain ⟨A, q5, hrA, hFA, q7⟩ := i1 rfl
        obtain ⟨_, lr5, lF5⟩ := q5.lt
        refine ⟨by decide, by decide, (b : Int), rfl, ?_⟩
        refine lookInit_ok (cs := nArr b5 b7) (bk := b7) hH e15 (by omega) h9 rfl ⟨by decide, by decide⟩ q7 n79 (by omega) hb fun w41 q r F L c41 P hr hF => ?_
        have z41 := c41.size
        have e41 : Ext w w41 := ext_chg e15 c41 fun k hk => by omega
        have h941 := c41.blk h9 fun h => n79 h.symm
        refine hJ1 2 _ _ ⟨by dsimp only; exact wsucc (m := 2 ^ 40) (by omega) (by omega), by decide, e41, by omega, h941, fun h => absurd h (by decide), fun h => absurd h (by decide), fun _ => ⟨A, ⟨q, r, F, L⟩, e41, by omega, h941, ?_, P, hrA, by dsimp only; omega, hFA, fun k hk => by have := hF k hk; omega, ?_, fun h => ?_, fun h => ?_, fun k k1 k2 => ?_⟩⟩ (by decide)
        · exact q5.chg c41 n57 (by omega) fun k hk => by have := hFA k hk; omega
        · dsimp only; omega
        · have := lF5 _ h; dsimp only at this; omega
        · have := hF _ h; omega
        · have := hF k k2; have := lF5 k k1; omega
    · rw [if_neg hc]
      exact hJ _ _ (i2 (by omega))
  rintro _ w43 ⟨A0, B0, hS0⟩
  have oka : EdOk rank.length 1125899906842624 (eA rank ways) := edS_ok fit
  have okb : EdOk rank.length 1125899906842624 (eB rank ways) := edS_ok fit
  refine Join.cut (fun (t : Int × Int × Unit) w' => K t.1 t.2.1 w') (fun J hJ => ?_) fun _ _ h => h
  refine LoopT.gh (γ := BS × PSg × PSg) (fun g st w' => st = (g.1.best, (g.1.steps : Int), ()) ∧ BRun rank.length (eA rank ways) (eB rank ways) (BS.start a b) g.1 ∧ LSt p w w11 w' b5 b7 b9 rank.length g.1 g.2.1 g.2.2) (fun g => 2 * rank.length - g.1.steps) (BS.start a b, A0, B0) ⟨rfl, .nil, hS0⟩ ?_
  rintro ⟨x, A, B⟩ st w47 ⟨rfl, hrun, hS⟩ J1 hJ1
  dsimp only at hrun hS ⊢
  have inv := (BInv.begin (n := rank.length) (ea := eA rank ways) (eb := eB rank ways) (M := 1125899906842624) ha hb (by decide)).run oka okb hrun
  have hbest : x.best = -1 ∨ 0 ≤ x.best := inv.best.imp (·.1) (·.1)
  have at0 : ∀ {w' : World}, Blk w' b9 (nArr b5 b7) → w'.cell? ((⟨b9, 0, none⟩ : Addr).add ((0 : Int).toNat * 1)) = some (.pointer (some ⟨b5, 0, none⟩)) := fun h => by rw [addm, cell_blk h]; rfl
  have at1 : ∀ {w' : World}, Blk w' b9 (nArr b5 b7) → w'.cell? ((⟨b9, 0, none⟩ : Addr).add ((1 : Int).toNat * 1)) = some (.pointer (some ⟨b7, 0, none⟩)) := fun h => by rw [addm, cell_blk h]; rfl
  have w10 : IntKind.i64.wrap ((1 : Int) - 0) = 1 := by decide
  have w11' : IntKind.i64.wrap ((1 : Int) - 1) = 0 := by decide
  have up : ∀ v : Nat, v < rank.length → upF rank ways (v : Int) = eA rank ways v := fun v hv => by
    have := edS_full (back := false) fit.ok hv
    rw [if_neg (by decide)] at this; exact this.symm
  have dn : ∀ v : Nat, v < rank.length → dnF rank ways (v : Int) = eB rank ways v := fun v hv => by
    have := edS_full (back := true) fit.ok hv
    rw [if_pos rfl] at this; exact this.symm
  have stp : ∀ {y : BS}, BStep rank.length (eA rank ways) (eB rank ways) x y → y.steps = x.steps + 1 ∧ x.steps < 2 * rank.length := fun {y} h => by
    have inv' := inv.step oka okb h
    have h1 := h.steps
    have := inv'.st; have := cntR_le y.fa rank.length; have := cntR_le y.fb rank.length
    omega
  have hw : ∀ {y : BS}, BStep rank.length (eA rank ways) (eB rank ways) x y → IntKind.i64.wrap ((x.steps : Int) + 1) = (y.steps : Int) := fun {y} h => by
    obtain ⟨q1, q2⟩ := stp h
    rw [q1]; exact wsucc (m := 2 ^ 40) (by omega) (by omega)
  refine ⟨by decide, by decide, _, at0 hS.b9, ?_⟩
  refine first_ok hS.sA hbest fun d1 t1 w51 e51 hp => ?_
  have hS51 := hS.ext e51
  refine ⟨by decide, by decide, _, at1 hS51.b9, ?_⟩
  refine first_ok hS51.sB hbest fun d2 t2 w55 e55 hq => ?_
  have hS55 := hS51.ext e55
  have z55 := hS55.z
  obtain ⟨lA1, lA2, lA3⟩ := hS55.sA.lt
  obtain ⟨lB1, lB2, lB3⟩ := hS55.sB.lt
  refine Join.cut (fun (k : Int × Unit) w' => w' = w55 ∧ ((k.1 = 0 ∧ ∃ v, Avl rank.length x.oa x.best v ∧ ∀ u, Avl rank.length x.ob x.best u → x.oa v ≤ x.ob u) ∨ (k.1 = 1 ∧ ∃ v, Avl rank.length x.ob x.best v ∧ ∀ u, Avl rank.length x.oa x.best u → x.ob v < x.oa u))) (fun J6 hJ6 => ?_) ?_
  · rcases hp with ⟨rfl, v, hv, rfl⟩ | ⟨rfl, hpn⟩ <;> rcases hq with ⟨rfl, u, hu, rfl⟩ | ⟨rfl, hqn⟩
    · simp only [Bool.not_true, cond_false, cond_true]
      rw [Bool.cond_decide]; split
      · rename_i hlt
        exact hJ6 _ _ ⟨rfl, .inr ⟨rfl, u, hu, fun v' hv' => by rw [hv'.uniq hv]; exact hlt⟩⟩
      · rename_i hlt
        exact hJ6 _ _ ⟨rfl, .inl ⟨rfl, v, hv, fun u' hu' => by rw [hu'.uniq hu]; omega⟩⟩
    · simp only [Bool.not_true, cond_false]
      exact hJ6 _ _ ⟨rfl, .inl ⟨rfl, v, hv, fun u' hu' => absurd hu' (hqn u')⟩⟩
    · simp only [Bool.not_true, Bool.not_false, cond_false, cond_true]
      exact hJ6 _ _ ⟨rfl, .inr ⟨rfl, u, hu, fun v' hv' => absurd hv' (hpn v')⟩⟩
    · simp only [Bool.not_false, cond_true]
      exact hJ _ _ (hk a b x w55 rfl rfl ha hb hS55.e hrun ⟨hpn, hqn⟩)
  · rintro ⟨k, _⟩ w58 ⟨rfl, hk⟩
    simp only at hk
    rcases hk with ⟨rfl, v, hv, hle⟩ | ⟨rfl, v, hv, hle⟩
    · have st := BStep.a (ea := eA rank ways) (eb := eB rank ways) hv hle
      have hst := stp st
      dsimp only
      rw [hw st]
      have hsum : 0 ≤ x.fb v → IntKind.i64.wrap (x.fb v + x.oa v) = x.fb v + x.oa v := fun h0 => by
        have q1 : x.oa v < 2 ^ 62 := inv.a.lo oka hv.1.1
        have q2 : x.fb v < 2 ^ 62 := inv.b.lf okb hv.1.1
        have := hv.1.2.1
        exact w64 (by omega) (by omega)
      refine lookStep_ok (cs := nArr b5 b7) (b := b5) (b' := b7) (again := fun y => J1 (y, ((x.goA (eA rank ways) v).steps : Int), ())) (ed := eA rank ways v) hS55.b9 rfl (by rw [w10]; rfl) ⟨by decide, by decide⟩ (by rw [w10]; exact ⟨by decide, by decide⟩) hS55.sA hS55.sB ⟨by have := hS55.rA; omega, fun h => by have := hS55.fA _ h; omega⟩ ⟨by have := hS55.rA; omega, fun h => by have := hS55.fA _ h; omega⟩
        ⟨Ne.symm hS55.d1, hS55.d2⟩ (fun k hk => ⟨fun e => hS55.d3 (e ▸ hk), fun h => hS55.d4 k h hk⟩) hS55.e (by have := hS55.rA; have := e11.size; omega) (fun k hk => by have := hS55.fA k hk; have := e11.size; omega) hv.1 (by omega) hbest (oka.l v hv.1.1) (fun e he => ?_) hsum
        (fun w1 e1 K' hK' => hcv.up p _ _ _ (Up_ok (hH.ext e1) fun t w'' e h f => hK' t w'' e (by rw [up v hv.1.1] at h; exact h) f)) fun w' F1 L1 e' z' f1 k9 kA kB => ?_
      · obtain ⟨q0, q1, q2, q3⟩ := oka.e v hv.1.1 e he
        have q4 : x.oa v < 2 ^ 62 := inv.a.lo oka hv.1.1
        have := hv.1.2.1
        exact ⟨q0, q1, w64 (by omega) (by omega), by omega⟩
      · refine hJ1 (x.goA (eA rank ways) v, ⟨A.q, A.r, F1, L1⟩, B) _ w' ⟨rfl, hrun.snoc st, ⟨e', by omega, k9, kA, kB, hS55.rA, hS55.rB, fun k hk => ?_, hS55.fB, hS55.d1, fun h => ?_, hS55.d3, fun k h1 h2 => ?_⟩⟩ (by dsimp only; omega)
        · rcases f1 k hk with h | h
          · exact hS55.fA k h
          · omega
        · rcases f1 _ h with h | h
          · exact hS55.d2 h
          · exact absurd (Nat.lt_of_lt_of_le lB2 h) (Nat.lt_irrefl _)
        · rcases f1 _ h1 with h | h
          · exact hS55.d4 k h h2
          · have := lB3 k h2; omega
    · have st := BStep.b (ea := eA rank ways) (eb := eB rank ways) hv hle
      have hst := stp st
      dsimp only
      rw [hw st]
      have hsum : 0 ≤ x.fa v → IntKind.i64.wrap (x.fa v + x.ob v) = x.fa v + x.ob v := fun h0 => by
        have q1 : x.ob v < 2 ^ 62 := inv.b.lo okb hv.1.1
        have q2 : x.fa v < 2 ^ 62 := inv.a.lf oka hv.1.1
        have := hv.1.2.1
        exact w64 (by omega) (by omega)
      refine lookStep_ok (cs := nArr b5 b7) (b := b7) (b' := b5) (again := fun y => J1 (y, ((x.goB (eB rank ways) v).steps : Int), ())) (ed := eB rank ways v) hS55.b9 rfl (by rw [w11']; rfl) ⟨by decide, by decide⟩ (by rw [w11']; exact ⟨by decide, by decide⟩) hS55.sB hS55.sA ⟨by have := hS55.rB; omega, fun h => by have := hS55.fB _ h; omega⟩ ⟨by have := hS55.rB; omega, fun h => by have := hS55.fB _ h; omega⟩
        ⟨hS55.d1, hS55.d3⟩ (fun k hk => ⟨fun e => hS55.d2 (e ▸ hk), fun h => hS55.d4 k hk h⟩) hS55.e (by have := hS55.rB; have := e11.size; omega) (fun k hk => by have := hS55.fB k hk; have := e11.size; omega) hv.1 (by omega) hbest (okb.l v hv.1.1) (fun e he => ?_) hsum
        (fun w1 e1 K' hK' => hcv.dn p _ _ _ (Down_ok (hH.ext e1) fun t w'' e h f => hK' t w'' e (by rw [dn v hv.1.1] at h; exact h) f)) fun w' F1 L1 e' z' f1 k9 kB kA => ?_
      · obtain ⟨q0, q1, q2, q3⟩ := okb.e v hv.1.1 e he
        have q4 : x.ob v < 2 ^ 62 := inv.b.lo okb hv.1.1
        have := hv.1.2.1
        exact ⟨q0, q1, w64 (by omega) (by omega), by omega⟩
      · rw [bstF_comm]
        refine hJ1 (x.goB (eB rank ways) v, A, ⟨B.q, B.r, F1, L1⟩) _ w' ⟨rfl, hrun.snoc st, ⟨e', by omega, k9, kA, kB, hS55.rA, hS55.rB, hS55.fA, fun k hk => ?_, hS55.d1, hS55.d2, fun h => ?_, fun k h1 h2 => ?_⟩⟩ (by dsimp only; omega)
        · rcases f1 k hk with h | h
          · exact hS55.fB k h
          · omega
        · rcases f1 _ h with h | h
          · exact hS55.d3 h
          · exact absurd (Nat.lt_of_lt_of_le lA2 h) (Nat.lt_irrefl _)
        · rcases f1 _ h2 with h | h
          · exact hS55.d4 k h1 h
          · have := lA3 k h1; omega
end
end Go.Sh

/- Tables; QueryMany, QueryTables. -/
set_option maxRecDepth 100000
namespace Go.Sh
open Go.RowKit

section
variable {w0 w w' : World} {s : SV} {svs : List SV} {L : List (List Int)}
end

section
variable {CV : CVT} {w : World} {p : Option Addr} {rank : List Int} {ways : List Wy} {F : Nat → Prop} {sr sy : SV}
theorem manyL_len (s : Int) (ts : List Int) : (manyL rank ways s ts).length = ts.length := by unfold manyL; rw [fi_len]

end
end Go.Sh

/- QueryTables. -/
set_option maxRecDepth 100000
namespace Go.Sh
open Go.RowKit

section
variable {CV : CVT} {w : World} {p : Option Addr} {rank : List Int} {ways : List Wy} {F : Nat → Prop} {sr sy : SV}

end
end Go.Sh

/- The reference's answers out of the table; what is known. -/
set_option maxRecDepth 100000
namespace Go.Sh
open Go.RowKit

section
variable {CV : CVT} {w : World} {N : Int} {s : SV} {arcs : List Arc}

section
variable {t : SV} {svs : List SV} {n : Nat}
end

end
end Go.Sh

/- How far it is, and how both searches go: the laws. -/
set_option maxRecDepth 100000
namespace Go.Sh
open Go.RowKit

structure QueryCV (CV : CVT) : Prop where
  sp : SpaceCV CV
  lk : LookCV CV

/-- What Look tells. -/
def LookAt (rank : List Int) (ways : List Wy) (s t : Int) (x : BS) : Prop := ∃ a b : Nat, s = a ∧ t = b ∧ a < rank.length ∧ b < rank.length ∧ BRun rank.length (eA rank ways) (eB rank ways) (BS.start a b) x ∧ BStop rank.length x
noncomputable def lookF (rank : List Int) (ways : List Wy) (s t : Int) : Int × Int := by
  classical exact if h : ∃ x, LookAt rank ways s t x then (h.choose.best, (h.choose.steps : Int)) else (-1, 0)

section
variable {CV : CVT} {w : World} {p : Option Addr} {rank : List Int} {ways : List Wy} {FH : Nat → Prop} {sr sy : SV}
theorem lookF_of {s t : Int} {x : BS} (h : LookAt rank ways s t x) : lookF rank ways s t = (x.best, (x.steps : Int)) := by
  unfold lookF
  have hx : ∃ x, LookAt rank ways s t x := ⟨x, h⟩
  rw [dif_pos hx]
  obtain ⟨a, b, rfl, rfl, _, _, h3, h4⟩ := hx.choose_spec
  obtain ⟨a', b', e1, e2, _, _, k3, k4⟩ := h
  have e1 : a = a' := by omega
  have e2 : b = b' := by omega
  subst e1 e2
  rw [BRun.end_ _ h3 h4 k3 k4 (Nat.le_refl _)]
theorem lookF_no {s t : Int} (h : ¬ (0 ≤ s ∧ s < rank.length ∧ 0 ≤ t ∧ t < rank.length)) : lookF rank ways s t = (-1, 0) := by
  unfold lookF
  rw [dif_neg]
  rintro ⟨x, a, b, rfl, rfl, h1, h2, _⟩
  exact h ⟨by omega, by omega, by omega, by omega⟩
theorem Look_at (hcv : LookCV CV) {s t : Int} {K : Int → Int → World → Prop} (hH : HierA w p rank ways FH) (fit : FitH rank ways)
    (hk : ∀ w', Ext w w' → ((0 ≤ s ∧ s < rank.length ∧ 0 ≤ t ∧ t < rank.length) → ∃ x, LookAt rank ways s t x) → K (lookF rank ways s t).1 (lookF rank ways s t).2 w') : sh_query_Look CV p s t K w := by
  refine Look_ok hcv hH fit (fun hno => ?_) fun a b x w' e1 e2 ha hb e hr hS => ?_
  · have := hk w (.refl _) fun h => absurd h hno
    rw [lookF_no hno] at this; exact this
  · have h : LookAt rank ways s t x := ⟨a, b, e1, e2, ha, hb, hr, hS⟩
    have := hk w' e fun _ => ⟨x, h⟩
    rw [lookF_of h] at this; exact this
theorem whereF_no {s t : Int} (h : ¬ (0 ≤ s ∧ s < rank.length ∧ 0 ≤ t ∧ t < rank.length)) : whereF rank ways s t = (-1, -1) := by
  have he : com (fwdL rank ways s) (bckL rank ways t) = [] := by
    apply List.eq_nil_iff_forall_not_mem.2
    intro q hq
    obtain ⟨q1, q2, _⟩ := com_mem.1 hq
    unfold fwdL at q1; unfold bckL at q2
    obtain ⟨a, a1, a2, _⟩ := rowsL_mem.1 q1
    obtain ⟨b, b1, b2, _⟩ := rowsL_mem.1 q2
    by_cases hs : 0 ≤ s ∧ s < rank.length
    · rw [clF_no (fun ht => h ⟨hs.1, hs.2, ht⟩)] at b2; omega
    · rw [clF_no hs] at a2; omega
  unfold whereF meetF
  rw [he]; rfl
theorem QueryNone_ok (hcv : QueryCV CV) {st : SV} {ts : List Int} {v : Int} {K : Bool → World → Prop} (hr : View RI w sr rank) (hy : View RW w sy ways) (ht : View RI w st ts) (hk : ∀ w', Ext w w' → K true w') : sh_postroadlaw12_QueryNone CV sr sy st v K w := by
  unfold sh_postroadlaw12_QueryNone
  intro b1 w2 e2 g1 g1'
  have z2 := e2.size
  have lr := hr.len; have ly := hy.len; have lt := ht.len
  have kn : ∀ {wa}, w2.heap.size ≤ wa.heap.size → Ext w wa → sh_postroadlaw12_known CV (fun t w8 => Keeps [b1] wa w8 ∧ K t w8) wa := fun {wa} hz ea =>
    known12_ok hcv.sp fun w6 e6 => ⟨kp1 e6 (by omega), hk w6 (ea.trans e6)⟩
  refine Join.cut (fun _ w' => Ext w w' ∧ w2.heap.size ≤ w'.heap.size ∧ FitH rank ways ∧ rank.length ≤ 14 ∧ ways.length ≤ 80 ∧ ts.length ≤ 20 ∧ ¬ (0 ≤ v ∧ v < rank.length)) (fun J hJ => ?_) ?_
  · refine Fit_ok (hr.ext e2) (hy.ext e2) fun b w4 e4 hb => ⟨kp1 e4 (by omega), ?_⟩
    have z4 := e4.size
    have e04 := e2.trans e4
    cases b with
    | false => rw [Bool.not_false, cond_true]; exact kn (by omega) e04
    | true =>
    rw [Bool.not_true, cond_false]
    obtain ⟨fit, hn, hm⟩ := hb rfl
    rw [Bool.cond_decide]; split
    · exact kn (by omega) e04
    rename_i n1
    rw [Bool.cond_decide]; split
    · rename_i n2
      rw [Bool.cond_decide]; split
      · exact kn (by omega) e04
      · exact hJ _ _ ⟨e04, by omega, fit, hn, hm, by omega, by omega⟩
    · exact hJ _ _ ⟨e04, by omega, fit, hn, hm, by omega, by omega⟩
  · rintro _ w13 ⟨e013, z13, fit, hn, hm, hts, hv⟩
    refine HNew_ok (hr.ext e013) (hy.ext e013) (by omega) (by omega) (fun _ p w15 F e15 hH _ => ⟨kp1 e15 (by omega), ?_⟩) fun hno => absurd fit.ok hno
    have z15 := e15.size
    have e015 := e013.trans e15
    refine Many_ok hcv.sp hH fit (ht.ext e015) (by omega) fun s16 w17 e17 h16 _ => ⟨kp1 e17 (by omega), ?_⟩
    have z17 := e17.size
    have e017 := e015.trans e17
    have l16 := h16.view.len
    rw [manyL_len] at l16
    have all : manyL rank ways v ts = fi ts.length fun _ => -1 := by
      unfold manyL
      refine fi_congr fun j hj => ?_
      rw [whereF_no (fun k => hv ⟨k.1, k.2.1⟩)]
    rw [all] at h16
    rw [show ((s16.len : Int) != (st.len : Int)) = false by rw [bne_eq_false_iff_eq]; omega, cond_false]
    refine Join.cut (fun _ w' => Ext w17 w') (fun J hJ => ?_) fun _ w34 e34 => kn (by have := e34.size; omega) (e017.trans e34)
    refine LoopT.gh (γ := Nat) (fun i (st : Int × Unit) w' => st.1 = i ∧ i ≤ ts.length ∧ Ext w17 w') (fun i => ts.length - i) 0 ⟨rfl, Nat.zero_le _, .refl _⟩ ?_
    rintro i ⟨x, _⟩ w21 ⟨hx, hi, e21⟩ J1 hJ1
    simp only at hx; subst hx
    dsimp only
    have z21 := e21.size
    rw [Bool.cond_decide]
    by_cases hc : (i : Int) < (st.len : Int)
    · rw [if_pos hc]
      have hi' : i < ts.length := by omega
      have e021 := e017.trans e21
      refine int_idx (ht.ext e021) hi' fun _ a0 => ⟨_, a0, ?_⟩
      refine Look_at hcv.lk (hH.ext (e17.trans e21)) fit fun w26 e26 _ => ⟨kp1 e26 (by omega), ?_⟩
      have z26 := e26.size
      have nn : ¬ (0 ≤ ts[i] ∧ ts[i] < rank.length ∧ 0 ≤ v ∧ v < rank.length) := fun k => hv ⟨k.2.2.1, k.2.2.2⟩
      rw [lookF_no nn]
      have h16' := (h16.ext (e21.trans e26)).view
      refine fi_rd h16' hi' fun _ a0 => ⟨_, a0, ?_⟩
      rw [show ((-1 : Int) != -1) = false from rfl, cond_false]
      refine int_idx (ht.ext (e021.trans e26)) hi' fun _ a0 => ⟨_, a0, ?_⟩
      refine Far_ok hcv.sp (hH.ext ((e17.trans e21).trans e26)) fit fun w32 e32 => ⟨kp1 e32 (by omega), ?_⟩
      rw [whereF_no nn]
      simp only [bne_self_eq_false, cond_false]
      exact hJ1 (i + 1) _ _ ⟨wsucc (m := 2 ^ 40) (by omega) (by omega), by omega, (e21.trans e26).trans e32⟩ (by omega)
    · rw [if_neg hc]; exact hJ _ _ e21
end
end Go.Sh
