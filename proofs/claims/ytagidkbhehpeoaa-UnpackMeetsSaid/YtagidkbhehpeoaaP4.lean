/- HierRows, HierNew, HierApi, HierRef, HierRef2, HierTwo, SpClimb, RefMap, SpRows, RefLeft, RefNext, RefNear, SpRef, SpKnown, RefNeed, RefTake, RefBuild, RefBuild2, HierOfMaps, DistRef2, SpMaps, UnChain, UnSlices, UnClimb, HierTells, UnOpen, UnStack, SpMeet, SpBoth, SpTurned, QuFar, UnWays, QuMany, QuTable, UnRef, DistKnown, UnLaws, UnMeets: merged into one text. -/
import Derived.Test.YtagidkbhehpeoaaP3
import Derived.Test.YtagidkbhehpeoaaP2
/- Rows of edges: a slice of slices. -/
set_option maxRecDepth 100000
namespace Go.Sh
open Go.RowKit

abbrev Edg := Int × Int × Int
structure Rows (w : World) (s : SV) (svs : List SV) (L : List (List Edg)) : Prop where
  so : Own RS w s svs
  len : svs.length = L.length
  row : ∀ v (h1 : v < svs.length) (h2 : v < L.length), Own RD w svs[v] L[v]
  dj : ∀ u v (hu : u < svs.length) (hv : v < svs.length), u ≠ v → ∀ k, svs[u].blk k → ¬ svs[v].blk k
  ds : ∀ v (hv : v < svs.length) k, svs[v].blk k → ¬ s.blk k
def rowsF (s : SV) (svs : List SV) (k : Nat) : Prop := s.blk k ∨ ∃ v, ∃ h : v < svs.length, svs[v].blk k

section
variable {w w' : World} {s : SV} {svs : List SV} {L : List (List Edg)}
theorem Rows.chg {G : Nat → Prop} (h : Rows w s svs L) (c : Chg G w w') (hd : ∀ k, rowsF s svs k → ¬ G k) : Rows w' s svs L :=
  ⟨h.so.chg c fun k hk => hd k (.inl hk), h.len, fun v h1 h2 => (h.row v h1 h2).chg c fun k hk => hd k (.inr ⟨v, h1, hk⟩), h.dj, h.ds⟩
theorem Rows.ext (h : Rows w s svs L) (e : Ext w w') : Rows w' s svs L := h.chg (G := fun _ => False) (.of_ext e) fun _ _ h => h
theorem Rows.lt (h : Rows w s svs L) {k : Nat} (hk : rowsF s svs k) : k < w.heap.size := by
  rcases hk with hk | ⟨v, hv, hk⟩
  · exact h.so.lt hk
  · exact (h.row v hv (by rw [← h.len]; exact hv)).lt hk
theorem Rows.nil {n : Nat} (h : Own RS w s (List.replicate n ⟨none, 0, 0⟩)) : Rows w s (List.replicate n ⟨none, 0, 0⟩) (List.replicate n []) := by
  refine ⟨h, by simp, fun v h1 h2 => ?_, fun u v hu hv _ k hk => ?_, fun v hv k hk => ?_⟩
  · simp only [List.getElem_replicate]; exact Own.nil
  · simp only [List.getElem_replicate] at hk; obtain ⟨p, hp, _⟩ := hk; cases hp
  · simp only [List.getElem_replicate] at hk; obtain ⟨p, hp, _⟩ := hk; cases hp
theorem rowsF_nil {n : Nat} {k : Nat} : rowsF s (List.replicate n ⟨none, 0, 0⟩) k ↔ s.blk k := by
  constructor
  · rintro (h | ⟨v, hv, hk⟩)
    · exact h
    · simp only [List.getElem_replicate] at hk; obtain ⟨p, hp, _⟩ := hk; cases hp
  · exact .inl

/-- A row that has grown is put back. -/
theorem Rows.store {w1 w2 : World} (h : Rows w s svs L) {v : Nat} (hv : v < svs.length) {s' : SV} {l' : List Edg} (c : Chg svs[v].blk w w1) (hs : ∀ k, s'.blk k → svs[v].blk k ∨ w.heap.size ≤ k) (hO : Own RD w1 s' l') (e : Ext w1 w2) {K : World → Prop}
    (hk : ∀ w3, Chg s.blk w2 w3 → Rows w3 s (svs.set v s') (L.set v l') → (∀ k, rowsF s (svs.set v s') k → rowsF s svs k ∨ w.heap.size ≤ k) → K w3) : Idx s.a s.len (v : Int) 1 (fun a => stL w2 a [.slice s'.a s'.len s'.cap] 0 K) := by
  have hs2 : Own RS w2 s svs := (h.so.chg c fun k h1 h2 => h.ds v hv k h2 h1).ext e
  refine own_wr (R := RS) hs2 hv fun b hb hput => ?_
  refine hput s' w2 _ hs2 fun w3 o hO3 => ?_
  have co : Chg s.blk w2 w3 := .of_off o ⟨_, hb, rfl⟩
  have nS : ∀ k, s'.blk k → ¬ s.blk k := fun k h1 h2 => by
    rcases hs k h1 with h' | h'
    · exact h.ds v hv k h' h2
    · have := h.so.lt h2; omega
  have hlen := h.len
  refine hk w3 co ⟨hO3, by simpa using hlen, fun u h1 h2 => ?_, fun u t hu ht hne k h1 h2 => ?_, fun u hu k h1 => ?_⟩ fun k hk => ?_
  · simp only [List.length_set] at h1 h2
    by_cases huv : v = u
    · subst huv
      simp only [List.getElem_set_self]
      exact (hO.ext e).chg co nS
    · simp only [List.getElem_set_ne huv]
      exact (((h.row u h1 h2).chg c fun k h3 h4 => h.dj u v h1 hv (Ne.symm huv) k h3 h4).ext e).chg co fun k h3 h4 => h.ds u h1 k h3 h4
  · simp only [List.length_set] at hu ht
    rw [List.getElem_set] at h1 h2
    split at h1
    · rename_i e1; subst e1
      rw [if_neg hne] at h2
      rcases hs k h1 with h' | h'
      · exact h.dj v t hv ht hne k h' h2
      · have := (h.row t ht (by omega)).lt h2; omega
    · rename_i e1
      split at h2
      · rename_i e2; subst e2
        rcases hs k h2 with h' | h'
        · exact h.dj v u hv hu e1 k h' h1
        · have := (h.row u hu (by omega)).lt h1; omega
      · exact h.dj u t hu ht hne k h1 h2
  · simp only [List.length_set] at hu
    rw [List.getElem_set] at h1
    split at h1
    · exact nS k h1
    · exact h.ds u hu k h1
  · rcases hk with hk | ⟨u, hu, hk⟩
    · exact .inl (.inl hk)
    · simp only [List.length_set] at hu
      rw [List.getElem_set] at hk
      split at hk
      · rcases hs k hk with h' | h'
        · exact .inl (.inr ⟨v, hv, h'⟩)
        · exact .inr h'
      · exact .inl (.inr ⟨u, hu, hk⟩)
end

/-- The ways up from v, and down to it, of the first i ways. -/
def wyA (ways : List Wy) (i : Nat) : Wy := ways.getD i (0, 0, 0, 0, 0)
theorem wyA_get {ways : List Wy} {i : Nat} (h : i < ways.length) : ways[i] = wyA ways i := by unfold wyA; rw [List.getD_eq_getElem?_getD, List.getElem?_eq_getElem h]; rfl
def IsUp (rank : List Int) (y : Wy) : Prop := rkA rank (yF y) < rkA rank (yT y)
instance (rank : List Int) (y : Wy) : Decidable (IsUp rank y) := by unfold IsUp; infer_instance
def upP (rank : List Int) (ways : List Wy) (v : Int) : Nat → List Edg
  | 0 => []
  | i + 1 => if yF (wyA ways i) = v ∧ IsUp rank (wyA ways i) then insE (yT (wyA ways i), yW (wyA ways i), (i : Int)) (upP rank ways v i) else upP rank ways v i
def dnP (rank : List Int) (ways : List Wy) (v : Int) : Nat → List Edg
  | 0 => []
  | i + 1 => if yT (wyA ways i) = v ∧ ¬ IsUp rank (wyA ways i) then insE (yF (wyA ways i), yW (wyA ways i), (i : Int)) (dnP rank ways v i) else dnP rank ways v i
theorem upP_mem {rank : List Int} {ways : List Wy} {v : Int} {e : Edg} : ∀ {i : Nat}, e ∈ upP rank ways v i ↔ ∃ k, k < i ∧ yF (wyA ways k) = v ∧ IsUp rank (wyA ways k) ∧ e = (yT (wyA ways k), yW (wyA ways k), (k : Int))
  | 0 => by simp [upP]
  | i + 1 => by
    unfold upP
    split
    · rename_i h
      rw [insE_mem, upP_mem]
      constructor
      · rintro (rfl | ⟨k, hk, h1⟩)
        · exact ⟨i, by omega, h.1, h.2, rfl⟩
        · exact ⟨k, by omega, h1⟩
      · rintro ⟨k, hk, h1⟩
        by_cases e : k = i
        · subst e; exact .inl h1.2.2
        · exact .inr ⟨k, by omega, h1⟩
    · rename_i h
      rw [upP_mem]
      constructor
      · rintro ⟨k, hk, h1⟩; exact ⟨k, by omega, h1⟩
      · rintro ⟨k, hk, h1⟩
        by_cases e : k = i
        · subst e; exact absurd ⟨h1.1, h1.2.1⟩ h
        · exact ⟨k, by omega, h1⟩
theorem dnP_mem {rank : List Int} {ways : List Wy} {v : Int} {e : Edg} : ∀ {i : Nat}, e ∈ dnP rank ways v i ↔ ∃ k, k < i ∧ yT (wyA ways k) = v ∧ ¬ IsUp rank (wyA ways k) ∧ e = (yF (wyA ways k), yW (wyA ways k), (k : Int))
  | 0 => by simp [dnP]
  | i + 1 => by
    unfold dnP
    split
    · rename_i h
      rw [insE_mem, dnP_mem]
      constructor
      · rintro (rfl | ⟨k, hk, h1⟩)
        · exact ⟨i, by omega, h.1, h.2, rfl⟩
        · exact ⟨k, by omega, h1⟩
      · rintro ⟨k, hk, h1⟩
        by_cases e : k = i
        · subst e; exact .inl h1.2.2
        · exact .inr ⟨k, by omega, h1⟩
    · rename_i h
      rw [dnP_mem]
      constructor
      · rintro ⟨k, hk, h1⟩; exact ⟨k, by omega, h1⟩
      · rintro ⟨k, hk, h1⟩
        by_cases e : k = i
        · subst e; exact absurd ⟨h1.1, h1.2.1⟩ h
        · exact ⟨k, by omega, h1⟩
theorem upP_rise {rank : List Int} {ways : List Wy} {n : Nat} (ok : OkFs n ways) (v : Int) : ∀ {i : Nat}, i ≤ ways.length → Rise (upP rank ways v i)
  | 0, _ => List.Pairwise.nil
  | i + 1, hi => by
    unfold upP
    split
    · rename_i h
      refine insE_rise (upP_rise ok v (by omega)) fun x hx heq => ?_
      obtain ⟨k, hk, h1, _, rfl⟩ := upP_mem.1 hx
      have := ok.uniq (j := k) (k := i) (by omega) (by omega) (by rw [wyA_get, wyA_get, h1, h.1]) (by rw [wyA_get, wyA_get]; exact heq)
      omega
    · exact upP_rise ok v (by omega)
theorem dnP_rise {rank : List Int} {ways : List Wy} {n : Nat} (ok : OkFs n ways) (v : Int) : ∀ {i : Nat}, i ≤ ways.length → Rise (dnP rank ways v i)
  | 0, _ => List.Pairwise.nil
  | i + 1, hi => by
    unfold dnP
    split
    · rename_i h
      refine insE_rise (dnP_rise ok v (by omega)) fun x hx heq => ?_
      obtain ⟨k, hk, h1, _, rfl⟩ := dnP_mem.1 hx
      have := ok.uniq (j := k) (k := i) (by omega) (by omega) (by rw [wyA_get, wyA_get]; exact heq) (by rw [wyA_get, wyA_get, h1, h.1])
      omega
    · exact dnP_rise ok v (by omega)
theorem upP_len (rank : List Int) (ways : List Wy) (v : Int) : ∀ i, (upP rank ways v i).length ≤ i
  | 0 => by simp [upP]
  | i + 1 => by
    have := upP_len rank ways v i
    unfold upP; split
    · rw [insE_len]; omega
    · omega
theorem dnP_len (rank : List Int) (ways : List Wy) (v : Int) : ∀ i, (dnP rank ways v i).length ≤ i
  | 0 => by simp [dnP]
  | i + 1 => by
    have := dnP_len rank ways v i
    unfold dnP; split
    · rw [insE_len]; omega
    · omega
def upsL (rank : List Int) (ways : List Wy) (i : Nat) : List (List Edg) := (List.range rank.length).map fun (v : Nat) => upP rank ways (v : Int) i
def dnsL (rank : List Int) (ways : List Wy) (i : Nat) : List (List Edg) := (List.range rank.length).map fun (v : Nat) => dnP rank ways (v : Int) i
theorem upsL_len (rank : List Int) (ways : List Wy) (i : Nat) : (upsL rank ways i).length = rank.length := by simp [upsL]
theorem dnsL_len (rank : List Int) (ways : List Wy) (i : Nat) : (dnsL rank ways i).length = rank.length := by simp [dnsL]
theorem upsL_get {rank : List Int} {ways : List Wy} {i v : Nat} (h : v < (upsL rank ways i).length) : (upsL rank ways i)[v] = upP rank ways (v : Int) i := by simp [upsL]
theorem dnsL_get {rank : List Int} {ways : List Wy} {i v : Nat} (h : v < (dnsL rank ways i).length) : (dnsL rank ways i)[v] = dnP rank ways (v : Int) i := by simp [dnsL]
theorem upsL_step {rank : List Int} {ways : List Wy} {i f : Nat} (hf : yF (wyA ways i) = (f : Int)) (hu : IsUp rank (wyA ways i)) :
    (upsL rank ways i).set f (insE (yT (wyA ways i), yW (wyA ways i), (i : Int)) (upP rank ways (f : Int) i)) = upsL rank ways (i + 1) := by
  apply List.ext_getElem
  · simp [upsL]
  · intro j h1 h2
    rw [List.getElem_set]
    by_cases e : f = j
    · subst e; rw [if_pos rfl, upsL_get]; simp only [upP]; rw [if_pos ⟨hf, hu⟩]
    · rw [if_neg e, upsL_get, upsL_get]; simp only [upP]; rw [if_neg (fun h => e (by have := hf.symm.trans h.1; omega))]
theorem dnsL_step {rank : List Int} {ways : List Wy} {i t : Nat} (ht : yT (wyA ways i) = (t : Int)) (hu : ¬ IsUp rank (wyA ways i)) :
    (dnsL rank ways i).set t (insE (yF (wyA ways i), yW (wyA ways i), (i : Int)) (dnP rank ways (t : Int) i)) = dnsL rank ways (i + 1) := by
  apply List.ext_getElem
  · simp [dnsL]
  · intro j h1 h2
    rw [List.getElem_set]
    by_cases e : t = j
    · subst e; rw [if_pos rfl, dnsL_get]; simp only [dnP]; rw [if_pos ⟨ht, hu⟩]
    · rw [if_neg e, dnsL_get, dnsL_get]; simp only [dnP]; rw [if_neg (fun h => e (by have := ht.symm.trans h.1; omega))]
theorem upsL_same {rank : List Int} {ways : List Wy} {i : Nat} (hu : ¬ IsUp rank (wyA ways i)) : upsL rank ways (i + 1) = upsL rank ways i := by
  unfold upsL; exact List.map_congr_left fun v _ => by simp only [upP]; rw [if_neg (fun h => hu h.2)]
theorem dnsL_same {rank : List Int} {ways : List Wy} {i : Nat} (hu : IsUp rank (wyA ways i)) : dnsL rank ways (i + 1) = dnsL rank ways i := by
  unfold dnsL; exact List.map_congr_left fun v _ => by simp only [dnP]; rw [if_neg (fun h => h.2 hu)]
theorem upsL_nil (rank : List Int) (ways : List Wy) : upsL rank ways 0 = List.replicate rank.length [] := by
  apply List.ext_getElem <;> simp [upsL, upP]
theorem dnsL_nil (rank : List Int) (ways : List Wy) : dnsL rank ways 0 = List.replicate rank.length [] := by
  apply List.ext_getElem <;> simp [dnsL, dnP]
end Go.Sh

/- A hierarchy in memory; New. -/
set_option maxRecDepth 100000
namespace Go.Sh
open Go.RowKit

structure HierM (w : World) (hb : Nat) (sr sy s3 su sd : SV) (r : Nat) (rank : List Int) (ways : List Wy) (g : Nat → Int) (mm : List (List Int × Value)) (us ds : List SV) (i : Nat) : Prop where
  hd : Blk w hb [.slice sr.a sr.len sr.cap, .slice sy.a sy.len sy.cap, .slice s3.a s3.len s3.cap, .map (some r), .slice su.a su.len su.cap, .slice sd.a sd.len sd.cap]
  rk : Own RI w sr rank
  wy : Own RW w sy ways
  at_ : Own RI w s3 (fi rank.length g)
  m : MapIs true 2 w r mm
  up : Rows w su us (upsL rank ways i)
  dn : Rows w sd ds (dnsL rank ways i)
def hierF (hb : Nat) (sr sy s3 su sd : SV) (r : Nat) (us ds : List SV) (k : Nat) : Prop := k = hb ∨ sr.blk k ∨ sy.blk k ∨ s3.blk k ∨ k = r ∨ rowsF su us k ∨ rowsF sd ds k

theorem HierM.chg {w w' : World} {hb : Nat} {sr sy s3 su sd : SV} {r : Nat} {rank : List Int} {ways : List Wy} {g : Nat → Int} {mm : List (List Int × Value)} {us ds : List SV} {i : Nat} {G : Nat → Prop} (h : HierM w hb sr sy s3 su sd r rank ways g mm us ds i) (c : Chg G w w') (hd : ∀ k, hierF hb sr sy s3 su sd r us ds k → ¬ G k) : HierM w' hb sr sy s3 su sd r rank ways g mm us ds i :=
  ⟨c.blk h.hd (hd _ (.inl rfl)), h.rk.chg c fun k hk => hd k (.inr (.inl hk)), h.wy.chg c fun k hk => hd k (.inr (.inr (.inl hk))), h.at_.chg c fun k hk => hd k (.inr (.inr (.inr (.inl hk)))),
    h.m.same (c.block r h.m.lt (hd _ (.inr (.inr (.inr (.inr (.inl rfl))))))), h.up.chg c fun k hk => hd k (.inr (.inr (.inr (.inr (.inr (.inl hk)))))), h.dn.chg c fun k hk => hd k (.inr (.inr (.inr (.inr (.inr (.inr hk))))))⟩
theorem HierM.lt {w : World} {hb : Nat} {sr sy s3 su sd : SV} {r : Nat} {rank : List Int} {ways : List Wy} {g : Nat → Int} {mm : List (List Int × Value)} {us ds : List SV} {i : Nat} (h : HierM w hb sr sy s3 su sd r rank ways g mm us ds i) {k : Nat} (hk : hierF hb sr sy s3 su sd r us ds k) : k < w.heap.size := by
  rcases hk with rfl | hk | hk | hk | rfl | hk | hk
  · exact blk_lt h.hd
  · exact h.rk.lt hk
  · exact h.wy.lt hk
  · exact h.at_.lt hk
  · exact h.m.lt
  · exact h.up.lt hk
  · exact h.dn.lt hk

/-- A hierarchy; F: its blocks. -/
def HierA (w : World) (p : Option Addr) (rank : List Int) (ways : List Wy) (F : Nat → Prop) : Prop :=
  OkH rank ways ∧ ∃ hb sr sy s3 su sd r g mm us ds, p = some ⟨hb, 0, none⟩ ∧ Placed rank g ∧ MapOk mm ways ∧ HierM w hb sr sy s3 su sd r rank ways g mm us ds ways.length ∧ F = hierF hb sr sy s3 su sd r us ds
section
variable {w w' : World} {p : Option Addr} {rank : List Int} {ways : List Wy} {F : Nat → Prop}
theorem HierA.ok (h : HierA w p rank ways F) : OkH rank ways := h.1
theorem HierA.chg {G : Nat → Prop} (h : HierA w p rank ways F) (c : Chg G w w') (hd : ∀ k, F k → ¬ G k) : HierA w' p rank ways F := by
  obtain ⟨ok, hb, sr, sy, s3, su, sd, r, g, mm, us, ds, hp, hpl, hmo, hM, rfl⟩ := h
  exact ⟨ok, hb, sr, sy, s3, su, sd, r, g, mm, us, ds, hp, hpl, hmo, hM.chg c hd, rfl⟩
theorem HierA.ext (h : HierA w p rank ways F) (e : Ext w w') : HierA w' p rank ways F := h.chg (G := fun _ => False) (.of_ext e) fun _ _ h => h
theorem HierA.lt (h : HierA w p rank ways F) {k : Nat} (hk : F k) : k < w.heap.size := by
  obtain ⟨ok, hb, sr, sy, s3, su, sd, r, g, mm, us, ds, hp, hpl, hmo, hM, rfl⟩ := h
  exact hM.lt hk
end

theorem HNew_ok {w : World} {sr0 sy0 : SV} {rank : List Int} {ways : List Wy} {K : Option Addr → World → Prop} (hr : View RI w sr0 rank) (hy : View RW w sy0 ways) (hn : rank.length < 2 ^ 40) (hm : ways.length < 2 ^ 40)
    (hk : OkH rank ways → ∀ p w' F, Ext w w' → HierA w' p rank ways F → (∀ k, F k → w.heap.size ≤ k) → K p w') (hno : ¬ OkH rank ways → ∀ w', Ext w w' → K none w') : sh_hier_New sr0 sy0 K w := by
  unfold sh_hier_New
  intro b1 w2 e2 g1 g1'
  have z2 := e2.size
  have lr0 := hr.len; have ly0 := hy.len
  refine Own.app (R := RI) Own.nil (hr.ext e2) (by simp only [List.length_nil]; omega) (by simp only [List.length_nil]; omega) fun sr w4 c4 hsr hR => ?_
  rw [List.nil_append] at hR
  have e4 : Ext w2 w4 := c4.ext fun k _ ⟨q, hq, _⟩ => by cases hq
  have fr : Fsh w2 sr := fun k hk => by
    rcases hsr k hk with ⟨q, hq, _⟩ | h'
    · cases hq
    · exact h'
  have z4 := e4.size
  refine ⟨kp_ext e4 (by (intro b hb; simp only [List.mem_cons, List.not_mem_nil, or_false] at hb; omega)), fun w5 o5 => ?_⟩
  have z5 := o5.size
  have e5 : Ext w w5 := ext_off (e2.trans e4) o5 g1
  have nr1 : ¬ sr.blk b1 := fun hk => by have := fr _ hk; omega
  have hR5 := hR.off o5 nr1
  refine Own.app (R := RW) Own.nil (hy.ext e5) (by simp only [List.length_nil]; omega) (by simp only [List.length_nil]; omega) fun sy w7 c7 hsy hY => ?_
  rw [List.nil_append] at hY
  have e7 : Ext w5 w7 := c7.ext fun k _ ⟨q, hq, _⟩ => by cases hq
  have fy : Fsh w5 sy := fun k hk => by
    rcases hsy k hk with ⟨q, hq, _⟩ | h'
    · cases hq
    · exact h'
  have z7 := e7.size
  refine ⟨kp_ext e7 (by (intro b hb; simp only [List.mem_cons, List.not_mem_nil, or_false] at hb; omega)), fun w8 o8 => ?_⟩
  have z8 := o8.size
  have e8 : Ext w w8 := ext_off (e5.trans e7) o8 g1
  have ny1 : ¬ sy.blk b1 := fun hk => by have := fy _ hk; omega
  have hR8 := (hR5.ext e7).off o8 nr1
  have hY8 := hY.off o8 ny1
  refine check_ok hR8.view hY8.view (fun ok hb s3 r g mm w11 e11 C => ⟨kp_ext e11 (by (intro b hb; simp only [List.mem_cons, List.not_mem_nil, or_false] at hb; omega)), ?_⟩) (fun no c w11 e11 hc _ _ => ⟨kp_ext e11 (by (intro b hb; simp only [List.mem_cons, List.not_mem_nil, or_false] at hb; omega)), ?_⟩)
  rotate_left
  · rw [show (c != 0) = true by simpa using hc, cond_true]; exact hno no w11 (e8.trans e11)
  rw [bne_self_eq_false, cond_false]
  have hk := hk ok
  intro w12 e12
  have z11 := e11.size; have z12 := e12.size
  have hbl : hb < w11.heap.size := blk_lt C.hd
  have rl := C.m.lt
  have br : ∀ k, sr.blk k → k < w8.heap.size := fun k hk => hR8.lt hk
  have by_ : ∀ k, sy.blk k → k < w8.heap.size := fun k hk => hY8.lt hk
  have b3 : ∀ k, s3.blk k → k < w11.heap.size := fun k hk => C.at_.lt hk
  have lsr := hR8.view.len
  have lsy := hY8.view.len
  have hokn := ok.n; have hokk := ok.k
  refine own_mk (R := RS) (bytes := 24) (by omega) (by omega) (by omega) fun su w14 e14 gu hU => ?_
  simp only [Int.toNat_natCast] at hU
  rw [lsr] at hU
  have z14 := e14.size
  refine ⟨_, rfl, fun w16 e16 => ?_⟩
  have z16 := e16.size
  have e1116 := (e12.trans e14).trans e16
  rw [addm]
  refine stL_blk (b := hb) (o := 0 + 4) [.slice su.a su.len su.cap] 0 w16 _ _ (e1116.blkE C.hd) (by simp) fun w17 o17 hB17 => ?_
  have z17 := o17.size
  refine ⟨⟨by omega, fun b hz => o17.block b (fun e => ?_)⟩, fun c hc => by simp only [List.mem_cons, List.not_mem_nil, or_false] at hc; subst hc; exact o17.block _ (by have := C.ghb; omega), ?_⟩
  · rcases hz with (h | h) | h
    · exact h
    · omega
    · omega
  refine ⟨by omega, Int.le_refl _, by omega, by omega, fun b18 w19 e19 hz18 hB18 => ?_⟩
  have z19 := e19.size
  have hl18 : b18 < w19.heap.size := blk_lt hB18
  have bu : ∀ k, su.blk k → k < w14.heap.size := fun k hk => hU.lt hk
  have g18 : w11.heap.size ≤ b18 ∧ ¬ su.blk b18 := by
    rcases hz18 with ((h | h) | h) | h
    · exact h.elim
    · exact ⟨h.1, fun hk => by have := gu _ hk; omega⟩
    · exact ⟨by omega, fun hk => by have := bu _ hk; omega⟩
    · exact ⟨by omega, fun hk => by have := bu _ hk; omega⟩
  have hD : Own RS w19 ⟨some ⟨b18, 0, none⟩, sr.len, sr.len⟩ (List.replicate rank.length ⟨none, 0, 0⟩) := by
    refine ⟨[], by simp [lsr], by simp [lsr], .inr ⟨b18, rfl, ?_⟩⟩
    rw [List.append_nil, show (⟨none, 0, 0⟩ : SV) = RS.z from rfl, ← RS.zeros]
    have hB := hB18
    simp only [Int.toNat_natCast] at hB
    rw [lsr] at hB
    exact hB
  have f18 : ∀ k, (⟨some ⟨b18, 0, none⟩, sr.len, sr.len⟩ : SV).blk k → k = b18 := fun k ⟨p, hp, hq⟩ => by cases hp; exact hq.symm
  refine ⟨_, rfl, fun w21 e21 => ?_⟩
  have z21 := e21.size
  simp only [Int.toNat_natCast]
  generalize hsd : (⟨some ⟨b18, 0, none⟩, sr.len, sr.len⟩ : SV) = sd at hD f18
  have hsda : (some ⟨b18, 0, none⟩ : Option Addr) = sd.a ∧ sr.len = sd.len ∧ sr.len = sd.cap := by subst hsd; exact ⟨rfl, rfl, rfl⟩
  rw [addm]
  have hst : ([.slice (some ⟨b18, 0, none⟩) sr.len sr.len] : List Value) = [.slice sd.a sd.len sd.cap] := by rw [← hsda.1, ← hsda.2.1, ← hsda.2.2]
  rw [hst]
  refine stL_blk (b := hb) (o := 0 + 5) [.slice sd.a sd.len sd.cap] 0 w21 _ _ ((e19.trans e21).blkE hB17) (by simp [setL]) fun w22 o22 hB22 => ?_
  have z22 := o22.size
  refine ⟨fun c hc => by simp only [List.mem_cons, List.not_mem_nil, or_false] at hc; subst hc; exact o22.block _ (by have := C.ghb; omega), ?_⟩
  intro w23 e23
  have z23 := e23.size
  -- the start
  have cA : Chg (fun k => k = hb) w11 w23 := ((((Chg.of_ext (F := fun k => k = hb) e1116).trans (.of_off (F := fun k => k = hb) o17 rfl) fun _ _ h => h).trans (.of_ext (F := fun _ => False) (e19.trans e21)) fun _ _ h => h.elim).trans (.of_off (F := fun k => k = hb) o22 rfl) fun _ _ h => h).trans (.of_ext (F := fun _ => False) e23) fun _ _ h => h.elim
  have nhb : ∀ k, sr.blk k ∨ sy.blk k ∨ s3.blk k → k ≠ hb := fun k hk e => by
    have := C.ghb
    rcases hk with h | h | h
    · have := br k h; omega
    · have := by_ k h; omega
    · exact C.d3 (e ▸ h)
  have nu : ¬ su.blk hb := fun hk => by have := gu _ hk; omega
  have nd : ¬ sd.blk hb := fun hk => by have := f18 _ hk; omega
  have M0 : HierM w23 hb sr sy s3 su sd r rank ways g mm (List.replicate rank.length ⟨none, 0, 0⟩) (List.replicate rank.length ⟨none, 0, 0⟩) 0 := by
    refine ⟨by have := e23.blkE hB22; simpa [setL] using this, (hR8.ext e11).chg cA fun k hk => nhb k (.inl hk), (hY8.ext e11).chg cA fun k hk => nhb k (.inr (.inl hk)), C.at_.chg cA fun k hk => nhb k (.inr (.inr hk)), C.m.same (cA.block r rl C.dr), ?_, ?_⟩
    · rw [upsL_nil]; exact .nil ((((hU.ext e16).off o17 nu).ext (e19.trans e21)).off o22 nu |>.ext e23)
    · rw [dnsL_nil]; exact .nil (((hD.ext e21).off o22 nd).ext e23)
  have e23' : Ext w w23 := ext_chg (e8.trans e11) cA fun k hk => by have := C.ghb; have := e8.size; omega
  have ly : (sy.len : Int) = ways.length := by omega
  have base : w.heap.size ≤ w11.heap.size := by have := e8.size; omega
  refine LoopT.gh (γ := Nat × List SV × List SV) (fun gh (st : Int × Unit) w' => st.1 = gh.1 ∧ gh.1 ≤ ways.length ∧ Ext w w' ∧ w23.heap.size ≤ w'.heap.size ∧ HierM w' hb sr sy s3 su sd r rank ways g mm gh.2.1 gh.2.2 gh.1 ∧ (∀ k, rowsF su gh.2.1 k → w11.heap.size ≤ k) ∧ (∀ k, rowsF sd gh.2.2 k → w11.heap.size ≤ k) ∧ (∀ k, rowsF su gh.2.1 k → ¬ rowsF sd gh.2.2 k)) (fun gh => ways.length - gh.1) (0, List.replicate rank.length ⟨none, 0, 0⟩, List.replicate rank.length ⟨none, 0, 0⟩)
    ⟨rfl, Nat.zero_le _, e23', Nat.le_refl _, M0, fun k hk => by rw [rowsF_nil] at hk; have := gu k hk; omega, fun k hk => by rw [rowsF_nil] at hk; rw [f18 k hk]; exact g18.1, fun k h1 h2 => by rw [rowsF_nil] at h1 h2; rw [f18 k h2] at h1; exact g18.2 h1⟩ ?_
  rintro ⟨i, us, ds⟩ ⟨x, _⟩ w26 ⟨hx, hi, e26, z26, M, fu, fd, dud⟩ J1 hJ1
  simp only at hx hi M fu fd dud; subst hx
  dsimp only
  rw [Bool.cond_decide]
  by_cases hc : (i : Int) < (sy.len : Int)
  · rw [if_pos hc]
    have hi' : i < ways.length := by omega
    refine way_idx M.wy.view hi' fun a _ a0 a1 a2 a3 a4 => ⟨_, a0, _, a1, _, a2, _, a3, _, a4, ?_⟩
    rw [wyA_get hi']
    have oky := ok.f i hi'
    rw [wyA_get hi'] at oky
    generalize hyy : wyA ways i = y at oky ⊢
    obtain ⟨_, hne, f0, t0, f1, t1, _, _⟩ := oky
    obtain ⟨f, hf⟩ := Int.eq_ofNat_of_zero_le f0
    obtain ⟨t, ht⟩ := Int.eq_ofNat_of_zero_le t0
    rw [hf, ht]
    intro b33 w34 e34 g33 g33' w35 o35
    have z34 := e34.size; have z35 := o35.size
    have nF : ¬ hierF hb sr sy s3 su sd r us ds b33 := fun hk => by have := M.lt hk; omega
    have M35 := (M.chg (G := fun _ => False) (.of_ext e34) fun _ _ h => h).chg (G := fun k => k = b33) (.of_off o35 rfl) fun k hk e => nF (e ▸ hk)
    have e35 : Ext w w35 := ext_off (e26.trans e34) o35 (by have := e26.size; omega)
    refine int_idx M35.rk.view (by omega) fun _ q => ⟨_, q, ?_⟩
    refine int_idx M35.rk.view (by omega) fun _ q => ⟨_, q, ?_⟩
    rw [rk_get (show f < rank.length by omega), rk_get (show t < rank.length by omega), ← hf, ← ht]
    intro w40 e40
    have z40 := e40.size
    have M40 := M35.chg (G := fun _ => False) (.of_ext e40) fun _ _ h => h
    have e40' := e35.trans e40
    have lus : us.length = rank.length := by rw [M40.up.len, upsL_len]
    have lds : ds.length = rank.length := by rw [M40.dn.len, dnsL_len]
    have nrow : ∀ k, w11.heap.size ≤ k → k = hb ∨ sr.blk k ∨ sy.blk k ∨ s3.blk k ∨ k = r → False := fun k hk h => by
      rcases h with h | h | h | h | h
      · omega
      · have := br k h; omega
      · have := by_ k h; omega
      · have := b3 k h; omega
      · omega
    have bx : ∀ c, c ∈ [b33, b1] → c < w40.heap.size ∧ (¬ rowsF su us c ∧ ¬ rowsF sd ds c) := fun c hc => by
      simp only [List.mem_cons, List.not_mem_nil, or_false] at hc
      rcases hc with rfl | rfl
      · exact ⟨by omega, fun h => nF (.inr (.inr (.inr (.inr (.inr (.inl h)))))), fun h => nF (.inr (.inr (.inr (.inr (.inr (.inr h))))))⟩
      · exact ⟨by omega, fun h => by have := fu _ h; omega, fun h => by have := fd _ h; omega⟩
    rw [Bool.cond_decide]
    by_cases hup : rkA rank (yF y) < rkA rank (yT y)
    · rw [if_pos hup]
      refine ⟨_, rfl, su, by rw [addm, cell_blk M40.hd]; rfl, _, rfl, su, by rw [addm, cell_blk M40.hd]; rfl, ?_⟩
      rw [hf]
      have hv : f < us.length := by omega
      refine slot_idx M40.up.so.view hv fun q hq => ⟨_, hq, fun w49 e49 => ?_⟩
      have z49 := e49.size
      have M49 := M40.chg (G := fun _ => False) (.of_ext e49) fun _ _ h => h
      have hrow := M49.up.row f hv (by rw [upsL_len]; omega)
      rw [upsL_get] at hrow
      have hpl := upP_len rank ways (f : Int) i
      refine put_ok hrow (upP_rise ok.f _ (by omega)) (by omega) fun s48 w50 c50 hs48 hO50 => ⟨kp_chg c50 fun c hc => ⟨by have := (bx c hc).1; omega, fun hk => (bx c hc).2.1 (.inr ⟨f, hv, hk⟩)⟩, ?_⟩
      have z50 := c50.size
      have gF : ∀ k, us[f].blk k → w11.heap.size ≤ k := fun k hk => fu k (.inr ⟨f, hv, hk⟩)
      have hd50 := c50.blk M49.hd fun hk => by have := gF _ hk; omega
      refine ⟨⟨su, by rw [addm, cell_blk hd50]; rfl, rfl⟩, ?_⟩
      -- the store at the end
      have hst := fun w52 (e52 : Ext w50 w52) (K' : World → Prop) (hK' : ∀ w53, Chg su.blk w52 w53 → Rows w53 su (us.set f s48) ((upsL rank ways i).set f (insE (yT y, yW y, (i : Int)) (upP rank ways (f : Int) i))) → (∀ k, rowsF su (us.set f s48) k → rowsF su us k ∨ w49.heap.size ≤ k) → K' w53) =>
        Rows.store M49.up hv c50 hs48 (w2 := w52) hO50 e52 (K := K') hK'
      have hgoal : ∀ w52, Ext w50 w52 → Idx su.a su.len (f : Int) 1 (fun a51 => stL w52 a51 [.slice s48.a s48.len s48.cap] 0 (fun w53 => Keeps [b33, b1] w52 w53 ∧ ∀ w54, Ext w53 w54 → J1 (IntKind.i64.wrap ((i : Int) + 1), ()) w54)) := fun w52 e52 => by
        have z52 := e52.size
        refine hst w52 e52 _ fun w53 c53 R53 hF53 => ⟨kp_chg c53 fun c hc => ⟨by have := (bx c hc).1; omega, fun hk => (bx c hc).2.1 (.inl hk)⟩, fun w54 e54 => ?_⟩
        have z53 := c53.size; have z54 := e54.size
        have cc : Chg (fun k => rowsF su us k) w49 w54 := ((((c50.mono (G := fun k => rowsF su us k) fun k _ hk => .inr ⟨f, hv, hk⟩).trans (.of_ext (F := fun _ => False) e52) fun _ _ h => h.elim).trans c53 fun k _ hk => .inl hk).trans (.of_ext (F := fun _ => False) e54) fun _ _ h => h.elim)
        have nn : ∀ k, k = hb ∨ sr.blk k ∨ sy.blk k ∨ s3.blk k ∨ k = r → ¬ rowsF su us k := fun k hk hr => nrow k (fu k hr) hk
        have R54 := R53.ext e54
        rw [← hyy] at R54
        rw [upsL_step (by rw [hyy]; exact hf) (by unfold IsUp; rw [hyy]; exact hup)] at R54
        have hdn : dnsL rank ways (i + 1) = dnsL rank ways i := dnsL_same (by unfold IsUp; rw [hyy]; exact hup)
        refine hJ1 (i + 1, us.set f s48, ds) _ _ ⟨wsucc (m := 2 ^ 40) (by omega) (by omega), by simp only; omega, ext_chg (e40'.trans e49) cc fun k hk => by have := fu k hk; omega, by omega, ?_, ?_, fd, ?_⟩ (by simp only; omega)
        · simp only
          refine ⟨cc.blk M49.hd (nn _ (.inl rfl)), M49.rk.chg cc fun k hk => nn k (.inr (.inl hk)), M49.wy.chg cc fun k hk => nn k (.inr (.inr (.inl hk))), M49.at_.chg cc fun k hk => nn k (.inr (.inr (.inr (.inl hk)))), M49.m.same (cc.block r M49.m.lt (nn _ (.inr (.inr (.inr (.inr rfl)))))), R54, ?_⟩
          rw [hdn]; exact M49.dn.chg cc fun k h1 h2 => dud k h2 h1
        · intro k hk
          rcases hF53 k hk with h' | h'
          · exact fu k h'
          · omega
        · intro k hk h2
          rcases hF53 k hk with h' | h'
          · exact dud k h' h2
          · have := M49.dn.lt h2; omega
      -- Idx's address is the same whatever the world
      obtain ⟨q1, hq1, h01, h02, hA⟩ := hgoal w50 (.refl _)
      refine ⟨q1, hq1, h01, h02, fun w52 e52 => ?_⟩
      obtain ⟨q2, hq2, _, _, hA2⟩ := hgoal w52 e52
      rw [hq1] at hq2; cases hq2
      exact hA2
    · rw [if_neg hup]
      refine ⟨_, rfl, sd, by rw [addm, cell_blk M40.hd]; rfl, _, rfl, sd, by rw [addm, cell_blk M40.hd]; rfl, ?_⟩
      rw [ht]
      have hv : t < ds.length := by omega
      refine slot_idx M40.dn.so.view hv fun q hq => ⟨_, hq, fun w49 e49 => ?_⟩
      have z49 := e49.size
      have M49 := M40.chg (G := fun _ => False) (.of_ext e49) fun _ _ h => h
      have hrow := M49.dn.row t hv (by rw [dnsL_len]; omega)
      rw [dnsL_get] at hrow
      have hpl := dnP_len rank ways (t : Int) i
      refine put_ok hrow (dnP_rise ok.f _ (by omega)) (by omega) fun s48 w50 c50 hs48 hO50 => ⟨kp_chg c50 fun c hc => ⟨by have := (bx c hc).1; omega, fun hk => (bx c hc).2.2 (.inr ⟨t, hv, hk⟩)⟩, ?_⟩
      have z50 := c50.size
      have gF : ∀ k, ds[t].blk k → w11.heap.size ≤ k := fun k hk => fd k (.inr ⟨t, hv, hk⟩)
      have hd50 := c50.blk M49.hd fun hk => by have := gF _ hk; omega
      refine ⟨⟨sd, by rw [addm, cell_blk hd50]; rfl, rfl⟩, ?_⟩
      have hst := fun w52 (e52 : Ext w50 w52) (K' : World → Prop) (hK' : ∀ w53, Chg sd.blk w52 w53 → Rows w53 sd (ds.set t s48) ((dnsL rank ways i).set t (insE (yF y, yW y, (i : Int)) (dnP rank ways (t : Int) i))) → (∀ k, rowsF sd (ds.set t s48) k → rowsF sd ds k ∨ w49.heap.size ≤ k) → K' w53) =>
        Rows.store M49.dn hv c50 hs48 (w2 := w52) hO50 e52 (K := K') hK'
      have hgoal : ∀ w52, Ext w50 w52 → Idx sd.a sd.len (t : Int) 1 (fun a51 => stL w52 a51 [.slice s48.a s48.len s48.cap] 0 (fun w53 => Keeps [b33, b1] w52 w53 ∧ ∀ w54, Ext w53 w54 → J1 (IntKind.i64.wrap ((i : Int) + 1), ()) w54)) := fun w52 e52 => by
        have z52 := e52.size
        refine hst w52 e52 _ fun w53 c53 R53 hF53 => ⟨kp_chg c53 fun c hc => ⟨by have := (bx c hc).1; omega, fun hk => (bx c hc).2.2 (.inl hk)⟩, fun w54 e54 => ?_⟩
        have z53 := c53.size; have z54 := e54.size
        have cc : Chg (fun k => rowsF sd ds k) w49 w54 := ((((c50.mono (G := fun k => rowsF sd ds k) fun k _ hk => .inr ⟨t, hv, hk⟩).trans (.of_ext (F := fun _ => False) e52) fun _ _ h => h.elim).trans c53 fun k _ hk => .inl hk).trans (.of_ext (F := fun _ => False) e54) fun _ _ h => h.elim)
        have nn : ∀ k, k = hb ∨ sr.blk k ∨ sy.blk k ∨ s3.blk k ∨ k = r → ¬ rowsF sd ds k := fun k hk hr => nrow k (fd k hr) hk
        have R54 := R53.ext e54
        rw [← hyy] at R54
        rw [dnsL_step (by rw [hyy]; exact ht) (by unfold IsUp; rw [hyy]; exact hup)] at R54
        have hdn : upsL rank ways (i + 1) = upsL rank ways i := upsL_same (by unfold IsUp; rw [hyy]; exact hup)
        refine hJ1 (i + 1, us, ds.set t s48) _ _ ⟨wsucc (m := 2 ^ 40) (by omega) (by omega), by simp only; omega, ext_chg (e40'.trans e49) cc fun k hk => by have := fd k hk; omega, by omega, ?_, fu, ?_, ?_⟩ (by simp only; omega)
        · simp only
          refine ⟨cc.blk M49.hd (nn _ (.inl rfl)), M49.rk.chg cc fun k hk => nn k (.inr (.inl hk)), M49.wy.chg cc fun k hk => nn k (.inr (.inr (.inl hk))), M49.at_.chg cc fun k hk => nn k (.inr (.inr (.inr (.inl hk)))), M49.m.same (cc.block r M49.m.lt (nn _ (.inr (.inr (.inr (.inr rfl)))))), ?_, R54⟩
          rw [hdn]; exact M49.up.chg cc fun k h1 h2 => dud k h1 h2
        · intro k hk
          rcases hF53 k hk with h' | h'
          · exact fd k h'
          · omega
        · intro k hk h2
          rcases hF53 k h2 with h' | h'
          · exact dud k hk h'
          · have := M49.up.lt hk; omega
      obtain ⟨q1, hq1, h01, h02, hA⟩ := hgoal w50 (.refl _)
      refine ⟨q1, hq1, h01, h02, fun w52 e52 => ?_⟩
      obtain ⟨q2, hq2, _, _, hA2⟩ := hgoal w52 e52
      rw [hq1] at hq2; cases hq2
      exact hA2
  · rw [if_neg hc]
    have : i = ways.length := by omega
    subst this
    refine hk _ w26 _ e26 ⟨ok, hb, sr, sy, s3, su, sd, r, g, mm, us, ds, rfl, C.pl, C.mo, M, rfl⟩ fun k hk => ?_
    rcases hk with rfl | hk | hk | hk | rfl | hk | hk
    · have := C.ghb; have := e8.size; omega
    · have := fr k hk; omega
    · have := fy k hk; have := e5.size; omega
    · have := C.gs k hk; have := e8.size; omega
    · have := C.gr; have := e8.size; omega
    · have := fu k hk; omega
    · have := fd k hk; omega
end Go.Sh

/- The hierarchy's methods. -/
set_option maxRecDepth 100000
namespace Go.Sh
open Go.RowKit

section
variable {w w' : World} {p : Option Addr} {rank : List Int} {ways : List Wy} {F : Nat → Prop}

theorem HN_ok {K : Int → World → Prop} (h : HierA w p rank ways F) (hk : K (rank.length : Int) w) : sh_hier_Hier_N p K w := by
  obtain ⟨ok, hb, sr, sy, s3, su, sd, r, g, mm, us, ds, rfl, hpl, hmo, hM, rfl⟩ := h
  unfold sh_hier_Hier_N
  simp only [Option.isNone_some, cond_false]
  refine ⟨_, rfl, s3, by rw [addm, cell_blk hM.hd]; rfl, ?_⟩
  rw [hM.at_.view.len, fi_len]; exact hk
/-- A place's rank; below 0: there is none. -/
def rankF (rank : List Int) (v : Int) : Int := if 0 ≤ v ∧ v < rank.length then rkA rank v else -1
theorem Rank_ok {v : Int} {K : Int → World → Prop} (h : HierA w p rank ways F) (hk : K (rankF rank v) w) : sh_hier_Hier_Rank p v K w := by
  unfold sh_hier_Hier_Rank
  unfold rankF at hk
  rw [Bool.cond_decide]
  split
  · rw [if_neg (by omega)] at hk; exact hk
  · refine HN_ok h ?_
    rw [Bool.cond_decide]
    split
    · rw [if_neg (by omega)] at hk; exact hk
    · rw [if_pos (by omega)] at hk
      obtain ⟨ok, hb, sr, sy, s3, su, sd, r, g, mm, us, ds, rfl, hpl, hmo, hM, rfl⟩ := h
      obtain ⟨u, rfl⟩ := Int.eq_ofNat_of_zero_le (show 0 ≤ v by omega)
      refine ⟨_, rfl, sr, by rw [addm, addm, cell_blk hM.hd]; rfl, ?_⟩
      refine int_idx hM.rk.view (by omega) fun _ q => ⟨_, q, ?_⟩
      rw [rk_get]; exact hk
theorem rankF_neg (ok : OkH rank ways) {v : Int} : rankF rank v < 0 ↔ ¬ (0 ≤ v ∧ v < rank.length) := by
  unfold rankF
  split
  · rename_i h
    obtain ⟨u, rfl⟩ := Int.eq_ofNat_of_zero_le h.1
    have hu : u < rank.length := by omega
    have := (ok.r.1 _ (List.getElem_mem hu)).1
    rw [rk_get hu] at this
    constructor
    · intro h'; omega
    · intro h'; exact absurd h h'
  · rename_i h; exact ⟨fun _ => h, fun _ => by omega⟩

/-- The ways up from a place, and down to it. -/
def upF (rank : List Int) (ways : List Wy) (v : Int) : List Edg := if 0 ≤ v ∧ v < rank.length then upP rank ways v ways.length else []
def dnF (rank : List Int) (ways : List Wy) (v : Int) : List Edg := if 0 ≤ v ∧ v < rank.length then dnP rank ways v ways.length else []

theorem Up_ok {v : Int} {K : SV → World → Prop} (h : HierA w p rank ways F) (hk : ∀ s w', Ext w w' → Own RD w' s (upF rank ways v) → Fsh w s → K s w') : sh_hier_Hier_Up p v K w := by
  unfold sh_hier_Hier_Up
  refine Rank_ok h ?_
  rw [Bool.cond_decide]
  split
  · rename_i hn
    rw [rankF_neg h.ok] at hn
    refine hk _ w (.refl _) ?_ fsh_nil
    unfold upF; rw [if_neg hn]; exact Own.nil
  · rename_i hn
    rw [rankF_neg h.ok, Classical.not_not] at hn
    obtain ⟨ok, hb, sr, sy, s3, su, sd, r, g, mm, us, ds, rfl, hpl, hmo, hM, rfl⟩ := h
    obtain ⟨u, rfl⟩ := Int.eq_ofNat_of_zero_le hn.1
    have hlen := hM.up.len
    rw [upsL_len] at hlen
    refine ⟨_, rfl, su, by rw [addm, cell_blk hM.hd]; rfl, ?_⟩
    refine slot_idx hM.up.so.view (by omega) fun _ q => ⟨_, q, ?_⟩
    have hrow := hM.up.row u (by omega) (by rw [upsL_len]; omega)
    rw [upsL_get] at hrow
    have hl := upP_len rank ways (u : Int) ways.length
    have hk' := ok.k
    refine Own.app (R := RD) Own.nil hrow.view (by simp only [List.length_nil]; omega) (by simp only [List.length_nil]; omega) fun s7 w8 c8 hs hO => ?_
    rw [List.nil_append] at hO
    refine hk s7 w8 (c8.ext fun k _ ⟨q, hq, _⟩ => by cases hq) ?_ fun k hk => ?_
    · unfold upF; rw [if_pos hn]; exact hO
    · rcases hs k hk with ⟨q, hq, _⟩ | h'
      · cases hq
      · exact h'
theorem Down_ok {v : Int} {K : SV → World → Prop} (h : HierA w p rank ways F) (hk : ∀ s w', Ext w w' → Own RD w' s (dnF rank ways v) → Fsh w s → K s w') : sh_hier_Hier_Down p v K w := by
  unfold sh_hier_Hier_Down
  refine Rank_ok h ?_
  rw [Bool.cond_decide]
  split
  · rename_i hn
    rw [rankF_neg h.ok] at hn
    refine hk _ w (.refl _) ?_ fsh_nil
    unfold dnF; rw [if_neg hn]; exact Own.nil
  · rename_i hn
    rw [rankF_neg h.ok, Classical.not_not] at hn
    obtain ⟨ok, hb, sr, sy, s3, su, sd, r, g, mm, us, ds, rfl, hpl, hmo, hM, rfl⟩ := h
    obtain ⟨u, rfl⟩ := Int.eq_ofNat_of_zero_le hn.1
    have hlen := hM.dn.len
    rw [dnsL_len] at hlen
    refine ⟨_, rfl, sd, by rw [addm, cell_blk hM.hd]; rfl, ?_⟩
    refine slot_idx hM.dn.so.view (by omega) fun _ q => ⟨_, q, ?_⟩
    have hrow := hM.dn.row u (by omega) (by rw [dnsL_len]; omega)
    rw [dnsL_get] at hrow
    have hl := dnP_len rank ways (u : Int) ways.length
    have hk' := ok.k
    refine Own.app (R := RD) Own.nil hrow.view (by simp only [List.length_nil]; omega) (by simp only [List.length_nil]; omega) fun s7 w8 c8 hs hO => ?_
    rw [List.nil_append] at hO
    refine hk s7 w8 (c8.ext fun k _ ⟨q, hq, _⟩ => by cases hq) ?_ fun k hk => ?_
    · unfold dnF; rw [if_pos hn]; exact hO
    · rcases hs k hk with ⟨q, hq, _⟩ | h'
      · cases hq
      · exact h'
theorem HFind_ok {u v : Int} {K : Int → World → Prop} (h : HierA w p rank ways F) (hk : K (ofN (findW ways u v)) w) : sh_hier_Hier_Find p u v K w := by
  obtain ⟨ok, hb, sr, sy, s3, su, sd, r, g, mm, us, ds, rfl, hpl, hmo, hM, rfl⟩ := h
  unfold sh_hier_Hier_Find
  simp only [Option.isNone_some, cond_false]
  have hlk := hmo u v
  refine ⟨_, rfl, some r, by rw [addm, cell_blk hM.hd]; rfl, mm, hM.m, gN (findW ways u v), by rw [hlk]; cases findW ways u v <;> rfl, ?_⟩
  rw [hlk]
  cases hf : findW ways u v with
  | none => rw [hf] at hk; exact hk
  | some k => rw [hf] at hk; exact hk
theorem nodup_sub_len : ∀ (l l' : List Int), l.Nodup → (∀ x ∈ l, x ∈ l') → l.length ≤ l'.length
  | [], _, _, _ => Nat.zero_le _
  | x :: l, l', hn, hs => by
    have hx := hs x List.mem_cons_self
    have hn' := List.nodup_cons.1 hn
    have ih := nodup_sub_len l (l'.erase x) hn'.2 fun y hy => (List.mem_erase_of_ne (show y ≠ x from fun e => hn'.1 (e ▸ hy))).2 (hs y (List.mem_cons_of_mem _ hy))
    rw [List.length_erase_of_mem hx] at ih
    have : 0 < l'.length := List.length_pos_of_mem hx
    simp only [List.length_cons]; omega

/-- Each rank has its place. -/
theorem okR_onto (h : OkR rank) {r : Nat} (hr : r < rank.length) : ∃ v : Nat, ∃ hv : v < rank.length, rank[v] = (r : Int) := by
  have hin : ∀ x ∈ rank, x ∈ (List.range rank.length).map (fun (n : Nat) => (n : Int)) := fun x hx => by
    have := h.1 x hx
    obtain ⟨n, rfl⟩ := Int.eq_ofNat_of_zero_le this.1
    exact List.mem_map.2 ⟨n, List.mem_range.2 (by omega), rfl⟩
  have hrm : (r : Int) ∈ (List.range rank.length).map (fun (n : Nat) => (n : Int)) := List.mem_map.2 ⟨r, List.mem_range.2 hr, rfl⟩
  have this : (r : Int) ∈ rank := Classical.byContradiction fun hno => by
    have h1 := nodup_sub_len rank (((List.range rank.length).map (fun (n : Nat) => (n : Int))).erase (r : Int)) h.2 fun x hx => (List.mem_erase_of_ne (show x ≠ (r : Int) from fun e => hno (e ▸ hx))).2 (hin x hx)
    rw [List.length_erase_of_mem hrm] at h1
    simp at h1; omega
  obtain ⟨v, hv, he⟩ := List.getElem_of_mem this
  exact ⟨v, hv, he⟩

theorem HWay_ok {k : Int} {K : Int → Int → Int → Int → Int → Bool → World → Prop} (h : HierA w p rank ways F)
    (h1 : ∀ i : Nat, k = (i : Int) → ∀ hi : i < ways.length, ∀ w', Ext w w' → K (yF ways[i]) (yT ways[i]) (yW ways[i]) (yM ways[i]) (yA ways[i]) true w') (h2 : ¬ (0 ≤ k ∧ k < (ways.length : Int)) → ∀ w', Ext w w' → K 0 0 0 0 0 false w') : sh_hier_Hier_Way p k K w := by
  obtain ⟨ok, hb, sr, sy, s3, su, sd, r, g, mm, us, ds, rfl, hpl, hmo, hM, rfl⟩ := h
  unfold sh_hier_Hier_Way
  intro b1 w2 e2 g1 g1'
  simp only [Option.isNone_some, cond_false]
  rw [Bool.cond_decide]
  split
  · intro w4 o4; exact h2 (by omega) w4 (ext_off e2 o4 g1)
  · have hB := e2.blkE hM.hd
    have hY := hM.wy.ext e2
    have hl := hY.view.len
    refine ⟨_, rfl, sy, by rw [addm, addm, cell_blk hB]; rfl, ?_⟩
    rw [Bool.cond_decide]
    split
    · intro w4 o4; exact h2 (by omega) w4 (ext_off e2 o4 g1)
    · refine ⟨_, rfl, sy, by rw [addm, addm, cell_blk hB]; rfl, ?_⟩
      obtain ⟨i, rfl⟩ := Int.eq_ofNat_of_zero_le (show 0 ≤ k by omega)
      refine way_idx hY.view (by omega) fun a _ a0 a1 a2 a3 a4 => ⟨_, a0, _, a1, _, a2, _, a3, _, a4, ?_⟩
      intro w16 o16
      exact h1 i rfl (by omega) w16 (ext_off e2 o16 g1)

theorem HHalves_ok {k : Int} {K : Int → Int → Bool → World → Prop} (h : HierA w p rank ways F)
    (h1 : ∀ i : Nat, k = (i : Int) → ∀ hi : i < ways.length, yM ways[i] ≠ -1 → ∀ w', Ext w w' → K (gN (findW ways (yF ways[i]) (yM ways[i]))) (gN (findW ways (yM ways[i]) (yT ways[i]))) ((findW ways (yF ways[i]) (yM ways[i])).isSome && (findW ways (yM ways[i]) (yT ways[i])).isSome) w')
    (h2 : (∀ i : Nat, k = (i : Int) → ∀ hi : i < ways.length, yM ways[i] = -1) → ∀ w', Ext w w' → K 0 0 false w') : sh_hier_Hier_Halves p k K w := by
  unfold sh_hier_Hier_Halves
  refine HWay_ok h (fun i hki hi w7 e7 => ?_) (fun hno w7 e7 => ?_)
  · intro b8 w9 e9 g8 _ w10 o10
    have e10 : Ext w w10 := ext_off (e7.trans e9) o10 (by have := e7.size; omega)
    simp only [Bool.not_true, cond_false]
    by_cases hm : yM ways[i] = -1
    · rw [show (yM ways[i] == -1) = true by simpa using hm, cond_true]
      exact h2 (fun j hj hjl => by have : j = i := by omega
                                   subst this; exact hm) w10 e10
    · rw [show (yM ways[i] == -1) = false by simpa using hm, cond_false]
      have h1' := h1 i hki hi hm
      obtain ⟨ok, hb, sr, sy, s3, su, sd, r, g, mm, us, ds, rfl, hpl, hmo, hM, rfl⟩ := h
      have hB := e10.blkE hM.hd
      refine ⟨_, rfl, sr, by rw [addm, addm, cell_blk hB]; rfl, sy, by rw [addm, addm, cell_blk hB]; rfl, _, rfl, some r, by rw [addm, cell_blk hB]; rfl, ?_⟩
      refine Quiet.mk (gN (findW ways (yF ways[i]) (yM ways[i])), gN (findW ways (yM ways[i]) (yT ways[i])), ((findW ways (yF ways[i]) (yM ways[i])).isSome && (findW ways (yM ways[i]) (yT ways[i])).isSome)) (fun w' e' K' hK' => ?_) ?_
      · exact halves_ok (hM.m.grow (e10.trans e')) hmo fun w'' e'' => hK' w'' e''
      · intro w22 e22; exact h1' w22 (e10.trans e22)
  · intro b8 w9 e9 g8 _ w10 o10
    have e10 : Ext w w10 := ext_off (e7.trans e9) o10 (by have := e7.size; omega)
    simp only [Bool.not_false, cond_true]
    exact h2 (fun i hki hi => absurd ⟨by omega, by omega⟩ hno) w10 e10
end

/-- What Check tells. -/
noncomputable def chkF (rank : List Int) (ways : List Wy) : Int := by
  classical exact if ¬ OkL rank ways then 3 else if OkH rank ways then 0 else 2
theorem OkH.l {rank : List Int} {ways : List Wy} (h : OkH rank ways) : OkL rank ways := ⟨h.n, h.k⟩
theorem chkF_ok {rank : List Int} {ways : List Wy} (h : OkH rank ways) : chkF rank ways = 0 := by
  unfold chkF; rw [if_neg (fun hn => hn h.l), if_pos h]
theorem chkF_no {rank : List Int} {ways : List Wy} (h : ¬ OkH rank ways) : chkF rank ways ≠ 0 ∧ (OkL rank ways → chkF rank ways = 2) ∧ (¬ OkL rank ways → chkF rank ways = 3) := by
  unfold chkF
  by_cases hl : OkL rank ways
  · rw [if_neg (fun hn => hn hl), if_neg h]; exact ⟨by decide, fun _ => rfl, fun hn => absurd hl hn⟩
  · rw [if_pos hl]; exact ⟨by decide, fun h => absurd h hl, fun _ => rfl⟩
end Go.Sh

/- The reference of layer 10, and what its laws lean on. -/
set_option maxRecDepth 100000
namespace Go.Sh
open Go.RowKit

theorem onto_okR {rank : List Int} (h : ∀ k : Nat, k < rank.length → (k : Int) ∈ rank) : OkR rank := by
  have hL : ((List.range rank.length).map (fun (n : Nat) => (n : Int))).Nodup := by
    rw [List.nodup_iff_pairwise_ne, List.pairwise_map]
    exact List.pairwise_lt_range.imp fun h e => by omega
  have key : ∀ x, x ∈ rank → (∀ y ∈ (List.range rank.length).map (fun (n : Nat) => (n : Int)), y ∈ rank.erase x) → False := fun x hx hs => by
    have := nodup_sub_len _ _ hL hs
    rw [List.length_erase_of_mem hx] at this
    have hp : 0 < rank.length := List.length_pos_of_mem hx
    simp at this; omega
  constructor
  · intro r hr
    refine Classical.byContradiction fun hn => key r hr fun y hy => ?_
    obtain ⟨n, hn', rfl⟩ := List.mem_map.1 hy
    rw [List.mem_range] at hn'
    exact (List.mem_erase_of_ne (show (n : Int) ≠ r from fun e => hn (by omega))).2 (h n hn')
  · have dup : ∀ (l : List Int), ¬ l.Nodup → ∃ x, x ∈ l ∧ x ∈ l.erase x := by
      intro l
      induction l with
      | nil => intro h; exact absurd List.nodup_nil h
      | cons y l ih =>
        intro hn
        by_cases hy : y ∈ l
        · exact ⟨y, List.mem_cons_self, by simp [hy]⟩
        · obtain ⟨x, hx, hx2⟩ := ih fun hl => hn (List.nodup_cons.2 ⟨hy, hl⟩)
          refine ⟨x, List.mem_cons_of_mem _ hx, ?_⟩
          have hne : ¬ (y == x) = true := fun e => hy (by rw [beq_iff_eq] at e; rw [e]; exact hx)
          rw [List.erase_cons, if_neg hne]
          exact List.mem_cons_of_mem _ hx2
    refine Classical.byContradiction fun hn => ?_
    obtain ⟨x, hx, hx2⟩ := dup rank hn
    refine key x hx fun y hy => ?_
    obtain ⟨n, hn', rfl⟩ := List.mem_map.1 hy
    rw [List.mem_range] at hn'
    by_cases e : (n : Int) = x
    · rw [e]; exact hx2
    · exact (List.mem_erase_of_ne e).2 (h n hn')

section
variable {w : World} {sr sy : SV} {rank : List Int} {ways : List Wy}

theorem rAt_ok {r : Int} {K : Int → World → Prop} (h : View RI w sr rank) (hn : rank.length < 2 ^ 40) (hk : ∀ x w', Ext w w' → (∃ v : Nat, ∃ hv : v < rank.length, rank[v] = r ∧ x = (v : Int)) ∨ (∀ v : Nat, ∀ hv : v < rank.length, rank[v] ≠ r) ∧ x = -1 → K x w') : sh_postroadref10_At sr sy r K w := by
  unfold sh_postroadref10_At
  intro b1 w2 e2 _ _
  have hl := h.len
  refine LoopT.gh (γ := Nat) (fun i (st : Int × Unit) w' => st.1 = i ∧ i ≤ rank.length ∧ Ext w w' ∧ ∀ v : Nat, ∀ hv : v < rank.length, v < i → rank[v] ≠ r) (fun i => rank.length - i) 0 ⟨rfl, Nat.zero_le _, e2, fun v hv h => by omega⟩ ?_
  rintro i ⟨x, _⟩ w5 ⟨hx, hi, e5, hno⟩ J1 hJ1
  simp only at hx; subst hx
  dsimp only
  rw [Bool.cond_decide]
  by_cases hc : (i : Int) < (sr.len : Int)
  · rw [if_pos hc]
    have hi' : i < rank.length := by omega
    refine int_idx (h.ext e5) hi' fun _ q => ⟨_, q, ?_⟩
    by_cases he : rank[i] = r
    · rw [show (rank[i] == r) = true by simpa using he, cond_true]
      exact hk _ _ e5 (.inl ⟨i, hi', he, rfl⟩)
    · rw [show (rank[i] == r) = false by simpa using he, cond_false]
      refine hJ1 (i + 1) _ _ ⟨wsucc (m := 2 ^ 40) (by omega) (by omega), by omega, e5, fun v hv hvi => ?_⟩ (by omega)
      by_cases e : v = i
      · subst e; exact he
      · exact hno v hv (by omega)
  · rw [if_neg hc]
    exact hk _ _ e5 (.inr ⟨fun v hv => hno v hv (by omega), rfl⟩)

theorem rplace_ok {v : Int} {K : Bool → World → Prop} (hl : sr.len = rank.length) (hk : ∀ w', Ext w w' → K (decide (0 ≤ v ∧ v < rank.length)) w') : sh_postroadref10_place sr sy v K w := by
  unfold sh_postroadref10_place
  intro b1 w2 e2 _ _
  have := hk w2 e2
  rw [Bool.cond_decide, hl]
  split
  · rename_i h0
    rw [show decide (0 ≤ v ∧ v < (rank.length : Int)) = decide (v < (rank.length : Int)) from decide_eq_decide.2 ⟨fun h => h.2, fun h => ⟨h0, h⟩⟩] at this
    exact this
  · rename_i h0
    rw [decide_eq_false (fun h => h0 h.1)] at this; exact this
theorem rplace_quiet {v : Int} {K : Bool → Prop} (hl : sr.len = rank.length) (hk : K (decide (0 ≤ v ∧ v < rank.length))) :
    Quiet Bool (fun r => .bool r) (fun K21 w22' => sh_postroadref10_place sr sy v (fun t19 w22 => K21 t19 w22) w22') w K :=
  Quiet.mk _ (fun w' _ _ hK' => rplace_ok hl fun w'' e'' => hK' w'' e'') hk

theorem rFind_ok {u v : Int} {K : Int → World → Prop} (h : View RW w sy ways) (hn : ways.length < 2 ^ 40) (hk : ∀ w', Ext w w' → K (ofN (findW ways u v)) w') : sh_postroadref10_Find sr sy u v K w := by
  unfold sh_postroadref10_Find
  intro b1 w2 e2 _ _
  have hl := h.len
  refine LoopT.gh (γ := Nat) (fun i (st : Int × Unit) w' => st.1 = i ∧ i ≤ ways.length ∧ Ext w w' ∧ findW (ways.take i) u v = none) (fun i => ways.length - i) 0 ⟨rfl, Nat.zero_le _, e2, rfl⟩ ?_
  rintro i ⟨x, _⟩ w5 ⟨hx, hi, e5, hno⟩ J1 hJ1
  simp only at hx; subst hx
  dsimp only
  rw [Bool.cond_decide]
  by_cases hc : (i : Int) < (sy.len : Int)
  · rw [if_pos hc]
    have hi' : i < ways.length := by omega
    have hst := findW_snoc (ways.take i) ways[i] u v
    rw [← take_snoc' hi', hno] at hst
    simp only at hst
    refine Join.cut (fun _ w' => w' = w5 ∧ ¬ (yF ways[i] = u ∧ yT ways[i] = v)) (fun J hJ => ?_) ?_
    · refine way_idx (h.ext e5) hi' fun _ _ a0 _ _ _ _ => ⟨_, a0, ?_⟩
      by_cases h1 : yF ways[i] = u
      · rw [show (yF ways[i] == u) = true by simpa using h1, cond_true]
        refine way_idx (h.ext e5) hi' fun _ _ _ a1 _ _ _ => ⟨_, a1, ?_⟩
        by_cases h2 : yT ways[i] = v
        · rw [show (yT ways[i] == v) = true by simpa using h2, cond_true]
          have hf : findW ways u v = some i := by
            have h3 : ways = ways.take (i + 1) ++ ways.drop (i + 1) := (List.take_append_drop _ _).symm
            rw [if_pos ⟨h1, h2⟩, List.length_take, Nat.min_eq_left hi] at hst
            rw [h3]
            unfold findW at hst ⊢
            rw [List.findIdx?_append, hst]; rfl
          have := hk w5 e5
          rw [hf] at this; exact this
        · rw [show (yT ways[i] == v) = false by simpa using h2, cond_false]
          exact hJ _ _ ⟨rfl, fun hh => h2 hh.2⟩
      · rw [show (yF ways[i] == u) = false by simpa using h1, cond_false]
        exact hJ _ _ ⟨rfl, fun hh => h1 hh.1⟩
    · rintro _ w12 ⟨rfl, hne⟩
      rw [if_neg hne] at hst
      exact hJ1 (i + 1) _ _ ⟨wsucc (m := 2 ^ 40) (by omega) (by omega), by omega, e5, hst⟩ (by omega)
  · rw [if_neg hc]
    have : i = ways.length := by omega
    subst this
    rw [List.take_length] at hno
    have := hk w5 e5
    rw [hno] at this; exact this
/-- What the reference asks of a way. -/
def OkWr (rank : List Int) (ways : List Wy) (y : Wy) : Prop :=
  if yM y = -1 then 0 ≤ yA y ∧ yA y < 67108864
  else yA y = -1 ∧ 0 ≤ yM y ∧ yM y < rank.length ∧ rkA rank (yM y) < rkA rank (yF y) ∧ rkA rank (yM y) < rkA rank (yT y) ∧
    ∃ a b, findW ways (yF y) (yM y) = some a ∧ findW ways (yM y) (yT y) = some b ∧ IntKind.i64.wrap (wW ways a + wW ways b) = yW y
theorem okF_iff {n i : Nat} (hi : i < ways.length) : OkF n (ways.take i) ways[i] ↔ findW ways (yF ways[i]) (yT ways[i]) = some i ∧ yF ways[i] ≠ yT ways[i] ∧ 0 ≤ yF ways[i] ∧ 0 ≤ yT ways[i] ∧ yF ways[i] < n ∧ yT ways[i] < n ∧ 0 ≤ yW ways[i] ∧ yW ways[i] ≤ 1152921504606846976 := by
  unfold OkF
  have : findW (ways.take i) (yF ways[i]) (yT ways[i]) = none ↔ findW ways (yF ways[i]) (yT ways[i]) = some i := by
    have hst := findW_snoc (ways.take i) ways[i] (yF ways[i]) (yT ways[i])
    rw [← take_snoc' hi] at hst
    have h3 : ∀ u v, findW ways u v = (findW (ways.take (i + 1)) u v).or ((findW (ways.drop (i + 1)) u v).map (· + (ways.take (i + 1)).length)) := fun u v => by
      have h4 : findW (ways.take (i + 1) ++ ways.drop (i + 1)) u v = findW ways u v := by rw [List.take_append_drop]
      rw [← h4]
      unfold findW; rw [List.findIdx?_append]
    cases hf : findW (ways.take i) (yF ways[i]) (yT ways[i]) with
    | none =>
      rw [hf] at hst
      simp only [and_self, if_true, List.length_take, Nat.min_eq_left (Nat.le_of_lt hi)] at hst
      rw [h3, hst]; simp
    | some j =>
      rw [hf] at hst
      simp only at hst
      rw [h3, hst]
      obtain ⟨hj, _⟩ := findW_some hf
      rw [List.length_take] at hj
      simp only [Option.some_or, Option.some.injEq, reduceCtorEq, false_iff]
      omega
  rw [this]

theorem rright_ok {i : Nat} {K : Bool → World → Prop} (hr : View RI w sr rank) (hy : View RW w sy ways) (hn : ways.length < 2 ^ 40) (hi : i < ways.length)
    (hk : ∀ b w', Ext w w' → (b = true ↔ OkF rank.length (ways.take i) ways[i] ∧ OkWr rank ways ways[i]) → K b w') : sh_postroadref10_right sr sy (i : Int) K w := by
  unfold sh_postroadref10_right
  intro b1 w2 e2 g1 g1'
  have z2 := e2.size
  have hl := hr.len
  refine way_idx (hy.ext e2) hi fun a _ a0 a1 a2 a3 a4 => ⟨_, a0, _, a1, _, a2, _, a3, _, a4, ?_⟩
  rw [okF_iff hi] at hk
  generalize hyy : ways[i] = y at hk
  intro b9 w10 e10 g9 g9' w11 o11
  have z10 := e10.size; have z11 := o11.size
  have e11 : Ext w w11 := ext_off (e2.trans e10) o11 (by omega)
  have no : ¬ ((findW ways (yF y) (yT y) = some i ∧ yF y ≠ yT y ∧ 0 ≤ yF y ∧ 0 ≤ yT y ∧ yF y < (rank.length : Int) ∧ yT y < (rank.length : Int) ∧ 0 ≤ yW y ∧ yW y ≤ 1152921504606846976) ∧ OkWr rank ways y) → ∀ w', Ext w11 w' → K false w' :=
    fun hno w' e => hk false w' (e11.trans e) ⟨fun h => (by cases h), fun h => absurd h hno⟩
  refine rplace_ok hl fun w13 e13 => ⟨kp_ext e13 (by (intro b hb; simp only [List.mem_cons, List.not_mem_nil, or_false] at hb; omega)), ?_⟩
  have z13 := e13.size
  by_cases p1 : ¬ (0 ≤ yF y ∧ yF y < (rank.length : Int))
  · rw [decide_eq_false p1]
    simp only [Bool.not_false, cond_true]
    exact no (fun h => by omega) w13 e13
  rw [Classical.not_not] at p1
  rw [decide_eq_true p1]
  simp only [Bool.not_true, cond_false]
  refine rplace_ok hl fun w15 e15 => ⟨kp_ext e15 (by (intro b hb; simp only [List.mem_cons, List.not_mem_nil, or_false] at hb; omega)), ?_⟩
  have z15 := e15.size
  have e15' := e13.trans e15
  by_cases p2 : ¬ (0 ≤ yT y ∧ yT y < (rank.length : Int))
  · rw [decide_eq_false p2]
    simp only [Bool.not_false, cond_true]
    exact no (fun h => by omega) w15 e15'
  rw [Classical.not_not] at p2
  rw [decide_eq_true p2]
  simp only [Bool.not_true, cond_false]
  by_cases p3 : yF y = yT y
  · rw [show (yF y == yT y) = true by simpa using p3, cond_true]
    exact no (fun h => h.1.2.1 p3) w15 e15'
  rw [show (yF y == yT y) = false by simpa using p3, cond_false, Bool.cond_decide]
  split
  · exact no (fun h => by omega) w15 e15'
  rename_i p4
  rw [Bool.cond_decide]
  split
  · exact no (fun h => by omega) w15 e15'
  rename_i p5
  refine rFind_ok (hy.ext (e11.trans e15')) hn fun w17 e17 => ⟨kp_ext e17 (by (intro b hb; simp only [List.mem_cons, List.not_mem_nil, or_false] at hb; omega)), ?_⟩
  have z17 := e17.size
  have e17' := e15'.trans e17
  by_cases p6 : ¬ findW ways (yF y) (yT y) = some i
  · rw [show (ofN (findW ways (yF y) (yT y)) != (i : Int)) = true by
      rw [bne_iff_ne]
      cases hf : findW ways (yF y) (yT y) with
      | none => simp only [ofN]; omega
      | some j => simp only [ofN]; intro e; exact p6 (by rw [hf]; congr 1; omega), cond_true]
    exact no (fun h => p6 h.1.1) w17 e17'
  rw [Classical.not_not] at p6
  rw [show (ofN (findW ways (yF y) (yT y)) != (i : Int)) = false by rw [p6]; simp [ofN], cond_false]
  have okf : findW ways (yF y) (yT y) = some i ∧ yF y ≠ yT y ∧ 0 ≤ yF y ∧ 0 ≤ yT y ∧ yF y < (rank.length : Int) ∧ yT y < (rank.length : Int) ∧ 0 ≤ yW y ∧ yW y ≤ 1152921504606846976 := ⟨p6, p3, by omega, by omega, by omega, by omega, by omega, by omega⟩
  have hk' : ∀ b w', Ext w11 w' → (b = true ↔ OkWr rank ways y) → K b w' := fun b w' e hb => hk b w' (e11.trans e) ⟨fun h => ⟨okf, hb.1 h⟩, fun h => hb.2 h.2⟩
  have no' : ¬ OkWr rank ways y → ∀ w', Ext w17 w' → K false w' := fun hno w' e => no (fun h => hno h.2) w' (e17'.trans e)
  by_cases hm : yM y = -1
  · have hW : OkWr rank ways y ↔ (0 ≤ yA y ∧ yA y < 67108864) := by unfold OkWr; rw [if_pos hm]
    rw [show (yM y == -1) = true by simpa using hm, cond_true, Bool.cond_decide]
    split
    · exact hk' _ _ e17' (by rw [hW, decide_eq_true_iff]; omega)
    · rename_i ha
      exact no' (fun h => ha (hW.1 h).1) w17 (.refl _)
  have hW : OkWr rank ways y ↔ (yA y = -1 ∧ 0 ≤ yM y ∧ yM y < rank.length ∧ rkA rank (yM y) < rkA rank (yF y) ∧ rkA rank (yM y) < rkA rank (yT y) ∧
    ∃ a b, findW ways (yF y) (yM y) = some a ∧ findW ways (yM y) (yT y) = some b ∧ IntKind.i64.wrap (wW ways a + wW ways b) = yW y) := by unfold OkWr; rw [if_neg hm]
  rw [show (yM y == -1) = false by simpa using hm, cond_false]
  by_cases ha : yA y ≠ -1
  · rw [show (yA y != -1) = true by simpa using ha, cond_true]
    exact no' fun h => ha (hW.1 h).1
  have ha : yA y = -1 := by omega
  rw [show (yA y != -1) = false by simpa using ha, cond_false]
  refine rplace_quiet hl ?_
  by_cases p7 : ¬ (0 ≤ yM y ∧ yM y < (rank.length : Int))
  · rw [decide_eq_false p7]
    simp only [Bool.not_false, cond_true]
    exact no' fun h => p7 ⟨(hW.1 h).2.1, (hW.1 h).2.2.1⟩
  rw [Classical.not_not] at p7
  rw [decide_eq_true p7]
  simp only [Bool.not_true, cond_false]
  obtain ⟨m, hmm⟩ := Int.eq_ofNat_of_zero_le p7.1
  obtain ⟨f, hff⟩ := Int.eq_ofNat_of_zero_le p1.1
  obtain ⟨t, htt⟩ := Int.eq_ofNat_of_zero_le p2.1
  have hr17 := hr.ext (e11.trans e17')
  rw [hmm, hff]
  refine int_idx hr17 (by omega) fun _ q => ⟨_, q, ?_⟩
  refine int_idx hr17 (by omega) fun _ q => ⟨_, q, ?_⟩
  rw [rk_get (show m < rank.length by omega), rk_get (show f < rank.length by omega), ← hmm, ← hff, Bool.cond_decide]
  split
  · rename_i hge; exact no' fun h => by have := (hW.1 h).2.2.2.1; omega
  rename_i hge
  rw [hmm, htt]
  refine int_idx hr17 (by omega) fun _ q => ⟨_, q, ?_⟩
  refine int_idx hr17 (by omega) fun _ q => ⟨_, q, ?_⟩
  rw [rk_get (show m < rank.length by omega), rk_get (show t < rank.length by omega), ← hmm, ← htt]
  intro w33 e33
  have z33 := e33.size
  rw [Bool.cond_decide]
  split
  · rename_i hge2; exact no' (fun h => by have := (hW.1 h).2.2.2.2.1; omega) w33 e33
  rename_i hge2
  have hy33 := hy.ext ((e11.trans e17').trans e33)
  refine rFind_ok hy33 hn fun w35 e35 => ⟨kp_ext e35 (by (intro b hb; simp only [List.mem_cons, List.not_mem_nil, or_false] at hb; omega)), ?_⟩
  have z35 := e35.size
  refine rFind_ok (hy33.ext e35) hn fun w37 e37 => ⟨kp_ext e37 (by (intro b hb; simp only [List.mem_cons, List.not_mem_nil, or_false] at hb; omega)), ?_⟩
  have e3337 := e35.trans e37
  have e1737 := e33.trans e3337
  cases h1 : findW ways (yF y) (yM y) with
  | none =>
    rw [show decide (ofN none ≥ 0) = false from rfl, cond_false]
    intro w44 e44
    exact no' (fun h => by obtain ⟨_, _, _, _, _, a, b, q1, _, _⟩ := hW.1 h; rw [h1] at q1; cases q1) _ (e1737.trans e44)
  | some a =>
    rw [show decide (ofN (some a) ≥ 0) = true from decide_eq_true (by show (a : Int) ≥ 0; omega), cond_true]
    cases h2 : findW ways (yM y) (yT y) with
    | none =>
      rw [show decide (ofN none ≥ 0) = false from rfl, cond_false]
      intro w44 e44
      exact no' (fun h => by obtain ⟨_, _, _, _, _, a, b, _, q2, _⟩ := hW.1 h; rw [h2] at q2; cases q2) _ (e1737.trans e44)
    | some b =>
      rw [show decide (ofN (some b) ≥ 0) = true from decide_eq_true (by show (b : Int) ≥ 0; omega), cond_true]
      rw [show ofN (some a) = (a : Int) from rfl, show ofN (some b) = (b : Int) from rfl]
      obtain ⟨hka, _, _, _⟩ := findW_some h1
      obtain ⟨hkb, _, _, _⟩ := findW_some h2
      have hy37 := hy33.ext e3337
      refine way_idx hy37 hka fun q hq _ _ q2 _ _ => ⟨yW ways[a], ?_, ?_⟩
      · rw [add_add _ hq] at q2 ⊢; rw [addm]; exact q2
      refine way_idx hy37 hkb fun q hq _ _ q2 _ _ => ⟨yW ways[b], ?_, ?_⟩
      · rw [add_add _ hq] at q2 ⊢; rw [addm]; exact q2
      intro w42 e42
      refine hk' _ _ (e17'.trans (e1737.trans e42)) ?_
      rw [beq_iff_eq, hW, wW_get hka, wW_get hkb]
      constructor
      · intro hs; exact ⟨ha, p7.1, p7.2, by omega, by omega, a, b, h1, h2, hs⟩
      · rintro ⟨_, _, _, _, _, a', b', q1, q2, hs⟩
        rw [h1] at q1; rw [h2] at q2
        injection q1 with q1; injection q2 with q2
        subst q1 q2; exact hs

theorem okH_of {rank : List Int} {ways : List Wy} (hl : OkL rank ways) (hr : OkR rank) (hf : OkFs rank.length ways) (hw : ∀ y ∈ ways, OkWr rank ways y) : OkH rank ways := by
  refine ⟨hl.1, hl.2, hr, hf, fun y hy => ?_⟩
  have := hw y hy
  unfold OkWr at this; unfold OkW
  split
  · rename_i h; rw [if_pos h] at this; exact this
  · rename_i h; rw [if_neg h] at this
    obtain ⟨q1, q2, q3, q4, q5, a, b, q6, q7, q8⟩ := this
    refine ⟨q1, q2, q3, q4, q5, a, b, q6, q7, ?_⟩
    obtain ⟨ha, _⟩ := findW_some q6
    obtain ⟨hb, _⟩ := findW_some q7
    have wa := hf a ha; have wb := hf b hb
    unfold OkF at wa wb
    rw [wW_get ha] at wa; rw [wW_get hb] at wb
    rw [w64 (by omega) (by omega)] at q8; exact q8
theorem okH_wr {rank : List Int} {ways : List Wy} (ok : OkH rank ways) {y : Wy} (hy : y ∈ ways) : OkWr rank ways y := by
  have := ok.w y hy
  unfold OkW at this; unfold OkWr
  split
  · rename_i h; rw [if_pos h] at this; exact this
  · rename_i h; rw [if_neg h] at this
    obtain ⟨q1, q2, q3, q4, q5, a, b, q6, q7, q8⟩ := this
    refine ⟨q1, q2, q3, q4, q5, a, b, q6, q7, ?_⟩
    obtain ⟨ha, _⟩ := findW_some q6
    obtain ⟨hb, _⟩ := findW_some q7
    have wa := ok.f a ha; have wb := ok.f b hb
    unfold OkF at wa wb
    rw [wW_get ha] at wa; rw [wW_get hb] at wb
    rw [w64 (by omega) (by omega)]; exact q8

theorem rCheck_ok {K : Int → World → Prop} (hr : View RI w sr rank) (hy : View RW w sy ways) (hk : ∀ w', Ext w w' → K (chkF rank ways) w') : sh_postroadref10_Check sr sy K w := by
  unfold sh_postroadref10_Check
  intro b1 w2 e2 g1 g1'
  have z2 := e2.size
  have lr := hr.len; have ly := hy.len
  have long : ¬ OkL rank ways → K 3 w2 := fun hn => by
    have := hk w2 e2
    rw [(chkF_no (fun ok => hn ok.l)).2.2 hn] at this; exact this
  rw [Bool.cond_decide]
  split
  · exact long fun h => by unfold OkL at h; omega
  rw [Bool.cond_decide]
  split
  · exact long fun h => by unfold OkL at h; omega
  have okl : OkL rank ways := ⟨by omega, by omega⟩
  have bad : ¬ OkH rank ways → ∀ w', Ext w2 w' → K 2 w' := fun hn w' e => by
    have := hk w' (e2.trans e)
    rw [(chkF_no hn).2.1 okl] at this; exact this
  refine Join.cut (fun _ w' => Ext w2 w' ∧ OkR rank) (fun J hJ => ?_) ?_
  · refine LoopT.gh (γ := Nat) (fun i (st : Int × Unit) w' => st.1 = i ∧ i ≤ rank.length ∧ Ext w2 w' ∧ ∀ k : Nat, k < i → (k : Int) ∈ rank) (fun i => rank.length - i) 0 ⟨rfl, Nat.zero_le _, .refl _, fun k hk => by omega⟩ ?_
    rintro i ⟨x, _⟩ w6 ⟨hx, hi, e6, hin⟩ J1 hJ1
    simp only at hx; subst hx
    dsimp only
    have z6 := e6.size
    rw [Bool.cond_decide]
    by_cases hc : (i : Int) < (sr.len : Int)
    · rw [if_pos hc]
      have hi' : i < rank.length := by omega
      refine rAt_ok (hr.ext (e2.trans e6)) (by unfold OkL at okl; omega) fun x w8 e8 hx => ⟨kp_ext e8 (by (intro b hb; simp only [List.mem_cons, List.not_mem_nil, or_false] at hb; omega)), ?_⟩
      rcases hx with ⟨v, hv, he, rfl⟩ | ⟨hno, rfl⟩
      · rw [decide_eq_false (by omega), cond_false]
        refine hJ1 (i + 1) _ _ ⟨wsucc (m := 2 ^ 40) (by unfold OkL at okl; omega) (by omega), by omega, e6.trans e8, fun k hk => ?_⟩ (by omega)
        by_cases e : k = i
        · subst e; rw [← he]; exact List.getElem_mem hv
        · exact hin k (by omega)
      · rw [show decide ((-1 : Int) < 0) = true from rfl, cond_true]
        refine bad (fun ok => ?_) w8 (e6.trans e8)
        obtain ⟨v, hv, he⟩ := okR_onto ok.r hi'
        exact hno v hv he
    · rw [if_neg hc]
      exact hJ _ _ ⟨e6, onto_okR fun k hk => hin k (by omega)⟩
  rintro _ w10 ⟨e10, okr⟩
  refine LoopT.gh (γ := Nat) (fun i (st : Int × Unit) w' => st.1 = i ∧ i ≤ ways.length ∧ Ext w2 w' ∧ ∀ j (hj : j < ways.length), j < i → OkF rank.length (ways.take j) ways[j] ∧ OkWr rank ways ways[j]) (fun i => ways.length - i) 0 ⟨rfl, Nat.zero_le _, e10, fun j _ hj => by omega⟩ ?_
  rintro i ⟨x, _⟩ w13 ⟨hx, hi, e13, hok⟩ J1 hJ1
  simp only at hx; subst hx
  dsimp only
  have z13 := e13.size
  rw [Bool.cond_decide]
  by_cases hc : (i : Int) < (sy.len : Int)
  · rw [if_pos hc]
    have hi' : i < ways.length := by omega
    refine rright_ok (hr.ext (e2.trans e13)) (hy.ext (e2.trans e13)) (by unfold OkL at okl; omega) hi' fun b w15 e15 hb => ⟨kp_ext e15 (by (intro b hb; simp only [List.mem_cons, List.not_mem_nil, or_false] at hb; omega)), ?_⟩
    cases b with
    | false =>
      simp only [Bool.not_false, cond_true]
      refine bad (fun ok => ?_) w15 (e13.trans e15)
      have := hb.2 ⟨ok.f i hi', okH_wr ok (List.getElem_mem hi')⟩; cases this
    | true =>
      simp only [Bool.not_true, cond_false]
      refine hJ1 (i + 1) _ _ ⟨wsucc (m := 2 ^ 40) (by unfold OkL at okl; omega) (by omega), by omega, e13.trans e15, fun j hj hji => ?_⟩ (by omega)
      by_cases e : j = i
      · subst e; exact hb.1 rfl
      · exact hok j hj (by omega)
  · rw [if_neg hc]
    have ok : OkH rank ways := okH_of okl okr (fun j hj => (hok j hj (by omega)).1) fun y hy => by
      obtain ⟨j, hj, rfl⟩ := List.getElem_of_mem hy
      exact (hok j hj (by omega)).2
    have := hk w13 (e2.trans e13)
    rw [chkF_ok ok] at this; exact this
end
end Go.Sh

/- The reference's edges; what is known. -/
set_option maxRecDepth 100000
namespace Go.Sh
open Go.RowKit

section
variable {w : World} {sr sy : SV} {rank : List Int} {ways : List Wy}

end
end Go.Sh

/- HierTwo, HierFinds. -/
set_option maxRecDepth 100000
namespace Go.Sh
open Go.RowKit

section
variable {w : World} {p : Option Addr} {rank : List Int} {ways : List Wy} {F : Nat → Prop}
theorem Rank_quiet {v : Int} (h : HierA w p rank ways F) {K : Int → Prop} (hk : K (rankF rank v)) : Quiet Int (fun r => .int .i64 r) (fun K1 w1 => sh_hier_Hier_Rank p v (fun x w2 => K1 x w2) w1) w K :=
  Quiet.mk _ (fun _ e _ hK => Rank_ok (h.ext e) (hK _ (.refl _))) hk
end

theorem upF_mem {rank : List Int} {ways : List Wy} {v : Int} {e : Edg} (h : e ∈ upF rank ways v) : ∃ k : Nat, ∃ hk : k < ways.length, yF ways[k] = v ∧ IsUp rank ways[k] ∧ e = (yT ways[k], yW ways[k], (k : Int)) := by
  unfold upF at h; split at h
  · obtain ⟨k, hk, h1, h2, h3⟩ := upP_mem.1 h
    exact ⟨k, hk, by rw [wyA_get hk]; exact h1, by rw [wyA_get hk]; exact h2, by rw [wyA_get hk]; exact h3⟩
  · simp at h
theorem dnF_mem {rank : List Int} {ways : List Wy} {v : Int} {e : Edg} (h : e ∈ dnF rank ways v) : ∃ k : Nat, ∃ hk : k < ways.length, yT ways[k] = v ∧ ¬ IsUp rank ways[k] ∧ e = (yF ways[k], yW ways[k], (k : Int)) := by
  unfold dnF at h; split at h
  · obtain ⟨k, hk, h1, h2, h3⟩ := dnP_mem.1 h
    exact ⟨k, hk, by rw [wyA_get hk]; exact h1, by rw [wyA_get hk]; exact h2, by rw [wyA_get hk]; exact h3⟩
  · simp at h
theorem upF_lt {rank : List Int} {ways : List Wy} (ok : OkH rank ways) (v : Int) : (upF rank ways v).length < 2 ^ 40 := by
  have hk := ok.k
  unfold upF; split
  · have := upP_len rank ways v ways.length; omega
  · simp
theorem dnF_lt {rank : List Int} {ways : List Wy} (ok : OkH rank ways) (v : Int) : (dnF rank ways v).length < 2 ^ 40 := by
  have hk := ok.k
  unfold dnF; split
  · have := dnP_len rank ways v ways.length; omega
  · simp

end Go.Sh

/- How far the places are that ways lead up (or down) to. -/
set_option maxRecDepth 100000
namespace Go.Sh
open Go.RowKit

/-- The distance. -/
noncomputable def dstE (E : Nat → Nat → Int → Prop) (s v : Nat) : Int := Classical.epsilon (fun x => IsD E s v x)
theorem dstE_is {E : Nat → Nat → Int → Prop} (hE : ∀ u v x, E u v x → 0 ≤ x) (s v : Nat) : IsD E s v (dstE E s v) := Classical.epsilon_spec (IsD.ex hE s v)

/-- The ways up (down) out of a place, while its rank is less. -/
def edS (rank : List Int) (ways : List Wy) (top : Int) (back : Bool) (u : Nat) : List Edg := if rkA rank (u : Int) < top then (if back = true then dnF rank ways (u : Int) else upF rank ways (u : Int)) else []
abbrev ES (rank : List Int) (ways : List Wy) (top : Int) (back : Bool) : Nat → Nat → Int → Prop := EE' rank.length (edS rank ways top back)
/-- .. from a place, if it is one. -/
noncomputable def clF (rank : List Int) (ways : List Wy) (top : Int) (back : Bool) (s : Int) (v : Nat) : Int := if 0 ≤ s ∧ s < rank.length then dstE (ES rank ways top back) s.toNat v else -1

/-- A hierarchy whose ways are not too long. -/
structure FitH (rank : List Int) (ways : List Wy) : Prop where
  ok : OkH rank ways
  n : rank.length ≤ 2048
  b : ∀ y ∈ ways, yW y ≤ 1125899906842624

section
variable {rank : List Int} {ways : List Wy} {top : Int} {back : Bool}
theorem edS_ok (h : FitH rank ways) : EdOk rank.length 1125899906842624 (edS rank ways top back) := by
  have hn := h.n
  refine ⟨by decide, by omega, by omega, fun u hu e he => ?_, fun u hu => ?_⟩
  · unfold edS at he
    split at he
    · split at he
      · obtain ⟨k, hk, h1, h2, rfl⟩ := dnF_mem he
        have := h.ok.f k hk; unfold OkF at this
        exact ⟨by simp only; omega, by simp only; omega, by simp only; omega, h.b _ (List.getElem_mem hk)⟩
      · obtain ⟨k, hk, h1, h2, rfl⟩ := upF_mem he
        have := h.ok.f k hk; unfold OkF at this
        exact ⟨by simp only; omega, by simp only; omega, by simp only; omega, h.b _ (List.getElem_mem hk)⟩
    · simp at he
  · unfold edS
    split
    · split
      · exact dnF_lt h.ok _
      · exact upF_lt h.ok _
    · simp
theorem ES_pos (h : FitH rank ways) : ∀ u v x, ES rank ways top back u v x → 0 ≤ x := fun u v x ⟨hu, e, he, _, hx⟩ => by have := (edS_ok h).e u hu e he; omega
theorem ES_dom (h : FitH rank ways) : ∀ u v x, ES rank ways top back u v x → u < rank.length → v < rank.length := fun u v x ⟨hu, e, he, hv, _⟩ _ => by have := (edS_ok h).e u hu e he; omega
theorem clF_is (h : FitH rank ways) {s : Nat} (hs : s < rank.length) (v : Nat) : IsD (ES rank ways top back) s v (clF rank ways top back s v) := by
  unfold clF
  rw [if_pos (by omega), Int.toNat_natCast]
  exact dstE_is (ES_pos h) s v
theorem clF_no {s : Int} (hs : ¬ (0 ≤ s ∧ s < rank.length)) (v : Nat) : clF rank ways top back s v = -1 := by unfold clF; rw [if_neg hs]
end

/-- What a map of distances holds. -/
def MpF (n : Nat) (f : Nat → Int) (mm : List (List Int × Value)) : Prop := ∀ u : Int, assoc mm [u] = if 0 ≤ u ∧ u < n ∧ 0 ≤ f u.toNat then some (.int .i64 (f u.toNat)) else none
theorem MpF.nil {n : Nat} : MpF n (fun _ => -1) [] := fun u => by rw [if_neg (by dsimp only; omega)]; rfl
theorem MpF.set {n : Nat} {f : Nat → Int} {mm : List (List Int × Value)} (h : MpF n f mm) {c : Nat} (hc : c < n) {x : Int} (hx : 0 ≤ x) : MpF n (up1 f c x) (upd mm [(c : Int)] (.int .i64 x)) := fun u => by
  rw [assoc_upd]
  by_cases e : u = (c : Int)
  · subst e
    rw [if_pos rfl, Int.toNat_natCast, up1_at, if_pos (by omega)]
  · rw [if_neg (by simp only [List.cons.injEq, and_true]; omega), h u]
    by_cases h0 : 0 ≤ u
    · rw [up1_ne (by omega)]
    · rw [if_neg (by omega), if_neg (by omega)]
theorem MpF.at {n : Nat} {f : Nat → Int} {mm : List (List Int × Value)} (h : MpF n f mm) {v : Nat} (hv : v < n) : assoc mm [(v : Int)] = if 0 ≤ f v then some (.int .i64 (f v)) else none := by
  rw [h (v : Int), Int.toNat_natCast]
  by_cases q : 0 ≤ f v
  · rw [if_pos (by omega), if_pos q]
  · rw [if_neg (by omega), if_neg q]
theorem MpF.congr {n : Nat} {f g : Nat → Int} {mm : List (List Int × Value)} (h : MpF n f mm) (e : ∀ v, v < n → f v = g v) : MpF n g mm := fun u => by
  rw [h u]
  by_cases q : 0 ≤ u ∧ u < n
  · rw [e u.toNat (by omega)]
  · rw [if_neg (by omega), if_neg (by omega)]

def upV (back : Bool) : Value := if back = true then .func (.func fn_hier_Hier_Down) #[] #[] else .func (.func fn_hier_Hier_Up) #[] #[]
/-- What is known of the ways' function values. -/
structure WayCV (CV : CVT) : Prop where
  up : ∀ h v K w, sh_hier_Hier_Up h v (fun s w' => K (.slice s.a s.len s.cap) w') w → CV (.func (.func fn_hier_Hier_Up) #[] #[]) [.pointer h, .int .i64 v] K w
  dn : ∀ h v K w, sh_hier_Hier_Down h v (fun s w' => K (.slice s.a s.len s.cap) w') w → CV (.func (.func fn_hier_Hier_Down) #[] #[]) [.pointer h, .int .i64 v] K w

section
variable {CV : CVT} {w : World} {p : Option Addr} {rank : List Int} {ways : List Wy} {F : Nat → Prop}

theorem climb_no {s top : Int} {back : Bool} {K : Option Nat → World → Prop} (hH : HierA w p rank ways F) (hs : ¬ (0 ≤ s ∧ s < rank.length))
    (hk : ∀ r w', Ext w w' → MapIs false 1 w' r [] → w.heap.size ≤ r → K (some r) w') : sh_space_climb CV p s top (upV back) K w := by
  unfold sh_space_climb
  intro r w2 e2 g2 hm
  refine Rank_ok (hH.ext e2) ?_
  rw [Bool.cond_decide, if_pos ((rankF_neg hH.ok).2 hs)]
  exact hk r w2 e2 (MapIs.nil hm) g2

theorem climb_ok (hcv : WayCV CV) {s : Nat} {top : Int} {back : Bool} {K : Option Nat → World → Prop} (hH : HierA w p rank ways F) (fit : FitH rank ways) (hs : s < rank.length)
    (hk : ∀ r mm w', Ext w w' → MapIs false 1 w' r mm → w.heap.size ≤ r → MpF rank.length (clF rank ways top back s) mm → K (some r) w') : sh_space_climb CV p (s : Int) top (upV back) K w := by
  have ok : EdOk rank.length 1125899906842624 (edS rank ways top back) := edS_ok fit
  have hn := fit.n
  have hpos := ES_pos (top := top) (back := back) fit
  have hdom := ES_dom (top := top) (back := back) fit
  have hrk : ∀ v : Nat, v < rank.length → rankF rank (v : Int) = rkA rank (v : Int) := fun v hv => by unfold rankF; rw [if_pos (by omega)]
  unfold sh_space_climb
  intro r w2 e2 g2 hm
  have z2 := e2.size
  have hM2 : MapIs false 1 w2 r [] := MapIs.nil hm
  have lr : r < w2.heap.size := hM2.lt
  refine Rank_ok (hH.ext e2) ?_
  rw [Bool.cond_decide, if_neg (by rw [rankF_neg hH.ok]; omega)]
  refine HN_ok (hH.ext e2) ?_
  refine New_ok (by omega) (by omega) fun p7 w8 F8 e8 hP8 f8 => ?_
  rw [Int.toNat_natCast] at hP8
  have z8 := e8.size
  refine Set_ok hP8 (by omega) (by omega) fun w10 F10 c10 f10 hP10 => ?_
  have z10 := c10.size
  have lF : ∀ {k}, F k → k < w.heap.size := fun hk => hH.lt hk
  have e10 : Ext w w10 := ext_chg (e2.trans e8) c10 fun k hk => by have := f8 k hk; omega
  have hM10 : MapIs false 1 w10 r [] := (hM2.grow e8).same (c10.block r (by omega) fun h => by have := f8 r h; omega)
  refine LoopT.gh (γ := (Nat → Int) × List (Int × Int) × (Nat → Prop)) (fun gh (_ : Unit) w' => Ext w w' ∧ w2.heap.size ≤ w'.heap.size ∧ (∃ mm, MapIs false 1 w' r mm ∧ MpF rank.length gh.1 mm) ∧ HeapA w' p7 rank.length gh.2.1 gh.2.2 ∧ (∀ k, gh.2.2 k → w2.heap.size ≤ k) ∧ Dij (ES rank ways top back) rank.length s 1125899906842624 gh.1 gh.2.1) (fun gh => rank.length - cntR gh.1 rank.length)
    (fun _ => -1, [((s : Int), 0)], F10) ⟨e10, by omega, ⟨[], hM10, MpF.nil⟩, hP10, fun k hk => (f10 k hk).elim (fun h => f8 k h) fun h => by omega, Dij.begin hs ok.m⟩ ?_
  rintro ⟨f, L, G⟩ ⟨⟩ w13 ⟨e13, z13, ⟨mm, hM13, hmp⟩, hP13, f13, hD⟩ J1 hJ1
  simp only at hmp hP13 f13 hD hJ1
  by_cases hL : L = []
  · subst hL
    refine Pop_no hP13 ?_
    simp only [Bool.not_false, cond_true]
    exact hk r mm w13 e13 hM13 (by omega) (hmp.congr fun v hv => (hD.done hpos hdom hv).uniq (clF_is fit hs v))
  refine Pop_ok hP13 hL fun m w17 G17 hm c17 f17 hP17 => ?_
  simp only [Bool.not_true, cond_false]
  have z17 := c17.size
  obtain ⟨hmin, hmL⟩ := least_le hm
  obtain ⟨h0, h1, h2, h3, h4⟩ := hD.o m hmin
  have f17' : ∀ k, G17 k → w2.heap.size ≤ k := fun k hk => by
    rcases f17 k hk with h | h
    · exact f13 k h
    · omega
  have e17 : Ext w w17 := ext_chg e13 c17 fun k hk => by have := f13 k hk; omega
  have hM17 : MapIs false 1 w17 r mm := hM13.same (c17.block r (by omega) fun h => by have := f13 r h; omega)
  obtain ⟨hDP, _, hcnt⟩ := hD.pop hpos hdom hmin hmL (L' := rid L m.1) fun e => rid_mem
  obtain ⟨c, hc0⟩ := Int.eq_ofNat_of_zero_le h0
  have hc1 : m.1.toNat = c := by omega
  rw [hc1] at hDP hcnt h1
  rw [hc0]
  have hm0 : 0 ≤ m.2 := h3.nonneg hpos
  have hk2 := hD.kb hmin
  have hb := ok.b
  refine ⟨r, rfl, mm, hM17, fun w18 o18 hM18 => ?_⟩
  have z18 := o18.size
  have hmp := hmp.set h1 hm0
  have e18 : Ext w w18 := ext_off e17 o18 g2
  have hP18 : HeapA w18 p7 rank.length (rid L m.1) G17 := hP17.chg (G := fun k => k = r) (.of_off o18 rfl) fun k h1 h2 => by have := f17' k h1; omega
  have hH18 := hH.ext e18
  have hfc : up1 f c m.2 c = m.2 := up1_at
  have hcn := cntR_le (up1 f c m.2) rank.length
  refine Rank_ok hH18 ?_
  rw [hrk c h1, Bool.cond_decide]
  by_cases htop : rkA rank (c : Int) ≥ top
  · rw [if_pos htop]
    refine hJ1 (up1 f c m.2, rid L m.1, G17) () w18 ⟨e18, by omega, ⟨_, hM18, hmp⟩, hP18, f17', hDP.done fun v x ⟨_, e, he, _⟩ => ?_⟩ (by simp only; omega)
    unfold edS at he
    rw [if_neg (by omega)] at he
    simp at he
  rw [if_neg htop]
  have hed : edS rank ways top back c = if back = true then dnF rank ways (c : Int) else upF rank ways (c : Int) := by unfold edS; rw [if_pos (by omega)]
  have call : ∀ K' : Value → World → Prop, (∀ t w'', Ext w18 w'' → Own RD w'' t (edS rank ways top back c) → Fsh w18 t → K' (.slice t.a t.len t.cap) w'') → CV (upV back) [.pointer p, .int .i64 (c : Int)] K' w18 := fun K' hK' => by
    rw [hed] at hK'
    unfold upV
    cases back with
    | true => exact hcv.dn p _ _ _ (Down_ok hH18 fun t w'' e h f => hK' t w'' e h f)
    | false => exact hcv.up p _ _ _ (Up_ok hH18 fun t w'' e h f => hK' t w'' e h f)
  refine call _ fun s21 w23 e23 hO23 f23 => ⟨s21, rfl, ?_⟩
  have z23 := e23.size
  have l21 := hO23.view.len
  have hel := ok.l c h1
  have lr' : r < w18.heap.size := by omega
  refine LoopT.gh (γ := Nat × List (Int × Int) × (Nat → Prop)) (fun gh (st : Int × Unit) w' => st.1 = gh.1 ∧ gh.1 ≤ (edS rank ways top back c).length ∧ Ext w w' ∧ w23.heap.size ≤ w'.heap.size ∧ MapIs false 1 w' r (upd mm [(c : Int)] (.int .i64 m.2)) ∧ HeapA w' p7 rank.length gh.2.1 gh.2.2 ∧ (∀ k, gh.2.2 k → w2.heap.size ≤ k) ∧ Own RD w' s21 (edS rank ways top back c) ∧ Dj gh.2.2 s21.blk ∧
      DijP (ES rank ways top back) rank.length s 1125899906842624 (up1 f c m.2) gh.2.1 c (fun v x => ∃ j, ∃ hj : j < (edS rank ways top back c).length, j < gh.1 ∧ ((edS rank ways top back c)[j]).1 = (v : Int) ∧ ((edS rank ways top back c)[j]).2.1 = x)) (fun gh => (edS rank ways top back c).length - gh.1)
    (0, rid L m.1, G17) ⟨rfl, Nat.zero_le _, e18.trans e23, Nat.le_refl _, hM18.grow e23, hP18.ext e23, f17', hO23, fun k h1 h2 => by have := hP18.lt h1; have := f23 k h2; omega, hDP.mono fun v x h => by obtain ⟨j, _, hj, _⟩ := h; omega⟩ ?_
  rintro ⟨i, L1, F1⟩ ⟨x, _⟩ w26 ⟨hx, hi, e26, z26, hM26, hP26, f26, hE26, dj26, hD26⟩ J2 hJ2
  simp only at hx hi hP26 f26 dj26 hD26 hJ2; subst hx
  dsimp only
  rw [Bool.cond_decide]
  by_cases hc : (i : Int) < (s21.len : Int)
  · rw [if_pos hc]
    have hi' : i < (edS rank ways top back c).length := by omega
    obtain ⟨q0, q1, q2, q3⟩ := ok.e c h1 _ (List.getElem_mem hi')
    obtain ⟨v, hv⟩ := Int.eq_ofNat_of_zero_le q0
    have hvn : v < rank.length := by omega
    have hEv : ES rank ways top back c v ((edS rank ways top back c)[i]).2.1 := ⟨h1, _, List.getElem_mem hi', hv, rfl⟩
    refine do_idx hE26.view hi' fun _ a0 a1 a2 => ⟨_, a0, _, a1, _, a2, ?_⟩
    intro b31 w32 e32 g31 g31' w33 o33
    have z32 := e32.size; have z33 := o33.size
    have nb : ¬ F1 b31 := fun h => by have := hP26.lt h; omega
    have hP33 : HeapA w33 p7 rank.length L1 F1 := (hP26.ext e32).chg (G := fun k => k = b31) (.of_off o33 rfl) fun k h1 h2 => nb (h2 ▸ h1)
    have e33 : Ext w w33 := ext_off (e26.trans e32) o33 (by have := e26.size; omega)
    have hM33 : MapIs false 1 w33 r (upd mm [(c : Int)] (.int .i64 m.2)) := (hM26.grow e32).same (o33.block r (by omega))
    have hE33 : Own RD w33 s21 (edS rank ways top back c) := (hE26.ext e32).off o33 fun h => by have := hE26.lt h; omega
    have hle := hD26.le q3
    rw [hfc] at hle
    have wrap : IntKind.i64.wrap (m.2 + ((edS rank ways top back c)[i]).2.1) = m.2 + ((edS rank ways top back c)[i]).2.1 := w64 (by omega) (by omega)
    rw [wrap, hv]
    have next : ∀ (L2 : List (Int × Int)) (F2 : Nat → Prop) (w' : World), Ext w w' → w23.heap.size ≤ w'.heap.size → MapIs false 1 w' r (upd mm [(c : Int)] (.int .i64 m.2)) → HeapA w' p7 rank.length L2 F2 → (∀ k, F2 k → w2.heap.size ≤ k) → Own RD w' s21 (edS rank ways top back c) → Dj F2 s21.blk →
        DijP (ES rank ways top back) rank.length s 1125899906842624 (up1 f c m.2) L2 c (fun v' x' => (∃ j, ∃ hj : j < (edS rank ways top back c).length, j < i ∧ ((edS rank ways top back c)[j]).1 = (v' : Int) ∧ ((edS rank ways top back c)[j]).2.1 = x') ∨ v' = v ∧ x' = ((edS rank ways top back c)[i]).2.1) → J2 (IntKind.i64.wrap ((i : Int) + 1), ()) w' := fun L2 F2 w' q1 q2 q3 q4 q5 q6 q7 q8 =>
      hJ2 (i + 1, L2, F2) _ _ ⟨wsucc (m := 2 ^ 40) (by omega) (by omega), by simp only; omega, q1, q2, q3, q4, q5, q6, q7, q8.mono fun v' x' ⟨j, hj, hji, r1, r2⟩ => by
        by_cases e : j = i
        · subst e; right; exact ⟨by omega, r2.symm⟩
        · left; exact ⟨j, hj, by simp only at hji; omega, r1, r2⟩⟩ (by simp only; omega)
    have set : ∀ (w39 : World), Ext w33 w39 → (∀ k, ((v : Int), k) ∈ L1 → m.2 + ((edS rank ways top back c)[i]).2.1 ≤ k) → up1 f c m.2 v = -1 → sh_heap_Heap_Set p7 (v : Int) (m.2 + ((edS rank ways top back c)[i]).2.1) (fun t42 w43 => (Keeps [b31] w39 w43 ∧ (J2 ((IntKind.i64.wrap ((i : Int) + (1 : Int))), ()) w43))) w39 := fun w39 e39 hb' hf => by
      have z39 := e39.size
      refine Set_ok (hP33.ext e39) (by omega) (by omega) fun w43 F43 c43 f43 hP43 => ⟨kc1 c43 (by omega) nb, ?_⟩
      have z43 := c43.size
      refine next _ F43 w43 (ext_chg (e33.trans e39) c43 fun k hk => by have := f26 k hk; omega) (by omega) ((hM33.grow e39).same (c43.block r (by omega) fun h => by have := f26 r h; omega)) hP43 (fun k hk => ?_) ((hE33.ext e39).chg c43 fun k h1 h2 => dj26 k h2 h1) (fun k hk h2 => ?_) ?_
      · rcases f43 k hk with h | h
        · exact f26 k h
        · omega
      · rcases f43 k hk with h | h
        · exact dj26 k h h2
        · have := hE26.lt h2; omega
      · refine hD26.set hvn hEv q3 hf (fun k hk => by rw [hfc]; exact hb' k hk) fun e => ?_
        rw [List.mem_cons, rid_mem, hfc]
    have skip : ∀ (w39 : World), Ext w33 w39 → (0 ≤ up1 f c m.2 v ∨ ∃ k, ((v : Int), k) ∈ L1 ∧ k ≤ m.2 + ((edS rank ways top back c)[i]).2.1) → J2 ((IntKind.i64.wrap ((i : Int) + (1 : Int))), ()) w39 := fun w39 e39 hsk => by
      have z39 := e39.size
      exact next L1 F1 w39 (e33.trans e39) (by omega) (hM33.grow e39) (hP33.ext e39) f26 (hE33.ext e39) dj26 (hD26.skip (by rw [hfc]; exact hsk))
    have hval : up1 f c m.2 v = -1 ∨ 0 ≤ up1 f c m.2 v := by
      rcases hD26.d v hvn with h | ⟨_, h, _⟩
      · exact .inl h
      · exact .inr h
    have look := hmp.at hvn
    refine Key_ok hP33 (fun key hin w39 e39 => ⟨kp1 e39 (by omega), ?_⟩) (fun hno => ⟨kp0_1 _ _, ?_⟩)
    · refine ⟨_, hM33.grow e39, ?_⟩
      rw [look]
      rcases hval with h | h
      · rw [if_neg (by omega)]
        refine ⟨0, rfl, ?_⟩
        simp only [Option.isSome_none, Bool.not_false, Bool.not_true, cond_false, cond_true]
        rw [Bool.cond_decide]
        by_cases hlt : m.2 + ((edS rank ways top back c)[i]).2.1 < key
        · rw [if_pos hlt]
          exact set w39 e39 (fun k hk => by rw [hP33.uniq hk hin]; omega) h
        · rw [if_neg hlt]
          exact skip w39 e39 (.inr ⟨key, hin, by omega⟩)
      · rw [if_pos h]
        refine ⟨_, rfl, ?_⟩
        simp only [Option.isSome_some, Bool.not_true, cond_false]
        exact skip w39 e39 (.inl h)
    · refine ⟨_, hM33, ?_⟩
      rw [look]
      rcases hval with h | h
      · rw [if_neg (by omega)]
        refine ⟨0, rfl, ?_⟩
        simp only [Option.isSome_none, Bool.not_false, cond_true]
        exact set w33 (.refl _) (fun k hk => absurd hk (hno k)) h
      · rw [if_pos h]
        refine ⟨_, rfl, ?_⟩
        simp only [Option.isSome_some, Bool.not_true, cond_false]
        exact skip w33 (.refl _) (.inl h)
  · rw [if_neg hc]
    have : i = (edS rank ways top back c).length := by omega
    subst this
    refine hJ1 (up1 f c m.2, L1, F1) () w26 ⟨e26, by omega, ⟨_, hM26, hmp⟩, hP26, f26, hD26.done fun v x ⟨_, e, he, r1, r2⟩ => ?_⟩ (by simp only; omega)
    obtain ⟨j, hj, rfl⟩ := List.getElem_of_mem he
    exact ⟨j, hj, hj, r1, r2⟩
end
end Go.Sh

/- The maps' reference: which arcs count, and the edges out of a place; what is only laid. -/
set_option maxRecDepth 100000
namespace Go.Sh
open Go.RowKit

/-- A slice that grows: what is laid behind it is of its own. -/
structure Acc {α : Type} (R : Rc α) (w0 : World) (n : Nat) (w : World) (s : SV) (xs : List α) : Prop where
  e : Ext w0 w
  m : w0.heap.size ≤ n
  z : n ≤ w.heap.size
  o : Own R w s xs
  f : ∀ k, s.blk k → n ≤ k
section
variable {α : Type} {R : Rc α} {w0 w w' w'' : World} {n : Nat} {s : SV} {xs : List α}
theorem Acc.nil (e : Ext w0 w) (m : w0.heap.size ≤ n) (z : n ≤ w.heap.size) : Acc R w0 n w ⟨none, 0, 0⟩ [] := ⟨e, m, z, Own.nil, fun _ ⟨_, h, _⟩ => by cases h⟩
theorem Acc.ext (h : Acc R w0 n w s xs) (e : Ext w w') : Acc R w0 n w' s xs := ⟨h.e.trans e, h.m, Nat.le_trans h.z e.size, h.o.ext e, h.f⟩
/-- .. that was laid since. -/
theorem Acc.off' (h : Acc R w0 n w s xs) {b : Nat} (e : Ext w w') (o : Off b w' w'') (hb : w.heap.size ≤ b) : Acc R w0 n w'' s xs := h.ext (ext_off e o hb)
theorem Acc.push (h : Acc R w0 n w s xs) {x : α} {bytes : Nat} (hb : (xs.length + 1) * bytes ≤ 2 ^ 47) (hn : xs.length + 1 < 2 ^ 62) {K : World → SV → World → Prop}
    (hk : ∀ w2 s' w', Ext w w2 → Chg s.blk w2 w' → (∀ k, s'.blk k → s.blk k ∨ w.heap.size ≤ k) → Acc R w0 n w' s' (xs ++ [x]) → K w2 s' w') :
    NewB (R.enc x) w (fun b w2 => App bytes (R.enc R.z) s ⟨some ⟨b, 0, none⟩, 1, 1⟩ w2 (fun s' w' => K w2 s' w')) :=
  push_ok h.o hb hn fun w2 s' w' e2 c hs hO => hk w2 s' w' e2 c hs ⟨ext_chg (h.e.trans e2) c fun k hk => Nat.le_trans h.m (h.f k hk), h.m, Nat.le_trans h.z (Nat.le_trans e2.size c.size), hO, fun k hk => by
    rcases hs k hk with h1 | h1
    · exact h.f k h1
    · exact Nat.le_trans h.z h1⟩
end

section
variable {w : World}

end
end Go.Sh

/- What is reached, told as rows; Within, Forward, Back, Find. -/
set_option maxRecDepth 100000
namespace Go.Sh
open Go.RowKit

/-- What is gathered. -/
def gthL (g : Nat → Int × Int × Bool) : Nat → List (Int × Int)
  | 0 => []
  | n + 1 => if (g n).2.2 = true then gthL g n ++ [((g n).1, (g n).2.1)] else gthL g n
theorem gthL_succ (g : Nat → Int × Int × Bool) (n : Nat) : gthL g (n + 1) = if (g n).2.2 = true then gthL g n ++ [((g n).1, (g n).2.1)] else gthL g n := rfl
theorem gthL_len (g : Nat → Int × Int × Bool) (n : Nat) : (gthL g n).length ≤ n := by
  induction n with
  | zero => exact Nat.le_refl _
  | succ n ih =>
    rw [gthL_succ]; split
    · simp only [List.length_append, List.length_cons, List.length_nil]; omega
    · omega
theorem gthL_mem {g : Nat → Int × Int × Bool} {n : Nat} {e : Int × Int} : e ∈ gthL g n ↔ ∃ v, v < n ∧ (g v).2.2 = true ∧ e = ((g v).1, (g v).2.1) := by
  induction n with
  | zero => simp [gthL]
  | succ n ih =>
    have key : e ∈ gthL g (n + 1) ↔ e ∈ gthL g n ∨ ((g n).2.2 = true ∧ e = ((g n).1, (g n).2.1)) := by
      rw [gthL_succ]; split
      · rename_i h; rw [List.mem_append, List.mem_singleton]; exact or_congr Iff.rfl ⟨fun q => ⟨h, q⟩, fun q => q.2⟩
      · rename_i h; exact ⟨.inl, fun q => q.elim id fun q => absurd q.1 h⟩
    rw [key, ih]
    constructor
    · rintro (⟨v, h1, h2⟩ | h)
      · exact ⟨v, by omega, h2⟩
      · exact ⟨n, by omega, h⟩
    · rintro ⟨v, h1, h2⟩
      by_cases e : v = n
      · subst e; exact .inr h2
      · exact .inl ⟨v, by omega, h2⟩
/-- .. places by number, as far as f, of those that a test takes. -/
def rowsL (n : Nat) (f : Nat → Int) (q : Nat → Bool) : List (Int × Int) := gthL (fun v => ((v : Int), (if 0 ≤ f v then f v else 0), decide (0 ≤ f v) && q v)) n
theorem rowsL_len (n : Nat) (f : Nat → Int) (q : Nat → Bool) : (rowsL n f q).length ≤ n := gthL_len _ _
theorem rowsL_mem {n : Nat} {f : Nat → Int} {q : Nat → Bool} {e : Int × Int} : e ∈ rowsL n f q ↔ ∃ v : Nat, v < n ∧ 0 ≤ f v ∧ q v = true ∧ e = ((v : Int), f v) := by
  unfold rowsL
  rw [gthL_mem]
  refine exists_congr fun v => and_congr Iff.rfl ?_
  simp only [Bool.and_eq_true, decide_eq_true_iff]
  exact ⟨fun ⟨⟨h1, h2⟩, h3⟩ => ⟨h1, h2, by rw [h3, if_pos h1]⟩, fun ⟨h1, h2, h3⟩ => ⟨⟨h1, h2⟩, by rw [h3, if_pos h1]⟩⟩
theorem rowsL_succ (n : Nat) (f : Nat → Int) (q : Nat → Bool) : rowsL (n + 1) f q = if 0 ≤ f n ∧ q n = true then rowsL n f q ++ [((n : Int), f n)] else rowsL n f q := by
  unfold rowsL
  rw [gthL]
  by_cases h : 0 ≤ f n ∧ q n = true
  · rw [if_pos h, if_pos (by simp only [h.1, h.2, decide_true, Bool.and_self]), if_pos h.1]
  · rw [if_neg h, if_neg (by simp only [Bool.and_eq_true, decide_eq_true_iff]; exact h)]
theorem rowsL_pw (n : Nat) (f : Nat → Int) (q : Nat → Bool) : (rowsL n f q).Pairwise fun a b => a.1 < b.1 := by
  induction n with
  | zero => exact List.Pairwise.nil
  | succ n ih =>
    rw [rowsL_succ]
    split
    · rw [List.pairwise_append]
      refine ⟨ih, List.pairwise_singleton _ _, fun a ha b hb => ?_⟩
      obtain ⟨v, hv, _, _, rfl⟩ := rowsL_mem.1 ha
      rw [List.mem_singleton] at hb; subst hb
      simp only; omega
    · exact ih

/-- What is known of the tests. -/
structure MayCV (CV : CVT) : Prop where
  all : ∀ r K w, sh_space_all r (fun t w' => K (.bool t) w') w → CV (.func (.func fn_space_all) #[] #[]) [.int .i64 r] K w
structure SpaceCV (CV : CVT) : Prop where
  way : WayCV CV
  rows : ∃ CV1, MayCV CV1 ∧ ∀ v a b c K w, sh_space_rows_c1 CV1 v a b c (fun x y t w' => K (.tuple #[.agg #[.int .i64 x, .int .i64 y], .bool t]) w') w →
    CV (.func (.func fn_space_rows_c1) #[] #[.pointer (some a), .pointer (some b), .pointer (some c)]) [.int .i64 v] K w

section
variable {CV : CVT} {w : World} {p : Option Addr} {rank : List Int} {ways : List Wy} {F : Nat → Prop}

theorem gather_ok {n : Nat} {one : Value} {g : Nat → Int × Int × Bool} {K : SV → World → Prop} (hn : n < 2 ^ 40)
    (hone : ∀ i : Nat, i < n → ∀ w', Ext w w' → ∀ K' : Value → World → Prop, (∀ w'', Ext w' w'' → K' (.tuple #[.agg #[.int .i64 (g i).1, .int .i64 (g i).2.1], .bool (g i).2.2]) w'') → CV one [.int .i64 (i : Int)] K' w')
    (hk : ∀ s w', Ext w w' → Own RE w' s (gthL g n) → Fsh w s → K s w') : sh_space_gather_Reach CV (n : Int) one K w := by
  unfold sh_space_gather_Reach
  refine LoopT.gh (γ := Nat) (fun i (st : SV × Int × Unit) w' => st.2.1 = i ∧ i ≤ n ∧ Acc RE w w.heap.size w' st.1 (gthL g i)) (fun i => n - i) 0 ⟨rfl, Nat.zero_le _, Acc.nil (.refl _) (Nat.le_refl _) (Nat.le_refl _)⟩ ?_
  rintro i ⟨s, x, _⟩ w3 ⟨hx, hi, hA⟩ J1 hJ1
  simp only at hx hA; subst hx
  dsimp only
  have hgl := gthL_len g i
  rw [Bool.cond_decide]
  by_cases hc : (i : Int) < (n : Int)
  · rw [if_pos hc]
    refine hone i (by omega) w3 hA.e _ fun w8 e8 => ⟨_, _, _, rfl, ?_⟩
    intro b9 w10 e10 g9 g9' w11 o11
    have z8 := e8.size; have z10 := e10.size; have z11 := o11.size
    have hA1 := (hA.ext e8).off' e10 o11 g9
    by_cases hg : (g i).2.2 = true
    · rw [hg, cond_true]
      refine hA1.push (R := RE) (x := ((g i).1, (g i).2.1)) (by omega) (by omega) fun w13 s14 w15 e13 c15 _ hA2 => ?_
      have z13 := e13.size
      refine ⟨kp_chg c15 fun b hb => ?_, ?_⟩
      · simp only [List.mem_cons, List.not_mem_nil, or_false] at hb; subst hb
        exact ⟨by omega, fun hk => by have := hA.o.lt hk; omega⟩
      · refine hJ1 (i + 1) _ _ ⟨wsucc (m := 2 ^ 40) (by omega) (by omega), by omega, ?_⟩ (by omega)
        rw [gthL_succ, if_pos hg]; exact hA2
    · have hg' := hg
      rw [Bool.not_eq_true] at hg'
      rw [hg', cond_false]
      refine hJ1 (i + 1) _ _ ⟨wsucc (m := 2 ^ 40) (by omega) (by omega), by omega, ?_⟩ (by omega)
      rw [gthL_succ, if_neg hg]; exact hA1
  · rw [if_neg hc]
    have : i = n := by omega
    subst this
    exact hk s w3 hA.e hA.o hA.f

theorem rowsc_ok {CV1 : CVT} {bm bq bh r v : Nat} {may : Value} {f : Nat → Int} {q : Nat → Bool} {mm : List (List Int × Value)} {K : Int → Int → Bool → World → Prop} (hH : HierA w p rank ways F)
    (hb1 : Blk w bm [.map (some r)]) (hb2 : Blk w bq [may]) (hb3 : Blk w bh [.pointer p]) (hM : MapIs false 1 w r mm) (hmp : MpF rank.length f mm) (hv : v < rank.length)
    (hmay : ∀ w', Ext w w' → ∀ K' : Value → World → Prop, (∀ w'', Ext w' w'' → K' (.bool (q v)) w'') → CV1 may [.int .i64 (rkA rank (v : Int))] K' w')
    (hk : ∀ w', Ext w w' → K (v : Int) (if 0 ≤ f v then f v else 0) (decide (0 ≤ f v) && q v) w') : sh_space_rows_c1 CV1 (v : Int) ⟨bm, 0, none⟩ ⟨bq, 0, none⟩ ⟨bh, 0, none⟩ K w := by
  unfold sh_space_rows_c1
  intro b1 w2 e2 g1 g1'
  have z2 := e2.size
  refine ⟨some r, by rw [cell_blk (e2.blkE hb1)]; rfl, mm, hM.grow e2, ?_⟩
  rw [hmp.at hv]
  by_cases hf : 0 ≤ f v
  · rw [if_pos hf]
    refine ⟨f v, rfl, ?_⟩
    rw [Option.isSome_some, cond_true]
    refine ⟨may, by rw [cell_blk (e2.blkE hb2)]; rfl, p, by rw [cell_blk (e2.blkE hb3)]; rfl, ?_⟩
    refine Rank_quiet (hH.ext e2) ?_
    intro w14 e14
    have z14 := e14.size
    rw [show rankF rank (v : Int) = rkA rank (v : Int) by unfold rankF; rw [if_pos (by omega)]]
    refine hmay w14 (e2.trans e14) _ fun w15 e15 => ⟨q v, rfl, kp1 e15 (by omega), fun w16 e16 w17 o17 w18 e18 => ?_⟩
    have := hk w18 ((ext_off (((e2.trans e14).trans e15).trans e16) o17 g1).trans e18)
    rw [if_pos hf, decide_eq_true hf, Bool.true_and] at this
    exact this
  · rw [if_neg hf]
    refine ⟨0, rfl, ?_⟩
    rw [Option.isSome_none, cond_false]
    intro w19 e19 w20 o20 w21 e21
    have := hk w21 ((ext_off (e2.trans e19) o20 g1).trans e21)
    rw [if_neg hf, decide_eq_false hf, Bool.false_and] at this
    exact this

theorem rows_ok (hcv : ∃ CV1, MayCV CV1 ∧ ∀ v a b c K w, sh_space_rows_c1 CV1 v a b c (fun x y t w' => K (.tuple #[.agg #[.int .i64 x, .int .i64 y], .bool t]) w') w →
      CV (.func (.func fn_space_rows_c1) #[] #[.pointer (some a), .pointer (some b), .pointer (some c)]) [.int .i64 v] K w)
    {r : Nat} {may : Value} {f : Nat → Int} {q : Nat → Bool} {mm : List (List Int × Value)} {K : SV → World → Prop} (hH : HierA w p rank ways F) (hn : rank.length < 2 ^ 40) (hM : MapIs false 1 w r mm) (hmp : MpF rank.length f mm) (hbox : ∀ k : Prop, k → BoxV may k)
    (hmay : ∀ CV1, MayCV CV1 → ∀ v, v < rank.length → ∀ w', Ext w w' → ∀ K' : Value → World → Prop, (∀ w'', Ext w' w'' → K' (.bool (q v)) w'') → CV1 may [.int .i64 (rkA rank (v : Int))] K' w')
    (hk : ∀ s w', Ext w w' → Own RE w' s (rowsL rank.length f q) → Fsh w s → K s w') : sh_space_rows CV p (some r) may K w := by
  unfold sh_space_rows
  obtain ⟨CV1, hmv, hrows⟩ := hcv
  intro b1 w2 e2 g1 g1' b3 w4 e4 g3 g3'
  refine hbox _ ?_
  intro b5 w6 e6 g5 g5'
  have e06 := (e2.trans e4).trans e6
  refine HN_ok (hH.ext e06) ⟨fun _ _ => rfl, fun hb3 hb5 hb1 => ?_⟩
  refine gather_ok hn (g := fun v => ((v : Int), (if 0 ≤ f v then f v else 0), decide (0 ≤ f v) && q v)) (fun i hi w' e K' hK' => ?_) fun s w' e hO hF => hk s w' (e06.trans e) hO (hF.ext e06)
  refine hrows _ _ _ _ _ _ (rowsc_ok (hH.ext (e06.trans e)) (e.blkE hb3) (e.blkE hb5) (e.blkE hb1) (hM.grow (e06.trans e)) hmp hi (fun w'' e' K'' hK'' => hmay CV1 hmv i hi w'' ((e06.trans e).trans e') K'' hK'') fun w'' e' => hK' w'' e')

theorem climb_all (hcv : WayCV CV) {s top : Int} {back : Bool} {K : Option Nat → World → Prop} (hH : HierA w p rank ways F) (fit : FitH rank ways)
    (hk : ∀ r mm w', Ext w w' → MapIs false 1 w' r mm → w.heap.size ≤ r → MpF rank.length (clF rank ways top back s) mm → K (some r) w') : sh_space_climb CV p s top (upV back) K w := by
  by_cases hs : 0 ≤ s ∧ s < rank.length
  · obtain ⟨k, rfl⟩ := Int.eq_ofNat_of_zero_le hs.1
    exact climb_ok hcv hH fit (by omega) hk
  · exact climb_no hH hs fun r w' e hM g => hk r [] w' e hM g (MpF.nil.congr fun v _ => (clF_no hs v).symm)

theorem Side_ok (hcv : SpaceCV CV) {s : Int} {back : Bool} {K : SV → World → Prop} (hH : HierA w p rank ways F) (fit : FitH rank ways)
    (hk : ∀ s1 w', Ext w w' → Own RE w' s1 (rowsL rank.length (clF rank ways rank.length back s) fun _ => true) → Fsh w s1 → K s1 w') :
    sh_space_climb CV p s (rank.length : Int) (upV back) (fun m3 w4 => sh_space_rows CV p m3 (Value.func (.func fn_space_all) #[] #[]) (fun s5 w6 => K s5 w6) w4) w := by
  have hn := fit.n
  refine climb_all hcv.way hH fit fun r mm w7 e7 hM g7 hmp => ?_
  refine rows_ok hcv.rows (q := fun _ => true) (hH.ext e7) (by omega) hM hmp (fun _ h => h) (fun CV1 hmv v hv w' e K' hK' => ?_) fun s8 w9 e9 hO8 f8 => hk s8 w9 (e7.trans e9) hO8 (f8.ext e7)
  refine hmv.all _ _ _ ?_
  unfold sh_space_all
  exact hK' w' (.refl _)
theorem Forward_ok (hcv : SpaceCV CV) {s : Int} {K : SV → World → Prop} (hH : HierA w p rank ways F) (fit : FitH rank ways)
    (hk : ∀ s1 w', Ext w w' → Own RE w' s1 (rowsL rank.length (clF rank ways rank.length false s) fun _ => true) → Fsh w s1 → K s1 w') : sh_space_Forward CV p s K w := by
  unfold sh_space_Forward
  exact HN_ok hH (Side_ok (back := false) hcv hH fit hk)
theorem Back_ok (hcv : SpaceCV CV) {s : Int} {K : SV → World → Prop} (hH : HierA w p rank ways F) (fit : FitH rank ways)
    (hk : ∀ s1 w', Ext w w' → Own RE w' s1 (rowsL rank.length (clF rank ways rank.length true s) fun _ => true) → Fsh w s1 → K s1 w') : sh_space_Back CV p s K w := by
  unfold sh_space_Back
  exact HN_ok hH (Side_ok (back := true) hcv hH fit hk)

theorem re_idx {s : SV} {xs : List (Int × Int)} (h : View RE w s xs) {i : Nat} (hl : i < xs.length) {K : Addr → Prop}
    (hk : ∀ a, w.cell? (a.add 0) = some (.int .i64 xs[i].1) → w.cell? (a.add 1) = some (.int .i64 xs[i].2) → K a) : Idx s.a s.len (i : Int) 2 K := by
  refine View.idx (R := RE) h (by omega) (by simpa using hl) fun a _ hc => ?_
  simp only [Int.toNat_natCast] at hc
  exact hk a (hc 0 _ rfl) (hc 1 _ rfl)

/-- How far, by a list. -/
def findR (l : List (Int × Int)) (v : Int) : Int := match l.find? (fun e => e.1 == v) with | some e => e.2 | none => -1
theorem findR_take {l : List (Int × Int)} {v : Int} {i : Nat} (hi : i < l.length) (hno : ∀ j (hj : j < l.length), j < i → l[j].1 ≠ v) (h : l[i].1 = v) : findR l v = l[i].2 := by
  have : l.find? (fun e => e.1 == v) = some l[i] := by
    rw [List.find?_eq_some_iff_getElem]
    exact ⟨by simpa using h, i, hi, rfl, fun j hj => by simpa using hno j (by omega) hj⟩
  unfold findR; rw [this]
theorem findR_none {l : List (Int × Int)} {v : Int} (hno : ∀ j (hj : j < l.length), l[j].1 ≠ v) : findR l v = -1 := by
  have : l.find? (fun e => e.1 == v) = none := by
    rw [List.find?_eq_none]
    intro e he
    obtain ⟨j, hj, rfl⟩ := List.getElem_of_mem he
    simpa using hno j hj
  unfold findR; rw [this]
theorem Find_ok {s : SV} {xs : List (Int × Int)} {v : Int} {K : Int → World → Prop} (h : View RE w s xs) (hn : xs.length < 2 ^ 40) (hk : ∀ w', Ext w w' → K (findR xs v) w') : sh_space_Find s v K w := by
  unfold sh_space_Find
  have hl := h.len
  refine LoopT.gh (γ := Nat) (fun i (st : Int × Unit) w' => st.1 = i ∧ i ≤ xs.length ∧ Ext w w' ∧ ∀ j (hj : j < xs.length), j < i → xs[j].1 ≠ v) (fun i => xs.length - i) 0 ⟨rfl, Nat.zero_le _, .refl _, fun j hj h => by omega⟩ ?_
  rintro i ⟨x, _⟩ w3 ⟨hx, hi, e3, hno⟩ J1 hJ1
  simp only at hx; subst hx
  dsimp only
  rw [Bool.cond_decide]
  by_cases hc : (i : Int) < (s.len : Int)
  · rw [if_pos hc]
    have hi' : i < xs.length := by omega
    refine re_idx (h.ext e3) hi' fun _ a0 a1 => ⟨_, a0, _, a1, ?_⟩
    intro b7 w8 e8 g7 g7' w9 o9
    have e9 : Ext w w9 := ext_off (e3.trans e8) o9 (by have := e3.size; omega)
    by_cases hv : xs[i].1 = v
    · rw [show (xs[i].1 == v) = true by rw [beq_iff_eq]; exact hv, cond_true]
      have := hk w9 e9
      rw [findR_take hi' hno hv] at this; exact this
    · rw [show (xs[i].1 == v) = false by rw [beq_eq_false_iff_ne]; exact hv, cond_false]
      refine hJ1 (i + 1) _ _ ⟨wsucc (m := 2 ^ 40) (by omega) (by omega), by omega, e9, fun j hj hji => ?_⟩ (by omega)
      by_cases e : j = i
      · subst e; exact hv
      · exact hno j hj (by omega)
  · rw [if_neg hc]
    have := hk w3 e3
    rw [findR_none fun j hj => hno j hj (by omega)] at this; exact this
end
end Go.Sh

/- What is left of a map: laid, and read. -/
set_option maxRecDepth 100000
namespace Go.Sh
open Go.RowKit

section
variable {w w' : World} {n : Nat} {sI sL sO : SV} {inn lost : Nat → Int} {L : List Wy}
end
end Go.Sh

/- Which place is taken next. -/
set_option maxRecDepth 100000
namespace Go.Sh
open Go.RowKit

section
variable {w w' : World} {n : Nat} {sI sL sO : SV} {inn lost : Nat → Int} {L : List Wy}
end
end Go.Sh

/- Is there a way around? -/
set_option maxRecDepth 100000
namespace Go.Sh
open Go.RowKit

section
variable {w w' : World} {n : Nat} {sI sL sO : SV} {inn lost : Nat → Int} {L : List Wy}
end
end Go.Sh

/- The reference of space: Fit, Climb, Rows, Above, Same. -/
set_option maxRecDepth 100000
namespace Go.Sh
open Go.RowKit

def endU (back : Bool) (y : Wy) : Int := if back = true then yT y else yF y
def endV (back : Bool) (y : Wy) : Int := if back = true then yF y else yT y
section
variable {rank : List Int} {ways : List Wy} {top : Int} {back : Bool}
theorem rk_ne (ok : OkH rank ways) {a b : Nat} (ha : a < rank.length) (hb : b < rank.length) (hne : a ≠ b) : rkA rank (a : Int) ≠ rkA rank (b : Int) := fun e => by
  rw [← rk_get ha, ← rk_get hb] at e
  have := List.pairwise_iff_getElem.1 (List.nodup_iff_pairwise_ne.1 ok.r.2)
  rcases Nat.lt_or_gt_of_ne hne with h | h
  · exact this a b ha hb h e
  · exact this b a hb ha h e.symm
theorem ES_way (ok : OkH rank ways) {u v : Nat} {x : Int} (h : ES rank ways top back u v x) : ∃ k, ∃ hk : k < ways.length, endU back ways[k] = (u : Int) ∧ endV back ways[k] = (v : Int) ∧ yW ways[k] = x ∧ rkA rank (u : Int) < top ∧ rkA rank (v : Int) > rkA rank (u : Int) := by
  obtain ⟨hu, e, he, hv, hx⟩ := h
  unfold edS at he
  split at he
  · rename_i ht
    split at he
    · rename_i hb
      subst hb
      obtain ⟨k, hk, h1, h2, rfl⟩ := dnF_mem he
      have hv : yF ways[k] = (v : Int) := hv
      have hf := ok.f k hk; unfold OkF at hf
      refine ⟨k, hk, h1, hv, hx, ht, ?_⟩
      unfold IsUp at h2
      rw [h1, hv] at h2
      have := rk_ne ok (show v < rank.length by omega) hu (by omega)
      omega
    · rename_i hb
      rw [Bool.not_eq_true] at hb
      subst hb
      obtain ⟨k, hk, h1, h2, rfl⟩ := upF_mem he
      have hv : yT ways[k] = (v : Int) := hv
      refine ⟨k, hk, h1, hv, hx, ht, ?_⟩
      unfold IsUp at h2
      rw [h1, hv] at h2; exact h2
  · simp at he
end

section
variable {w : World} {rank : List Int} {ways : List Wy} {sr sy : SV}

theorem Fit_ok {K : Bool → World → Prop} (hr : View RI w sr rank) (hy : View RW w sy ways) (hk : ∀ b w', Ext w w' → (b = true → FitH rank ways ∧ rank.length ≤ 14 ∧ ways.length ≤ 80) → K b w') : sh_postroadref11_Fit sr sy K w := by
  unfold sh_postroadref11_Fit
  intro b1 w2 e2 g1 g1'
  have z2 := e2.size
  have lr := hr.len; have ly := hy.len
  have no : ∀ w', Ext w w' → K false w' := fun w' e => hk false w' e fun q => by cases q
  rw [Bool.cond_decide]; split
  · exact no _ e2
  rename_i h1
  rw [Bool.cond_decide]; split
  · exact no _ e2
  rename_i h2
  refine rCheck_ok (hr.ext e2) (hy.ext e2) fun w4 e4 => ⟨kp1 e4 (by omega), ?_⟩
  by_cases ok : ¬ OkH rank ways
  · rw [show (chkF rank ways != 0) = true by simpa using (chkF_no ok).1, cond_true]
    exact no _ (e2.trans e4)
  rw [Classical.not_not] at ok
  rw [chkF_ok ok, bne_self_eq_false, cond_false]
  refine LoopT.gh (γ := Nat) (fun i (st : Int × Unit) w' => st.1 = i ∧ i ≤ ways.length ∧ Ext w w' ∧ ∀ j (hj : j < ways.length), j < i → yW ways[j] ≤ 1125899906842624) (fun i => ways.length - i) 0 ⟨rfl, Nat.zero_le _, e2.trans e4, fun j hj h => by omega⟩ ?_
  rintro i ⟨x, _⟩ w7 ⟨hx, hi, e7, hb⟩ J1 hJ1
  simp only at hx; subst hx
  dsimp only
  rw [Bool.cond_decide]
  by_cases hc : (i : Int) < (sy.len : Int)
  · rw [if_pos hc]
    have hi' : i < ways.length := by omega
    refine way_idx (hy.ext e7) hi' fun a ha _ _ a2 _ _ => ⟨yW ways[i], ?_, ?_⟩
    · obtain ⟨b, o, sp⟩ := a
      simp only at ha; subst ha
      rw [addm] at a2 ⊢; rw [addm]; exact a2
    rw [Bool.cond_decide]
    by_cases hw : yW ways[i] > 1125899906842624
    · rw [if_pos hw]; exact no _ e7
    · rw [if_neg hw]
      refine hJ1 (i + 1) _ _ ⟨wsucc (m := 2 ^ 40) (by omega) (by omega), by omega, e7, fun j hj hji => ?_⟩ (by omega)
      by_cases e : j = i
      · subst e; omega
      · exact hb j hj (by omega)
  · rw [if_neg hc]
    refine hk true w7 e7 fun _ => ⟨⟨ok, by omega, fun y hy' => ?_⟩, by omega, by omega⟩
    obtain ⟨j, hj, rfl⟩ := List.getElem_of_mem hy'
    exact hb j hj (by omega)

theorem okR_rk (ok : OkH rank ways) {u : Nat} (hu : u < rank.length) : 0 ≤ rkA rank (u : Int) ∧ rkA rank (u : Int) < rank.length := by
  rw [← rk_get hu]; exact ok.r.1 _ (List.getElem_mem hu)

end
end Go.Sh

/- What is known of one hierarchy; SpaceClimbs, SpaceRanks. -/
set_option maxRecDepth 100000
namespace Go.Sh
open Go.RowKit

theorem findR_mem {l : List (Int × Int)} (hp : l.Pairwise fun a b => a.1 < b.1) {e : Int × Int} (he : e ∈ l) : findR l e.1 = e.2 := by
  obtain ⟨j, hj, rfl⟩ := List.getElem_of_mem he
  refine findR_take hj (fun i hi hij h => ?_) rfl
  have := List.pairwise_iff_getElem.1 hp i j hi hj hij
  omega
theorem findR_not {l : List (Int × Int)} {v : Int} (h : ∀ e ∈ l, e.1 ≠ v) : findR l v = -1 := findR_none fun j hj => h _ (List.getElem_mem hj)
theorem findR_rows {n : Nat} {f : Nat → Int} {q : Nat → Bool} {v : Nat} (hv : v < n) (h0 : 0 ≤ f v) (hq : q v = true) : findR (rowsL n f q) (v : Int) = f v :=
  findR_mem (e := ((v : Int), f v)) (rowsL_pw n f q) (rowsL_mem.2 ⟨v, hv, h0, hq, rfl⟩)

section
variable {CV : CVT} {w : World}
end
end Go.Sh

/- What ways stand in for a place. -/
set_option maxRecDepth 100000
namespace Go.Sh
open Go.RowKit

section
variable {w w' : World} {n : Nat} {sI sL sO : SV} {inn lost : Nat → Int} {L : List Wy}
end
end Go.Sh

/- A way is put; a place is taken. -/
set_option maxRecDepth 100000
namespace Go.Sh
open Go.RowKit

section
variable {w w' : World} {n : Nat} {sI sL sO : SV} {inn lost : Nat → Int} {L : List Wy}

end
end Go.Sh

/- The reference hierarchy of a map. -/
set_option maxRecDepth 100000
namespace Go.Sh
open Go.RowKit

section
variable {E : Nat → Nat → Int → Prop} {arcs : List (Int × Int × Int)} {n k : Nat} {B : Int} {L H : List Wy} {r : Nat → Int}
end

end Go.Sh

/- The reference hierarchy of a map: its walk. -/
set_option maxRecDepth 100000
namespace Go.Sh
open Go.RowKit

section
variable {w : World} {n : Nat} {arcs : List Arc}
end
end Go.Sh

/- HierOfMaps. -/
set_option maxRecDepth 100000
namespace Go.Sh
open Go.RowKit

section
variable {w : World}
end
end Go.Sh

/- The reference's table: arc by arc, till nothing is nearer. -/
set_option maxRecDepth 100000
namespace Go.Sh
open Go.RowKit

section
variable {w : World} {N : Int} {s : SV} {arcs : List Arc}

end
end Go.Sh

/- SpaceTop, SpaceWithin, SpaceSteps: of maps. -/
set_option maxRecDepth 100000
namespace Go.Sh
open Go.RowKit

section
variable {rank : List Int} {ways : List Wy}
theorem ES_rise (ok : OkH rank ways) {top : Int} {back : Bool} {u v : Nat} {x : Int} (h : ES rank ways top back u v x) : rkA rank (u : Int) < rkA rank (v : Int) := by
  obtain ⟨k, hk, _, _, _, _, h5⟩ := ES_way ok h; omega
theorem wk_len (fit : FitH rank ways) {top : Int} {back : Bool} {u v : Nat} {x : Int} (h : Wk (ES rank ways top back) u v x) : x ≤ (rkA rank (v : Int) - rkA rank (u : Int)) * 1125899906842624 := by
  induction h with
  | nil => omega
  | snoc _ e ih =>
    have h1 := ES_rise fit.ok e
    obtain ⟨k, hk, _, _, h3, _⟩ := ES_way fit.ok e
    have := fit.b _ (List.getElem_mem hk)
    omega
end

section
variable {CV : CVT} {w : World}

end
end Go.Sh

/- Ways from a place down to another one, by what is above that; in plain lists. -/
set_option maxRecDepth 100000
namespace Go.Sh
open Go.RowKit

/-- A way by which a place is made up. -/
def PrevOk (rank : List Int) (ways : List Wy) (back : Bool) (f : Nat → Int) (v k : Nat) : Prop :=
  ∃ hk : k < ways.length, endV back ways[k] = (v : Int) ∧ rkA rank (endU back ways[k]) < rkA rank (v : Int) ∧ 0 ≤ f (endU back ways[k]).toNat ∧ f (endU back ways[k]).toNat + yW ways[k] = f v
/-- The least of these. -/
def IsPrev (rank : List Int) (ways : List Wy) (back : Bool) (f : Nat → Int) (v k : Nat) : Prop := PrevOk rank ways back f v k ∧ ∀ j, PrevOk rank ways back f v j → k ≤ j
/-- From a place down to s. -/
inductive Chn (rank : List Int) (ways : List Wy) (back : Bool) (f : Nat → Int) (s : Nat) : Nat → List Int → Prop
  | nil : Chn rank ways back f s s []
  | cons {v k u : Nat} {l : List Int} (hv : v ≠ s) (h : IsPrev rank ways back f v k) (hk : k < ways.length) (hu : endU back ways[k] = (u : Int)) (c : Chn rank ways back f s u l) : Chn rank ways back f s v ((k : Int) :: l)

section
variable {rank : List Int} {ways : List Wy} {back : Bool} {f : Nat → Int} {s v k : Nat} {l : List Int}
theorem end_in (ok : OkH rank ways) (hk : k < ways.length) (back : Bool) : 0 ≤ endU back ways[k] ∧ endU back ways[k] < rank.length ∧ 0 ≤ endV back ways[k] ∧ endV back ways[k] < rank.length := by
  have hf := ok.f k hk; unfold OkF at hf
  unfold endU endV
  cases back with
  | true => simp only [if_true]; omega
  | false => simp only [Bool.false_eq_true, if_false]; omega
theorem IsPrev.uniq {j : Nat} (h : IsPrev rank ways back f v k) (g : IsPrev rank ways back f v j) : k = j := Nat.le_antisymm (h.2 j g.1) (g.2 k h.1)
theorem Chn.det (h : Chn rank ways back f s v l) : ∀ {l'}, Chn rank ways back f s v l' → l = l' := by
  induction h with
  | nil =>
    intro l' g
    cases g with
    | nil => rfl
    | cons hv _ _ _ _ => exact absurd rfl hv
  | cons hv h hk hu c ih =>
    intro l' g
    cases g with
    | nil => exact absurd rfl hv
    | cons _ h' hk' hu' c' =>
      have := h.uniq h'
      subst this
      rw [hu] at hu'
      have := Int.ofNat_inj.1 hu'
      subst this
      rw [ih c']
theorem prev_ex (ok : OkH rank ways) {top : Int} (hf : ∀ v, IsD (ES rank ways top back) s v (f v)) (hpos : ∀ u v x, ES rank ways top back u v x → 0 ≤ x) (hv : v ≠ s) (h0 : 0 ≤ f v) : ∃ k, PrevOk rank ways back f v k := by
  have hw := (hf v).wk h0
  generalize hd : f v = d at hw
  cases hw with
  | nil => exact absurd rfl hv
  | @snoc u _ x y w e =>
    obtain ⟨k, hk, k1, k2, k3, _, k5⟩ := ES_way ok e
    refine ⟨k, hk, k2, by rw [k1]; omega, ?_⟩
    have hu := (hf u).min w
    have hmin := (hf v).min ((hf u).wk hu.1 |>.snoc e)
    rw [k1, Int.toNat_natCast, k3]
    exact ⟨hu.1, by omega⟩
theorem prev_least (h : ∃ k, PrevOk rank ways back f v k) : ∃ k, IsPrev rank ways back f v k := by
  classical
  obtain ⟨k, hk⟩ := h
  induction k using Nat.strongRecOn with
  | ind k ih =>
    by_cases hj : ∃ j, j < k ∧ PrevOk rank ways back f v j
    · obtain ⟨j, h1, h2⟩ := hj; exact ih j h1 h2
    · exact ⟨k, hk, fun j hj2 => Nat.le_of_not_lt fun hlt => hj ⟨j, hlt, hj2⟩⟩
theorem Chn.ex (ok : OkH rank ways) {top : Int} (hf : ∀ v, IsD (ES rank ways top back) s v (f v)) (hpos : ∀ u v x, ES rank ways top back u v x → 0 ≤ x) : ∀ (r v : Nat), rkA rank (v : Int) < r → v < rank.length → 0 ≤ f v → ∃ l, Chn rank ways back f s v l ∧ l.length < r := by
  intro r
  induction r with
  | zero =>
    intro v hr hv
    have := okR_rk ok hv; omega
  | succ r ih =>
    intro v hr hvn h0
    by_cases hv : v = s
    · subst hv; exact ⟨[], .nil, by simp⟩
    · obtain ⟨k, hk⟩ := prev_least (prev_ex ok hf hpos hv h0)
      obtain ⟨hkl, h1, h2, h3, h4⟩ := id hk.1
      obtain ⟨e1, e2, _, _⟩ := end_in ok hkl back
      obtain ⟨u, hu⟩ := Int.eq_ofNat_of_zero_le e1
      rw [hu] at h2 h3 e2
      rw [Int.toNat_natCast] at h3
      obtain ⟨l, c, hl⟩ := ih u (by omega) (by omega) h3
      exact ⟨_, .cons hv hk hkl hu c, by simp only [List.length_cons]; omega⟩

/-- Ways, one behind the other. -/
inductive WW (ways : List Wy) : Int → List Int → Int → Int → Prop
  | nil {u : Int} : WW ways u [] u 0
  | cons {k : Nat} {l : List Int} {v x : Int} (hk : k < ways.length) (c : WW ways (yT ways[k]) l v x) : WW ways (yF ways[k]) ((k : Int) :: l) v (yW ways[k] + x)
theorem WW.of_eq {u v x y : Int} (h : WW ways u l v x) (e : x = y) : WW ways u l v y := e ▸ h
theorem WW.app {u v z x y : Int} {m : List Int} (h : WW ways u l v x) (g : WW ways v m z y) : WW ways u (l ++ m) z (x + y) := by
  induction h with
  | nil => exact g.of_eq (by omega)
  | cons hk c ih => exact (WW.cons hk (ih g)).of_eq (by omega)
theorem WW.one (hk : k < ways.length) : WW ways (yF ways[k]) [(k : Int)] (yT ways[k]) (yW ways[k]) := (WW.cons hk .nil).of_eq (by omega)
theorem Chn.up (h : Chn rank ways false f s v l) (hs : f s = 0) : WW ways (s : Int) l.reverse (v : Int) (f v) := by
  induction h with
  | nil => exact WW.nil.of_eq hs.symm
  | @cons v k u l hv h hk hu c ih =>
    obtain ⟨_, h1, h2, h3, h4⟩ := h.1
    have e1 : yF ways[k] = (u : Int) := hu
    have e2 : yT ways[k] = (v : Int) := h1
    rw [hu, Int.toNat_natCast] at h4
    have := ih.app (e1 ▸ WW.one hk)
    rw [List.reverse_cons, ← h4, ← e2]
    exact this
theorem Chn.dn (h : Chn rank ways true f s v l) (hs : f s = 0) : WW ways (v : Int) l (s : Int) (f v) := by
  induction h with
  | nil => exact WW.nil.of_eq hs.symm
  | @cons v k u l hv h hk hu c ih =>
    obtain ⟨_, h1, h2, h3, h4⟩ := h.1
    have e1 : yT ways[k] = (u : Int) := hu
    have e2 : yF ways[k] = (v : Int) := h1
    rw [hu, Int.toNat_natCast] at h4
    have := WW.cons hk (e1 ▸ ih)
    rw [e2] at this
    exact this.of_eq (by omega)
/-- All ways of a chain lead down. -/
theorem Chn.rank_ (h : Chn rank ways back f s v l) : ∀ x ∈ l, ∃ k : Nat, x = (k : Int) ∧ ∃ hk : k < ways.length, rkA rank (endU back ways[k]) < rkA rank (endV back ways[k]) := by
  induction h with
  | nil => intro x hx; simp at hx
  | @cons v k u l hv h hk hu c ih =>
    intro x hx
    rcases List.mem_cons.1 hx with rfl | hx
    · obtain ⟨_, h1, h2, _⟩ := h.1
      exact ⟨k, rfl, hk, by rw [h1]; exact h2⟩
    · exact ih x hx

/-- The chain of a place. -/
noncomputable def chnF (rank : List Int) (ways : List Wy) (back : Bool) (s : Nat) (v : Nat) : List Int := by
  classical exact if h : ∃ l, Chn rank ways back (clF rank ways rank.length back s) s v l then h.choose else []
theorem chnF_is (fit : FitH rank ways) (hs : s < rank.length) (hv : v < rank.length) (h0 : 0 ≤ clF rank ways rank.length back s v) : Chn rank ways back (clF rank ways rank.length back s) s v (chnF rank ways back s v) ∧ (chnF rank ways back s v).length < rank.length := by
  have hrk := okR_rk fit.ok hv
  obtain ⟨l, hl, hlen⟩ := Chn.ex fit.ok (clF_is fit hs) (ES_pos fit) rank.length v (by omega) hv h0
  have hx : ∃ l, Chn rank ways back (clF rank ways rank.length back s) s v l := ⟨l, hl⟩
  have he : chnF rank ways back s v = hx.choose := by unfold chnF; rw [dif_pos hx]
  have hc := hx.choose_spec
  rw [he]
  exact ⟨hc, by rw [hc.det hl]; exact hlen⟩
theorem cl_self (fit : FitH rank ways) (hs : s < rank.length) : clF rank ways rank.length back s s = 0 := (clF_is fit hs s).uniq (IsD.self (ES_pos fit))
/-- Is there one? -/
def ClIn (rank : List Int) (ways : List Wy) (back : Bool) (s m : Int) : Prop := 0 ≤ s ∧ s < rank.length ∧ 0 ≤ m ∧ m < rank.length ∧ 0 ≤ clF rank ways rank.length back s m.toNat
noncomputable def climbL (rank : List Int) (ways : List Wy) (s m : Int) : List Int := by
  classical exact if ClIn rank ways false s m then (chnF rank ways false s.toNat m.toNat).reverse else []
noncomputable def fallL (rank : List Int) (ways : List Wy) (m t : Int) : List Int := by
  classical exact if ClIn rank ways true t m then chnF rank ways true t.toNat m.toNat else []
noncomputable def clB (rank : List Int) (ways : List Wy) (back : Bool) (s m : Int) : Bool := by
  classical exact decide (ClIn rank ways back s m)
theorem clIn_iff {s m : Int} : ClIn rank ways back s m ↔ 0 ≤ m ∧ m < rank.length ∧ 0 ≤ clF rank ways rank.length back s m.toNat := by
  unfold ClIn
  constructor
  · exact fun h => h.2.2
  · intro h
    by_cases hs : 0 ≤ s ∧ s < rank.length
    · exact ⟨hs.1, hs.2, h⟩
    · rw [clF_no hs] at h; omega
theorem clB_t {s m : Int} (h : ClIn rank ways back s m) : clB rank ways back s m = true := by unfold clB; simp [h]
theorem clB_f {s m : Int} (h : ¬ ClIn rank ways back s m) : clB rank ways back s m = false := by unfold clB; simp [h]
theorem climbL_len (fit : FitH rank ways) (s m : Int) : (climbL rank ways s m).length ≤ rank.length := by
  unfold climbL
  split
  · rename_i h
    obtain ⟨h1, h2, h3, h4, h5⟩ := h
    obtain ⟨a, rfl⟩ := Int.eq_ofNat_of_zero_le h1
    obtain ⟨b, rfl⟩ := Int.eq_ofNat_of_zero_le h3
    have := (chnF_is (back := false) fit (show a < rank.length by omega) (show b < rank.length by omega) h5).2
    simp only [Int.toNat_natCast, List.length_reverse] at this ⊢
    omega
  · simp
theorem fallL_len (fit : FitH rank ways) (m t : Int) : (fallL rank ways m t).length ≤ rank.length := by
  unfold fallL
  split
  · rename_i h
    obtain ⟨h1, h2, h3, h4, h5⟩ := h
    obtain ⟨a, rfl⟩ := Int.eq_ofNat_of_zero_le h1
    obtain ⟨b, rfl⟩ := Int.eq_ofNat_of_zero_le h3
    have := (chnF_is (back := true) fit (show a < rank.length by omega) (show b < rank.length by omega) h5).2
    simp only [Int.toNat_natCast] at this ⊢
    omega
  · simp
end
end Go.Sh

/- Slices: a copy, turned round, cut by the last. -/
set_option maxRecDepth 100000
namespace Go.Sh
open Go.RowKit

section
variable {w : World} {s : SV} {xs : List Int}
theorem Own.of_blk {α : Type} {R : Rc α} {b : Nat} {l : List α} (h : Blk w b (R.flat l)) : Own R w ⟨some ⟨b, 0, none⟩, l.length, l.length⟩ l := ⟨[], rfl, rfl, .inr ⟨b, rfl, by rw [List.append_nil]; exact h⟩⟩
theorem own_one {b : Nat} {x : Int} (h : Blk w b [.int .i64 x]) : Own RI w ⟨some ⟨b, 0, none⟩, 1, 1⟩ [x] := Own.of_blk (R := RI) (l := [x]) h
theorem View.none_nil {α : Type} {R : Rc α} {l : List α} (h : View R w s l) (hn : s.a = none) : l = [] := by
  cases l with
  | nil => rfl
  | cons x l =>
    obtain ⟨p, hp, _⟩ := h.at_ 0 x rfl
    rw [hn] at hp; cases hp

theorem Clone_ok {K : SV → World → Prop} (h : View RI w s xs) (hn : xs.length < 2 ^ 40) (hk : ∀ t w', Ext w w' → Own RI w' t xs → Fsh w t → K t w') : sh_slices_Clone_int_int s K w := by
  unfold sh_slices_Clone_int_int
  cases hs : s.a with
  | none =>
    have := h.none_nil hs
    subst this
    exact hk _ w (.refl _) Own.nil fsh_nil
  | some a =>
    simp only [Option.isNone_some, cond_false]
    intro b1 w2 e2 g1 hB
    have ho : Own RI w2 ⟨some ⟨b1, 0, none⟩, 0, 0⟩ [] := Own.of_blk (R := RI) (l := []) hB
    have z2 := e2.size
    refine Own.app (R := RI) ho (h.ext e2) (by simp only [List.length_nil]; omega) (by simp only [List.length_nil]; omega) fun t w4 c4 ht hO => ?_
    rw [List.nil_append] at hO
    have fb : ∀ k, SV.blk ⟨some ⟨b1, 0, none⟩, 0, 0⟩ k → w.heap.size ≤ k := fun k ⟨p, hp, hq⟩ => by cases hp; rw [← hq]; exact g1
    refine hk t w4 (ext_chg e2 c4 fb) hO fun k hk => ?_
    rcases ht k hk with h' | h'
    · exact fb k h'
    · omega

theorem fi_self (xs : List Int) : xs = fi xs.length fun p => xs.getD p 0 := by
  apply List.ext_getElem
  · rw [fi_len]
  · intro i h1 h2
    rw [fi_get, List.getD_eq_getElem?_getD, List.getElem?_eq_getElem h1]; rfl
theorem Reverse_ok {K : World → Prop} (h : Own RI w s xs) (hn : xs.length < 2 ^ 40) (hk : ∀ w', Chg s.blk w w' → Own RI w' s xs.reverse → K w') : sh_slices_Reverse_int_int s K w := by
  unfold sh_slices_Reverse_int_int
  have hl := h.view.len
  let n := xs.length
  let f := fun (i p : Nat) => if p < i ∨ n < p + 1 + i then xs.getD (n - 1 - p) 0 else xs.getD p 0
  have fin : ∀ i, n ≤ 2 * i + 1 → fi n (f i) = xs.reverse := fun i hi => by
    apply List.ext_getElem
    · rw [fi_len, List.length_reverse]
    · intro p h1 h2
      rw [fi_get, List.getElem_reverse]
      have hp : p < n := by rw [fi_len] at h1; exact h1
      show (if p < i ∨ n < p + 1 + i then xs.getD (n - 1 - p) 0 else xs.getD p 0) = xs[n - 1 - p]
      by_cases q : p < i ∨ n < p + 1 + i
      · rw [if_pos q, List.getD_eq_getElem?_getD, List.getElem?_eq_getElem (show n - 1 - p < xs.length by omega)]; rfl
      · rw [if_neg q, List.getD_eq_getElem?_getD, List.getElem?_eq_getElem hp]
        simp only [Option.getD_some]
        congr 1; omega
  have h0 : Own RI w s (fi n (f 0)) := by
    have : fi n (f 0) = xs := by
      conv => rhs; rw [fi_self xs]
      refine fi_congr fun p hp => ?_
      show (if p < 0 ∨ n < p + 1 + 0 then _ else _) = _
      rw [if_neg (by omega)]
    rw [this]; exact h
  refine LoopT.gh (γ := Nat) (fun i (st : Int × Int × Unit) w' => st.1 = i ∧ st.2.1 = (n : Int) - 1 - i ∧ 2 * i ≤ n + 1 ∧ Chg s.blk w w' ∧ Own RI w' s (fi n (f i))) (fun i => n + 1 - i) 0 ⟨rfl, by dsimp only; rw [hl, w64 (by omega) (by omega)]; omega, by omega, .refl _ _, h0⟩ ?_
  rintro i ⟨x, y, _⟩ w3 ⟨hx, hy, hi, c3, hO⟩ J1 hJ1
  simp only at hx hy; subst hx hy
  dsimp only
  rw [Bool.cond_decide]
  by_cases hc : (i : Int) < (n : Int) - 1 - i
  · rw [if_pos hc]
    have hin : i < n := by omega
    have hjn : n - 1 - i < n := by omega
    have hj : (n : Int) - 1 - i = ((n - 1 - i : Nat) : Int) := by omega
    rw [hj]
    have fi1 : f i i = xs.getD i 0 := if_neg (by omega)
    have fj1 : f i (n - 1 - i) = xs.getD (n - 1 - i) 0 := if_neg (by omega)
    refine fi_rd hO.view hjn fun _ a0 => ⟨_, a0, fi_rd hO.view hin fun _ a1 => ⟨_, a1, ?_⟩⟩
    rw [fi1, fj1]
    refine fi_wr hO hin fun p put w9 e9 => put w9 _ _ (hO.ext e9) fun w10 c10 hO10 => ?_
    refine fi_wr hO10 hjn fun p put w12 e12 => put w12 _ _ (hO10.ext e12) fun w13 c13 hO13 w14 e14 => ?_
    have cc : Chg s.blk w w14 := ((((c3.trans (.of_ext (F := fun _ => False) e9) fun _ _ h => h.elim).trans c10 fun _ _ h => h).trans (.of_ext (F := fun _ => False) e12) fun _ _ h => h.elim).trans c13 fun _ _ h => h).trans (.of_ext (F := fun _ => False) e14) fun _ _ h => h.elim
    refine hJ1 (i + 1) _ _ ⟨wsucc (m := 2 ^ 40) (by omega) (by omega), by dsimp only; rw [w64 (by omega) (by omega)]; omega, by omega, cc, ?_⟩ (by omega)
    have e : fi n (fun j => if j = n - 1 - i then xs.getD i 0 else if j = i then xs.getD (n - 1 - i) 0 else f i j) = fi n (f (i + 1)) := fi_congr fun j hj => by
      show _ = if j < i + 1 ∨ n < j + 1 + (i + 1) then xs.getD (n - 1 - j) 0 else xs.getD j 0
      by_cases q1 : j = n - 1 - i
      · rw [if_pos q1, if_pos (by omega), show n - 1 - j = i by omega]
      · rw [if_neg q1]
        by_cases q2 : j = i
        · subst q2; rw [if_pos rfl, if_pos (by omega)]
        · rw [if_neg q2]
          show (if j < i ∨ n < j + 1 + i then _ else _) = _
          by_cases q3 : j < i ∨ n < j + 1 + i
          · rw [if_pos q3, if_pos (by omega)]
          · rw [if_neg q3, if_neg (by omega)]
    rw [← e]; exact hO13.ext e14
  · rw [if_neg hc]
    refine hk w3 c3 ?_
    rw [← fin i (by omega)]; exact hO

/-- s[:n-1] of an owned slice. -/
theorem Own.cutL {α : Type} {R : Rc α} {l : List α} {x : α} (h : Own R w s (l ++ [x])) {K : SV → Prop} (hk : ∀ t, Own R w t l → t.a = s.a → K t) : semSlice R.sz s.a s.len s.cap none (some ((l.length : Nat) : Int)) K := by
  obtain ⟨rest, h1, h2, h3⟩ := h
  simp only [List.length_append, List.length_cons, List.length_nil] at h1 h2
  unfold semSlice
  simp only [Option.getD_some, Option.getD_none, Int.toNat_natCast, Int.toNat_zero, Nat.sub_zero, Nat.zero_mul]
  refine ⟨by omega, fun y hy => by injection hy with hy; omega, by omega, by omega, ?_⟩
  rcases h3 with ⟨_, h, _⟩ | ⟨b, hb, hB⟩
  · exact absurd h (by simp)
  · rw [if_neg (by omega), hb]
    simp only [Option.map_some, addm, Nat.add_zero]
    exact hk _ ⟨x :: rest, rfl, by simp only [List.length_cons]; omega, .inr ⟨b, rfl, by simpa using hB⟩⟩ (by rw [hb])
end
end Go.Sh

/- Ways up, and down: the program. -/
set_option maxRecDepth 100000
namespace Go.Sh
open Go.RowKit

/-- What is known of unpack's function values. -/
structure HFindCV (CV : CVT) : Prop where
  hf : ∀ h u v K w, sh_hier_Hier_Find h u v (fun x w' => K (.int .i64 x) w') w → CV (.func (.func fn_hier_Hier_Find) #[.pointer h] #[]) [.int .i64 u, .int .i64 v] K w
  ff : ∀ u v a K w, sh_unpack_Fall_c1 u v a (fun x w' => K (.int .i64 x) w') w → CV (.func (.func fn_unpack_Fall_c1) #[] #[.pointer (some a)]) [.int .i64 u, .int .i64 v] K w
structure ChainCV (CV : CVT) : Prop where
  long : ∀ k a K w, sh_unpack_chain_c1 k a (fun x w' => K (.int .i64 x) w') w → CV (.func (.func fn_unpack_chain_c1) #[] #[.pointer (some a)]) [.int .i64 k] K w
  find : ∃ CV1, HFindCV CV1 ∧ ∀ u a b c K w, sh_unpack_chain_c2 CV1 u a b c (fun x w' => K (.int .i64 x) w') w →
    CV (.func (.func fn_unpack_chain_c2) #[] #[.pointer (some a), .pointer (some b), .pointer (some c)]) [.int .i64 u] K w

/-- The way between two places, from the lower one up (down to it); below 0: there is none. -/
def uWay (ways : List Wy) (back : Bool) (u v : Int) : Int := ofN (findW ways (if back = true then v else u) (if back = true then u else v))
/-- .. if the one is lower. -/
def uGo (rank : List Int) (ways : List Wy) (back : Bool) (v u : Int) : Int := if rankF rank u ≥ rankF rank v then -1 else uWay ways back u v
section
variable {rank : List Int} {ways : List Wy} {back : Bool}
theorem rankF_in {v : Nat} (hv : v < rank.length) : rankF rank (v : Int) = rkA rank (v : Int) := by unfold rankF; rw [if_pos (by omega)]
theorem uGo_some (ok : OkH rank ways) {u v : Nat} (hu : u < rank.length) (hv : v < rank.length) (h0 : 0 ≤ uGo rank ways back v u) : ∃ k : Nat, ∃ hk : k < ways.length, uGo rank ways back v u = (k : Int) ∧ endU back ways[k] = (u : Int) ∧ endV back ways[k] = (v : Int) ∧ rkA rank (u : Int) < rkA rank (v : Int) := by
  unfold uGo at h0 ⊢
  rw [rankF_in hu, rankF_in hv] at h0 ⊢
  by_cases hr : rkA rank (u : Int) ≥ rkA rank (v : Int)
  · rw [if_pos hr] at h0; omega
  · rw [if_neg hr] at h0 ⊢
    unfold uWay at h0 ⊢
    cases hf : findW ways (if back = true then (v : Int) else u) (if back = true then (u : Int) else v) with
    | none => rw [hf] at h0; exact absurd h0 (by decide)
    | some k =>
      obtain ⟨hk, h1, h2, _⟩ := findW_some hf
      refine ⟨k, hk, rfl, ?_, ?_, by omega⟩
      · unfold endU; cases back <;> simpa using (by first | exact h1 | exact h2)
      · unfold endV; cases back <;> simpa using (by first | exact h2 | exact h1)
theorem uGo_of (ok : OkH rank ways) {u v k : Nat} (hu : u < rank.length) (hv : v < rank.length) (hk : k < ways.length) (h1 : endU back ways[k] = (u : Int)) (h2 : endV back ways[k] = (v : Int)) (h3 : rkA rank (u : Int) < rkA rank (v : Int)) : uGo rank ways back v u = (k : Int) := by
  unfold uGo
  rw [rankF_in hu, rankF_in hv, if_neg (by omega)]
  unfold uWay
  have := ok.f.find hk
  have e : findW ways (if back = true then (v : Int) else u) (if back = true then (u : Int) else v) = some k := by
    rw [← h1, ← h2]
    unfold endU endV
    cases back <;> simpa using this
  rw [e]; rfl
end

section
variable {CV : CVT} {w : World} {p : Option Addr} {rank : List Int} {ways : List Wy} {F : Nat → Prop} {back : Bool}
theorem ubefore_ok (fit : FitH rank ways) {s v : Nat} (hs : s < rank.length) (hv : v < rank.length) (hne : v ≠ s) (h0 : 0 ≤ clF rank ways rank.length back s v) {find0 long0 : Value} {reach : SV} {K : Int → Int → World → Prop}
    (h : View RE w reach (rowsL rank.length (clF rank ways rank.length back s) fun _ => true))
    (hfind : ∀ w1, Ext w w1 → ∀ u : Nat, u < rank.length → ∀ K' : Value → World → Prop, (∀ w'', Ext w1 w'' → K' (.int .i64 (uGo rank ways back v u)) w'') → CV find0 [.int .i64 (u : Int)] K' w1)
    (hlong : ∀ w1, Ext w w1 → ∀ (k : Nat) (hk : k < ways.length), ∀ K' : Value → World → Prop, (∀ w'', Ext w1 w'' → K' (.int .i64 (yW ways[k])) w'') → CV long0 [.int .i64 (k : Int)] K' w1)
    (hk : ∀ (k u : Nat) w' (hk : k < ways.length), Ext w w' → IsPrev rank ways back (clF rank ways rank.length back s) v k → endU back ways[k] = (u : Int) → K (k : Int) (u : Int) w') : sh_unpack_before CV reach (v : Int) find0 long0 K w := by
  have hn := fit.n
  have lrow := rowsL_len rank.length (clF rank ways rank.length back s) fun _ => true
  have hl := h.len
  have hb : ∀ u, u < rank.length → clF rank ways rank.length back s u < 2 ^ 62 := fun u hu => by
    rcases (clF_is (top := (rank.length : Int)) (back := back) fit hs u).ge with q | q
    · omega
    · have a := wk_len fit ((clF_is (top := (rank.length : Int)) (back := back) fit hs u).wk q)
      have := okR_rk fit.ok hu; have := okR_rk fit.ok hs
      omega
  unfold sh_unpack_before
  refine Find_ok h (by omega) fun w2 e2 => ?_
  have hfr : findR (rowsL rank.length (clF rank ways rank.length back s) fun _ => true) (v : Int) = clF rank ways rank.length back s v := findR_rows hv h0 rfl
  rw [hfr]
  generalize hL : rowsL rank.length (clF rank ways rank.length back s) (fun _ => true) = L at h lrow hl
  have hmem : ∀ e : Int × Int, e ∈ L ↔ ∃ u : Nat, u < rank.length ∧ 0 ≤ clF rank ways rank.length back s u ∧ e = ((u : Int), clF rank ways rank.length back s u) := fun e => by
    rw [← hL, rowsL_mem]
    exact ⟨fun ⟨u, a, b, _, d⟩ => ⟨u, a, b, d⟩, fun ⟨u, a, b, d⟩ => ⟨u, a, b, rfl, d⟩⟩
  let Cd := fun (e : Int × Int) (k : Nat) => ∃ hk : k < ways.length, uGo rank ways back v e.1 = (k : Int) ∧ e.2 + yW ways[k] = clF rank ways rank.length back s v
  let Bst := fun (i : Nat) (b fr : Int) => (b = -1 ∧ ∀ e ∈ L.take i, ∀ k, ¬ Cd e k) ∨ ∃ k : Nat, ∃ hk : k < ways.length, b = (k : Int) ∧ fr = endU back ways[k] ∧ PrevOk rank ways back (clF rank ways rank.length back s) v k ∧ ∀ e ∈ L.take i, ∀ j, Cd e j → k ≤ j
  refine Join.cut (fun (t : Int × Int × Unit) w' => Ext w w' ∧ Bst L.length t.1 t.2.1) (fun J hJ => ?_) ?_
  · refine LoopT.gh (γ := Nat) (fun i (st : Int × Int × Int × Unit) w' => st.2.2.1 = i ∧ i ≤ L.length ∧ Ext w w' ∧ Bst i st.1 st.2.1) (fun i => L.length - i) 0 ⟨rfl, Nat.zero_le _, e2, .inl ⟨rfl, fun e he => by simp at he⟩⟩ ?_
    rintro i ⟨b, fr, x, _⟩ w6 ⟨hx, hi, e6, hB⟩ J1 hJ1
    simp only at hx; subst hx
    dsimp only at hB ⊢
    rw [Bool.cond_decide]
    by_cases hc : (i : Int) < (reach.len : Int)
    · rw [if_pos hc]
      have hi' : i < L.length := by omega
      obtain ⟨u, hu, hu0, hLe⟩ := (hmem _).1 (List.getElem_mem hi')
      have htk : L.take (i + 1) = L.take i ++ [L[i]] := take_snoc' hi'
      refine re_idx (h.ext e6) (i := i) hi' fun _ a0 a1 => ⟨_, a0, _, a1, ?_⟩
      intro b10 w11 e11 g10 g10' w12 o12
      have z11 := e11.size; have z12 := o12.size
      have e12 : Ext w w12 := ext_off (e6.trans e11) o12 (by have := e6.size; omega)
      rw [hLe]
      have same : (∀ k, ¬ Cd L[i] k) ∨ (∃ j, Cd L[i] j ∧ 0 ≤ b ∧ b ≤ j) → ∀ w', Ext w12 w' → J1 (b, fr, IntKind.i64.wrap ((i : Int) + 1), ()) w' := fun hs w' e' => by
        refine hJ1 (i + 1) _ _ ⟨wsucc (m := 2 ^ 40) (by omega) (by omega), by omega, e12.trans e', ?_⟩ (by omega)
        dsimp only
        rcases hB with ⟨h1, h2⟩ | ⟨k, hk', h1, h2, h3, h4⟩
        · left
          refine ⟨h1, fun e he k hcd => ?_⟩
          rw [htk, List.mem_append, List.mem_singleton] at he
          rcases he with he | rfl
          · exact h2 e he k hcd
          · rcases hs with hs | ⟨j, _, hb0, _⟩
            · exact hs k hcd
            · omega
        · refine .inr ⟨k, hk', h1, h2, h3, fun e he j hcd => ?_⟩
          rw [htk, List.mem_append, List.mem_singleton] at he
          rcases he with he | rfl
          · exact h4 e he j hcd
          · rcases hs with hs | ⟨j', hcd', _, hbj⟩
            · exact absurd hcd (hs j)
            · obtain ⟨_, g1, _⟩ := hcd; obtain ⟨_, g2, _⟩ := hcd'
              rw [g1] at g2
              omega
      refine hfind w12 e12 u hu _ fun w15 e15 => ⟨_, rfl, kp1 e15 (by omega), ?_⟩
      have z15 := e15.size
      rw [Bool.cond_decide]
      by_cases hg : uGo rank ways back (v : Int) (u : Int) ≥ 0
      · rw [if_pos hg]
        intro w18 e18
        have z18 := e18.size
        obtain ⟨k, hkl, g1, g2, g3, g4⟩ := uGo_some fit.ok hu hv hg
        rw [g1]
        have hwb := fit.b _ (List.getElem_mem hkl)
        have hf := fit.ok.f k hkl; unfold OkF at hf
        have hub := hb u hu
        refine hlong w18 ((e12.trans e15).trans e18) k hkl _ fun w19 e19 => ⟨_, rfl, kp1 e19 (by omega), ?_⟩
        have e1219 := (e15.trans e18).trans e19
        rw [w64 (by omega) (by omega)]
        by_cases heq : clF rank ways rank.length back s u + yW ways[k] = clF rank ways rank.length back s v
        · rw [show ((clF rank ways rank.length back s u + yW ways[k]) == clF rank ways rank.length back s v) = true by rw [beq_iff_eq]; exact heq, cond_true]
          have hcd : Cd L[i] k := by rw [hLe]; exact ⟨hkl, g1, heq⟩
          have hpk : PrevOk rank ways back (clF rank ways rank.length back s) v k := ⟨hkl, g3, by rw [g2]; exact g4, by rw [g2, Int.toNat_natCast]; exact hu0, by rw [g2, Int.toNat_natCast]; exact heq⟩
          have take_ : (b < 0 ∨ (k : Int) < b) → ∀ w', Ext w12 w' → J1 ((k : Int), (u : Int), IntKind.i64.wrap ((i : Int) + 1), ()) w' := fun hlt w' e' => by
            refine hJ1 (i + 1) _ _ ⟨wsucc (m := 2 ^ 40) (by omega) (by omega), by omega, e12.trans e', .inr ⟨k, hkl, rfl, g2.symm, hpk, fun e he j hcd' => ?_⟩⟩ (by omega)
            rw [htk, List.mem_append, List.mem_singleton] at he
            rcases he with he | rfl
            · rcases hB with ⟨_, h2⟩ | ⟨k', _, h1, _, _, h4⟩
              · exact absurd hcd' (h2 e he j)
              · have := h4 e he j hcd'; omega
            · obtain ⟨_, g5, _⟩ := hcd'
              rw [hLe, g1] at g5; omega
          rw [Bool.cond_decide]; split
          · rename_i hb0
            exact fun w20 e20 w21 e21 => take_ (.inl hb0) w21 ((e1219.trans e20).trans e21)
          · rename_i hb0
            intro w22 e22
            rw [Bool.cond_decide]; split
            · rename_i hlt
              exact fun w23 e23 => take_ (.inr hlt) w23 ((e1219.trans e22).trans e23)
            · rename_i hlt
              exact same (.inr ⟨k, hcd, by omega, by omega⟩) w22 (e1219.trans e22)
        · rw [show ((clF rank ways rank.length back s u + yW ways[k]) == clF rank ways rank.length back s v) = false by rw [beq_eq_false_iff_ne]; exact heq, cond_false]
          intro w24 e24
          refine same (.inl fun j ⟨_, q1, q2⟩ => ?_) w24 (e1219.trans e24)
          rw [hLe, g1] at q1
          have := Int.ofNat_inj.1 q1
          subst this
          rw [hLe] at q2
          exact heq q2
      · rw [if_neg hg]
        intro w25 e25
        refine same (.inl fun j ⟨_, q1, _⟩ => ?_) w25 (e15.trans e25)
        rw [hLe] at q1
        simp only at q1; omega
    · rw [if_neg hc]
      have : i = L.length := by omega
      subst this
      exact hJ _ _ ⟨e6, hB⟩
  · rintro ⟨b, fr, _⟩ w27 ⟨e27, hB⟩
    dsimp only at hB ⊢
    have all : ∀ k, PrevOk rank ways back (clF rank ways rank.length back s) v k → ∃ e ∈ L.take L.length, Cd e k := fun k ⟨hkl, q1, q2, q3, q4⟩ => by
      obtain ⟨e1, e2', _, _⟩ := end_in fit.ok hkl back
      obtain ⟨u, hu⟩ := Int.eq_ofNat_of_zero_le e1
      rw [hu, Int.toNat_natCast] at q3 q4
      rw [hu] at q2 e2'
      rw [List.take_length]
      exact ⟨_, (hmem _).2 ⟨u, by omega, q3, rfl⟩, hkl, uGo_of fit.ok (by omega) hv hkl hu q1 q2, q4⟩
    rcases hB with ⟨_, h2⟩ | ⟨k, hkl, rfl, rfl, h3, h4⟩
    · obtain ⟨k, hkp⟩ := prev_ex fit.ok (clF_is fit hs) (ES_pos fit) hne h0
      obtain ⟨e, he, hcd⟩ := all k hkp
      exact absurd hcd (h2 e he k)
    · obtain ⟨e1, _, _, _⟩ := end_in fit.ok hkl back
      obtain ⟨u, hu⟩ := Int.eq_ofNat_of_zero_le e1
      rw [hu]
      refine hk k u w27 hkl e27 ⟨h3, fun j hj => ?_⟩ hu
      obtain ⟨e, he, hcd⟩ := all j hj
      exact h4 e he j hcd

theorem c1_ok {a : Addr} {k : Nat} {K : Int → World → Prop} (hH : HierA w p rank ways F) (ha : w.cell? a = some (.pointer p)) (hk : k < ways.length) (hK : ∀ w', Ext w w' → K (yW ways[k]) w') : sh_unpack_chain_c1 (k : Int) a K w := by
  unfold sh_unpack_chain_c1
  refine ⟨p, ha, HWay_ok hH (fun i hi hil w8 e8 => ?_) fun hno => absurd ⟨by omega, by omega⟩ hno⟩
  have : k = i := by omega
  subst this
  intro b9 w10 e10 g9 g9' w11 o11
  exact hK w11 (ext_off (e8.trans e10) o11 (by have := e8.size; omega))
theorem c2_ok {a1 a2 a3 : Addr} {u v : Int} {wv : Value} {K : Int → World → Prop} (hH : HierA w p rank ways F) (h1 : w.cell? a1 = some (.pointer p)) (h2 : w.cell? a2 = some (.int .i64 v)) (h3 : w.cell? a3 = some wv)
    (hw : ∀ w1, Ext w w1 → ∀ K' : Value → World → Prop, (∀ w'', Ext w1 w'' → K' (.int .i64 (uWay ways back u v)) w'') → CV wv [.int .i64 u, .int .i64 v] K' w1) (hK : ∀ w', Ext w w' → K (uGo rank ways back v u) w') : sh_unpack_chain_c2 CV u a1 a2 a3 K w := by
  unfold sh_unpack_chain_c2
  refine ⟨p, h1, Quiet.mk (rankF rank u) (fun w' e K' hK' => Rank_ok (hH.ext e) (hK' _ (.refl _))) ⟨p, h1, v, h2, Quiet.mk (rankF rank v) (fun w' e K' hK' => Rank_ok (hH.ext e) (hK' _ (.refl _))) fun w12 e12 => ?_⟩⟩
  unfold uGo at hK
  rw [Bool.cond_decide]; split
  · rename_i hr
    have := hK w12 e12
    rw [if_pos hr] at this; exact this
  · rename_i hr
    refine ⟨wv, e12.cell h3, v, e12.cell h2, hw w12 e12 _ fun w17 e17 => ⟨_, rfl, ?_⟩⟩
    have := hK w17 (e12.trans e17)
    rw [if_neg hr] at this; exact this

theorem chain_ok (hcv : ChainCV CV) (fit : FitH rank ways) (hH : HierA w p rank ways F) {s m : Nat} (hs : s < rank.length) (hm : m < rank.length) (h0 : 0 ≤ clF rank ways rank.length back s m) {wv : Value} {reach : SV} {K : SV → World → Prop}
    (hwv : ∃ g f c, wv = .func g f c) (h : View RE w reach (rowsL rank.length (clF rank ways rank.length back s) fun _ => true))
    (hway : ∀ CV1, HFindCV CV1 → ∀ w1, Ext w w1 → ∀ (u v : Int) (K' : Value → World → Prop), (∀ w'', Ext w1 w'' → K' (.int .i64 (uWay ways back u v)) w'') → CV1 wv [.int .i64 u, .int .i64 v] K' w1)
    (hk : ∀ t w', Ext w w' → Own RI w' t (chnF rank ways back s m) → Fsh w t → K t w') : sh_unpack_chain CV p reach (m : Int) (s : Int) wv K w := by
  obtain ⟨hC, hlen⟩ := chnF_is fit hs hm h0
  have hn := fit.n
  obtain ⟨CV1, hcv1, hc2⟩ := hcv.find
  unfold sh_unpack_chain
  intro b1 w2 e2 g1 g1' b3 w4 e4 g3 g3'
  have box : ∀ k : Prop, k → BoxV wv k := fun k hk => by obtain ⟨g, f, c, rfl⟩ := hwv; exact hk
  refine box _ ?_
  intro b5 w6 e6 g5 g5' h1 h3 h5
  have z2 := e2.size; have z4 := e4.size; have z6 := e6.size
  have e06 := (e2.trans e4).trans e6
  refine LoopT.gh (γ := Nat × List Int × List Int) (fun g (st : SV × Unit) w' => Ext w w' ∧ w6.heap.size ≤ w'.heap.size ∧ g.1 < rank.length ∧ 0 ≤ clF rank ways rank.length back s g.1 ∧ Chn rank ways back (clF rank ways rank.length back s) s g.1 g.2.2 ∧ g.2.1 ++ g.2.2 = chnF rank ways back s m ∧ Own RI w' st.1 g.2.1 ∧
    (∀ k, st.1.blk k → w6.heap.size ≤ k) ∧ Blk w' b1 [.pointer p] ∧ Blk w' b3 [.int .i64 (g.1 : Int)] ∧ Blk w' b5 [wv]) (fun g => g.2.2.length) (m, [], chnF rank ways back s m) ⟨e06, Nat.le_refl _, hm, h0, hC, rfl, Own.nil, (fun k ⟨q, hq, _⟩ => by cases hq), h1, h3, h5⟩ ?_
  rintro ⟨v, L, R⟩ ⟨t, _⟩ w9 ⟨e9, z9, hv, hv0, hCv, happ, hO, fO, h1, h3, h5⟩ J1 hJ1
  dsimp only at hv hv0 hCv happ hO fO h3 ⊢
  have c3 : ∀ {w' : World} {y : Int}, Blk w' b3 [.int .i64 y] → w'.cell? (⟨b3, 0, none⟩ : Addr) = some (.int .i64 y) := fun h => by rw [cell_blk h]; rfl
  have ne13 : b1 ≠ b3 := by omega
  have ne53 : b5 ≠ b3 := by omega
  refine ⟨_, c3 h3, ?_⟩
  have hLlen : L.length + R.length < rank.length := by rw [← List.length_append, happ]; exact hlen
  cases hCv with
  | nil =>
    rw [bne_self_eq_false, cond_false]
    rw [List.append_nil] at happ
    rw [happ] at hO
    exact hk t w9 e9 hO fun k hk => by have := fO k hk; omega
  | @cons _ k0 u0 l hne hp hkl hu c =>
    rw [show ((v : Int) != (s : Int)) = true by rw [bne_iff_ne]; omega, cond_true]
    refine ⟨_, c3 h3, ?_⟩
    have hH9 := hH.ext e9
    refine ubefore_ok (back := back) fit hs hv hne hv0 (h.ext e9) (fun w1 e1 u hu K' hK' => ?_) (fun w1 e1 k hk K' hK' => ?_) fun k u w14 hk' e14 hP hu' => ?_
    · refine hc2 _ _ _ _ _ _ (c2_ok (p := p) (back := back) (v := (v : Int)) (wv := wv) (hH9.ext e1) (by rw [cell_blk (e1.blkE h1)]; rfl) (c3 (e1.blkE h3)) (by rw [cell_blk (e1.blkE h5)]; rfl) (fun w2 e2 K2 hK2 => hway CV1 hcv1 w2 ((e9.trans e1).trans e2) _ _ K2 hK2) fun w' e' => hK' w' e')
    · exact hcv.long _ _ _ _ (c1_ok (p := p) (hH9.ext e1) (by rw [cell_blk (e1.blkE h1)]; rfl) hk fun w' e' => hK' w' e')
    · have hkk := hp.uniq hP
      subst hkk
      rw [hu] at hu'
      have := Int.ofNat_inj.1 hu'
      subst this
      obtain ⟨_, q1, q2, q3, _⟩ := hp.1
      rw [hu, Int.toNat_natCast] at q3
      have hun := (end_in fit.ok hkl back).2.1
      rw [hu] at hun
      have z14 := e14.size
      rw [Bool.cond_decide, if_neg (by omega)]
      simp only [List.length_cons] at hLlen
      refine push_ok (R := RI) (x := (k0 : Int)) (hO.ext e14) (by omega) (by omega) fun w16 s17 w18 e16 c18 hs17 hO17 => ?_
      have z16 := e16.size; have z18 := c18.size
      have nb : ∀ b, b < w6.heap.size → ¬ t.blk b := fun b hb hk => by have := fO b hk; omega
      have B1 := c18.blk ((e14.trans e16).blkE h1) (nb b1 (by omega))
      have B3 := c18.blk ((e14.trans e16).blkE h3) (nb b3 (by omega))
      have B5 := c18.blk ((e14.trans e16).blkE h5) (nb b5 (by omega))
      have f17 : ∀ k, s17.blk k → w6.heap.size ≤ k := fun k hk => by
        rcases hs17 k hk with q | q
        · exact fO k q
        · omega
      have e18 : Ext w w18 := ext_chg ((e9.trans e14).trans e16) c18 fun k hk => by have := fO k hk; omega
      refine stL_blk (b := b3) (o := 0) [.int .i64 (u0 : Int)] 0 w18 _ _ B3 (by simp) fun w19 o19 B3' => ?_
      have z19 := o19.size
      refine hJ1 (u0, L ++ [(k0 : Int)], l) _ w19 ⟨ext_off e18 o19 (by omega), by omega, by dsimp only; omega, q3, c, by rw [← happ]; simp, hO17.off o19 (fun hk => by have := f17 _ hk; omega), f17, B1.off o19 ne13, B3', B5.off o19 ne53⟩ (by simp only [List.length_cons]; omega)
end
end Go.Sh

/- HierTells. -/
set_option maxRecDepth 100000
namespace Go.Sh
open Go.RowKit

end Go.Sh

/- What a way opens to, and how deep: the reference, the program. -/
set_option maxRecDepth 100000
namespace Go.Sh
open Go.RowKit

theorem gN_some (k : Nat) : gN (some k) = (k : Int) := rfl
section
variable {rank : List Int} {ways : List Wy} {sr sy : SV} {w : World}
theorem maxI (a b : Nat) : (if (b : Int) > (a : Int) then (b : Int) else (a : Int)) = ((max a b : Nat) : Int) := by split <;> omega
end

section
variable {w : World} {p : Option Addr} {rank : List Int} {ways : List Wy} {F : Nat → Prop}
theorem DeepN_ok {k : Nat} {l : List Int} {d s : Nat} (hO : Opn ways k l d s) : ∀ n, d ≤ n → n ≤ 2 ^ 40 → ∀ (w : World) (K : Int → World → Prop), HierA w p rank ways F → (∀ w', Ext w w' → K (d : Int) w') → sh_unpack_Deep.n n p (k : Int) K w := by
  induction hO with
  | @arc k hk hm =>
    intro n hd _ w K hH hK
    obtain ⟨m, rfl⟩ : ∃ m, n = m + 1 := ⟨n - 1, by omega⟩
    unfold sh_unpack_Deep.n sh_unpack_Deep.step
    refine HWay_ok hH (fun i hi hil w7 e7 => ?_) fun hno => absurd ⟨by omega, by omega⟩ hno
    intro b8 w9 e9 g8 g8' w10 o10
    have z7 := e7.size; have z9 := e9.size; have z10 := o10.size
    have e10 : Ext w w10 := ext_off (e7.trans e9) o10 (by omega)
    rw [Bool.not_true, cond_false]
    refine HHalves_ok (hH.ext e10) (fun j hj hjl hne => ?_) fun _ w14 e14 => ⟨kp1 e14 (by omega), ?_⟩
    · have : k = j := by omega
      subst this; exact absurd hm hne
    rw [Bool.not_false, cond_true]
    exact hK w14 (e10.trans e14)
  | @mid k a b l m d e s t hk hm ha hb h1 h2 i1 i2 =>
    intro n hd h40 w K hH hK
    obtain ⟨n, rfl⟩ : ∃ m, n = m + 1 := ⟨n - 1, by omega⟩
    unfold sh_unpack_Deep.n sh_unpack_Deep.step
    refine HWay_ok hH (fun i hi hil w7 e7 => ?_) fun hno => absurd ⟨by omega, by omega⟩ hno
    intro b8 w9 e9 g8 g8' w10 o10
    have z7 := e7.size; have z9 := e9.size; have z10 := o10.size
    have e10 : Ext w w10 := ext_off (e7.trans e9) o10 (by omega)
    rw [Bool.not_true, cond_false]
    refine HHalves_ok (hH.ext e10) (fun j hj hjl hne w14 e14 => ⟨kp1 e14 (by omega), ?_⟩) fun hno => absurd (hno k rfl hk) hm
    have : k = j := by omega
    subst this
    have z14 := e14.size
    rw [ha, hb, gN_some, gN_some]
    simp only [Option.isSome_some, Bool.and_self, Bool.not_true, cond_false]
    refine i1 n (by omega) (by omega) w14 _ (hH.ext (e10.trans e14)) fun w16 e16 => ⟨kp1 e16 (by omega), ?_⟩
    have z16 := e16.size
    refine i2 n (by omega) (by omega) w16 _ (hH.ext ((e10.trans e14).trans e16)) fun w18 e18 => ⟨kp1 e18 (by omega), ?_⟩
    have := hK w18 (((e10.trans e14).trans e16).trans e18)
    rw [maxI, w64 (by omega) (by omega)]
    rw [show (1 : Int) + ((max d e : Nat) : Int) = ((1 + max d e : Nat) : Int) by omega]
    exact this
theorem Deep_ok {k : Int} {K : Int → World → Prop} (hH : HierA w p rank ways F) (hK : ∀ w', Ext w w' → K (deepF ways k) w') : sh_unpack_Deep p k K w := by
  have ok := hH.ok
  have hkk := ok.k
  by_cases hk : 0 ≤ k ∧ k < (ways.length : Int)
  · obtain ⟨k, rfl⟩ := Int.eq_ofNat_of_zero_le hk.1
    obtain ⟨l, d, s, h, hd⟩ := Opn.ex ok (show k < ways.length by omega)
    rw [deepF_of h] at hK
    exact ⟨d, DeepN_ok h d (Nat.le_refl _) (by have := ok.n; omega) w K hH hK⟩
  · rw [deepF_no hk] at hK
    refine ⟨1, ?_⟩
    unfold sh_unpack_Deep.n sh_unpack_Deep.step
    refine HWay_ok hH (fun i hi hil => absurd ⟨by omega, by omega⟩ hk) fun _ w7 e7 => ?_
    intro b8 w9 e9 g8 g8' w10 o10
    rw [Bool.not_false, cond_true]
    exact hK w10 (ext_off (e7.trans e9) o10 (by have := e7.size; omega))
end
end Go.Sh

/- Ways' arcs, by a stack. -/
set_option maxRecDepth 100000
namespace Go.Sh
open Go.RowKit

/-- How many openings a way takes. -/
noncomputable def szF (ways : List Wy) (k : Int) : Nat := by
  classical exact if h : ∃ s l d, 0 ≤ k ∧ Opn ways k.toNat l d s then h.choose else 1
section
variable {ways : List Wy}
theorem szF_of {k : Nat} {l : List Int} {d s : Nat} (h : Opn ways k l d s) : szF ways (k : Int) = s := by
  unfold szF
  have hx : ∃ s l d, 0 ≤ (k : Int) ∧ Opn ways (k : Int).toNat l d s := ⟨s, l, d, by omega, h⟩
  rw [dif_pos hx]
  obtain ⟨l', d', _, h'⟩ := hx.choose_spec
  exact (Opn.det h' h).2.2
theorem szF_pos (k : Int) : 1 ≤ szF ways k := by
  unfold szF
  split
  · rename_i h
    obtain ⟨l, d, _, h'⟩ := h.choose_spec
    have := h'.bd; omega
  · exact Nat.le_refl _
theorem sz_len : ∀ ks : List Int, ks.length ≤ (ks.map (szF ways)).sum
  | [] => Nat.zero_le _
  | k :: ks => by
    have := sz_len ks; have := szF_pos (ways := ways) k
    simp only [List.length_cons, List.map_cons, List.sum_cons]; omega
end

section
variable {w : World} {p : Option Addr} {rank : List Int} {ways : List Wy} {F : Nat → Prop}
theorem fl_snoc (S : List Int) (k : Int) : (S ++ [k]).reverse.flatMap (opnF ways) = opnF ways k ++ S.reverse.flatMap (opnF ways) := by simp
theorem open_ok {l0 : SV} {ks : List Int} {K : SV → World → Prop} (hH : HierA w p rank ways F) (h : View RI w l0 ks) (hT : (ks.map (szF ways)).sum < 2 ^ 40)
    (hk : ∀ t w', Ext w w' → Own RI w' t (ks.flatMap (opnF ways)) → Fsh w t → K t w') : sh_unpack_open p l0 K w := by
  have ok := hH.ok
  have hkl := sz_len (ways := ways) ks
  unfold sh_unpack_open
  refine Clone_ok h (by omega) fun s1 w2 e2 o1 f1 => ?_
  have z2 := e2.size
  refine Reverse_ok o1 (by omega) fun w3 c3 o3 => ?_
  have e3 : Ext w w3 := ext_chg e2 c3 f1
  refine LoopT.gh (γ := List Int × List Int) (fun g (st : SV × SV × Unit) w' => Ext w w' ∧ Own RI w' st.1 g.1 ∧ Own RI w' st.2.1 g.2 ∧ Fsh w st.1 ∧ Fsh w st.2.1 ∧ Dj st.1.blk st.2.1.blk ∧ g.1 ++ g.2.reverse.flatMap (opnF ways) = ks.flatMap (opnF ways) ∧ g.1.length + (g.2.map (szF ways)).sum ≤ (ks.map (szF ways)).sum) (fun g => (g.2.map (szF ways)).sum)
    ([], ks.reverse) ⟨e3, Own.nil, o3, fsh_nil, f1, (fun k ⟨q, hq, _⟩ => by cases hq), by simp, by simp [List.sum_reverse]⟩ ?_
  rintro ⟨L, S⟩ ⟨sL, sS, _⟩ w6 ⟨e6, oL, oS, fL, fS, dLS, hfl, hsum⟩ J1 hJ1
  dsimp only at oL oS fL fS dLS hfl hsum ⊢
  have lS := oS.view.len
  have hSl := sz_len (ways := ways) S
  rw [Bool.cond_decide]
  by_cases hc : (sS.len : Int) > 0
  · rw [if_pos hc]
    obtain ⟨S', k, rfl⟩ : ∃ S' k, S = S' ++ [k] := by
      rcases List.eq_nil_or_concat S with h | ⟨S', k, h⟩
      · rw [h] at lS; simp only [List.length_nil] at lS; omega
      · exact ⟨S', k, by rw [h, List.concat_eq_append]⟩
    simp only [List.length_append, List.length_cons, List.length_nil] at lS
    have hS1 : S'.length + 1 ≤ ((S' ++ [k]).map (szF ways)).sum := by have := hSl; simp only [List.length_append, List.length_cons, List.length_nil] at this; exact this
    have hw : IntKind.i64.wrap ((sS.len : Int) - 1) = ((S'.length : Nat) : Int) := by rw [w64 (by omega) (by omega)]; omega
    rw [hw]
    refine int_idx oS.view (i := S'.length) (by simp) fun _ a0 => ⟨_, a0, ?_⟩
    rw [List.getElem_append_right (Nat.le_refl _)]
    simp only [Nat.sub_self, List.getElem_cons_zero]
    refine oS.cutL (R := RI) fun s9 o9 ha9 => ?_
    have b9 : ∀ j, s9.blk j ↔ sS.blk j := fun j => by unfold SV.blk; rw [ha9]
    rw [fl_snoc] at hfl
    rw [List.map_append, List.sum_append] at hsum
    simp only [List.map_cons, List.map_nil, List.sum_cons, List.sum_nil, Nat.add_zero] at hsum
    have hms : ((S' ++ [k]).map (szF ways)).sum = (S'.map (szF ways)).sum + szF ways k := by simp
    rw [hms] at hJ1 hSl
    simp only [List.length_append, List.length_cons, List.length_nil] at hSl
    have z6 := e6.size
    refine HHalves_ok (hH.ext e6) (fun i hi hil hm w13 e13 => ?_) fun hno w13 e13 => ?_
    · subst hi
      obtain ⟨l, d, s, hO, _⟩ := Opn.ex ok hil
      cases hO with
      | arc _ hm' => exact absurd hm' hm
      | @mid _ a b l1 l2 d1 d2 s1' s2' _ _ ha hb h1 h2 =>
      have hO : Opn ways i _ _ _ := .mid hil hm ha hb h1 h2
      rw [ha, hb, gN_some, gN_some]
      simp only [Option.isSome_some, Bool.and_self, cond_true]
      intro b14 w15 e15 g14 hB
      have z13 := e13.size; have z15 := e15.size
      have v14 : View RI w15 ⟨some ⟨b14, 0, none⟩, 2, 2⟩ [(b : Int), (a : Int)] := (Own.of_blk (R := RI) (l := [(b : Int), (a : Int)]) hB).view
      have q1 := szF_of hO; have q2 := szF_of h1; have q3 := szF_of h2
      refine Own.app (R := RI) ((o9.ext e13).ext e15) v14 (by simp only [List.length_cons, List.length_nil]; omega) (by simp only [List.length_cons, List.length_nil]; omega) fun s16 w17 c17 h16 o16 => ?_
      have e15' := (e6.trans e13).trans e15
      refine hJ1 (L, S' ++ [(b : Int), (a : Int)]) _ w17 ⟨ext_chg e15' c17 fun j hj => fS j ((b9 j).1 hj), ((oL.ext e13).ext e15).chg c17 fun j h1 h2 => dLS j h1 ((b9 j).1 h2), o16, fL, fun j hj => ?_, fun j h1 h2 => ?_, ?_, ?_⟩ ?_
      · rcases h16 j hj with q | q
        · exact fS j ((b9 j).1 q)
        · omega
      · rcases h16 j h2 with q | q
        · exact dLS j h1 ((b9 j).1 q)
        · have := oL.lt h1; omega
      · rw [← hfl]
        have e1 := opnF_of hO; have e2 := opnF_of h1; have e3 := opnF_of h2
        rw [e1]
        simp [e2, e3]
      · simp only [List.map_append, List.map_cons, List.map_nil, List.sum_append, List.sum_cons, List.sum_nil, Nat.add_zero]
        omega
      · simp only [List.map_append, List.map_cons, List.map_nil, List.sum_append, List.sum_cons, List.sum_nil, Nat.add_zero]
        omega
    · rw [cond_false]
      have z13 := e13.size
      refine HWay_ok (hH.ext (e6.trans e13)) (fun i hi hil w24 e24 => ?_) fun hno2 w24 e24 => ?_
      · subst hi
        have hm := hno i rfl hil
        intro b25 w26 e26 g25 g25' w27 o27
        have z24 := e24.size; have z26 := e26.size; have z27 := o27.size
        have e27 : Ext w w27 := ext_off (((e6.trans e13).trans e24).trans e26) o27 (by omega)
        rw [cond_true]
        have oL27 := (oL.ext ((e13.trans e24).trans e26)).off o27 fun hj => by have := oL.lt hj; omega
        have o927 := (o9.ext ((e13.trans e24).trans e26)).off o27 fun hj => by have := o9.lt hj; omega
        have hO : Opn ways i _ _ _ := .arc hil hm
        have q1 := szF_of hO
        refine push_ok (R := RI) (x := yA ways[i]) oL27 (by omega) (by omega) fun w29 s30 w31 e29 c31 h30 o30 => ⟨kc1 c31 (by have := e29.size; omega) fun hj => by have := oL.lt hj; omega, ?_⟩
        have z29 := e29.size
        refine hJ1 (L ++ [yA ways[i]], S') _ w31 ⟨ext_chg (e27.trans e29) c31 fL, o30, (o927.ext e29).chg c31 fun j h1 h2 => dLS j h2 ((b9 j).1 h1), fun j hj => ?_, fun j hj => fS j ((b9 j).1 hj), fun j h1 h2 => ?_, ?_, ?_⟩ ?_
        · rcases h30 j hj with q | q
          · exact fL j q
          · omega
        · rcases h30 j h1 with q | q
          · exact dLS j q ((b9 j).1 h2)
          · have := o9.lt h2; omega
        · rw [← hfl, opnF_of hO]; simp
        · simp only [List.length_append, List.length_cons, List.length_nil]; omega
        · simp only; omega
      · intro b25 w26 e26 g25 g25' w27 o27
        have z24 := e24.size; have z26 := e26.size; have z27 := o27.size
        have e27 : Ext w w27 := ext_off (((e6.trans e13).trans e24).trans e26) o27 (by omega)
        rw [cond_false]
        have oL27 := (oL.ext ((e13.trans e24).trans e26)).off o27 fun hj => by have := oL.lt hj; omega
        have o927 := (o9.ext ((e13.trans e24).trans e26)).off o27 fun hj => by have := o9.lt hj; omega
        have hz := szF_pos (ways := ways) k
        refine hJ1 (L, S') _ w27 ⟨e27, oL27, o927, fL, fun j hj => fS j ((b9 j).1 hj), fun j h1 h2 => dLS j h1 ((b9 j).1 h2), ?_, by simp only; omega⟩ (by simp only; omega)
        rw [← hfl, opnF_no (by omega)]; rfl
  · rw [if_neg hc]
    have : S = [] := List.eq_nil_of_length_eq_zero (by omega)
    subst this
    simp only [List.reverse_nil, List.flatMap_nil, List.append_nil] at hfl
    rw [hfl] at oL
    exact hk sL w6 e6 oL fL

theorem sz_fit (ok : OkH rank ways) (hr : rank.length ≤ 14) (k : Int) : szF ways k ≤ 16384 := by
  by_cases hk : 0 ≤ k ∧ k < (ways.length : Int)
  · obtain ⟨k, rfl⟩ := Int.eq_ofNat_of_zero_le hk.1
    obtain ⟨l, d, s, h, hd⟩ := Opn.ex ok (show k < ways.length by omega)
    rw [szF_of h]
    have := h.bd
    have : 2 ^ d ≤ 2 ^ 14 := Nat.pow_le_pow_right (by decide) (by omega)
    omega
  · unfold szF
    rw [dif_neg]
    · decide
    · rintro ⟨s, l, d, h0, h⟩
      exact hk ⟨h0, by have := h.lt; omega⟩
theorem szs_fit (ok : OkH rank ways) (hr : rank.length ≤ 14) : ∀ ks : List Int, (ks.map (szF ways)).sum ≤ 16384 * ks.length
  | [] => Nat.zero_le _
  | k :: ks => by
    have := szs_fit ok hr ks; have := sz_fit ok hr k
    simp only [List.map_cons, List.sum_cons, List.length_cons]; omega
theorem Open_ok {k : Int} {K : SV → World → Prop} (hH : HierA w p rank ways F) (hr : rank.length ≤ 14) (hk : ∀ t w', Ext w w' → Own RI w' t (opnF ways k) → Fsh w t → K t w') : sh_unpack_Open p k K w := by
  unfold sh_unpack_Open
  intro b1 w2 e2 g1 hB
  have z2 := e2.size
  have hs := sz_fit hH.ok hr k
  refine open_ok (hH.ext e2) (own_one hB).view (by simp only [List.map_cons, List.map_nil, List.sum_cons, List.sum_nil]; omega) fun t w4 e4 o4 f4 => ?_
  rw [List.flatMap_cons, List.flatMap_nil, List.append_nil] at o4
  exact hk t w4 (e2.trans e4) o4 fun j hj => by have := f4 j hj; omega

/-! ### One hierarchy is known -/
def roofR : List Int := [1, 0, 2]
def roofW : List Wy := [(0, 1, 2, -1, 5), (1, 2, 3, -1, 3), (0, 2, 5, 1, -1)]
theorem roof_ok : OkH roofR roofW := by
  refine ⟨by decide, by decide, ⟨by decide, by decide⟩, fun i hi => ?_, fun y hy => ?_⟩
  · have : i = 0 ∨ i = 1 ∨ i = 2 := by simp [roofW] at hi; omega
    rcases this with rfl | rfl | rfl
    · show OkF 3 [] (0, 1, 2, -1, 5)
      unfold OkF; decide
    · show OkF 3 [(0, 1, 2, -1, 5)] (1, 2, 3, -1, 3)
      unfold OkF; decide
    · show OkF 3 [(0, 1, 2, -1, 5), (1, 2, 3, -1, 3)] (0, 2, 5, 1, -1)
      unfold OkF; decide
  · simp [roofW] at hy
    rcases hy with rfl | rfl | rfl <;> unfold OkW
    · rw [if_pos (by decide)]; decide
    · rw [if_pos (by decide)]; decide
    · rw [if_neg (by decide)]
      exact ⟨rfl, by decide, by decide, by decide, by decide, 0, 1, by decide, by decide, by decide⟩
theorem roof_opn : Opn roofW 2 [5, 3] 2 3 := .mid (k := 2) (a := 0) (b := 1) (l := [5]) (m := [3]) (d := 1) (e := 1) (s := 1) (t := 1) (by decide) (by decide) (by decide) (by decide) (.arc (by decide) (by decide)) (.arc (by decide) (by decide))
theorem known13_ok {K : Bool → World → Prop} (hk : ∀ w', Ext w w' → K true w') : sh_postroadlaw13_known K w := by
  unfold sh_postroadlaw13_known
  intro b1 w2 e2 g1 hB1 b3 w4 e4 g3 hB3
  have hr : View RI w4 ⟨some ⟨b1, 0, none⟩, 3, 3⟩ roofR := View.all (R := RI) (xs := roofR) (e4.blkE hB1)
  have hy : View RW w4 ⟨some ⟨b3, 0, none⟩, 3, 3⟩ roofW := View.all (R := RW) (xs := roofW) hB3
  refine HNew_ok hr hy (by decide) (by decide) (fun _ p w6 F e6 hH _ => ?_) (fun hno => absurd roof_ok hno)
  refine Open_ok (k := 2) hH (by decide) fun s7 w8 e8 o7 f7 => ?_
  rw [show opnF roofW 2 = [5, 3] from opnF_of roof_opn] at o7
  intro b9 w10 e10 g9 hB9
  have v9 : View RI w10 ⟨some ⟨b9, 0, none⟩, 2, 2⟩ [5, 3] := View.all (R := RI) (xs := [5, 3]) hB9
  refine sameI_ok (o7.ext e10).view v9 (by decide) fun w12 e12 => ?_
  rw [cond_true]
  have e612 := (e8.trans e10).trans e12
  refine Deep_ok (k := 2) (hH.ext e612) fun w14 e14 => ?_
  rw [show deepF roofW 2 = 2 from deepF_of roof_opn, show ((2 : Int) == 2) = true from rfl, cond_true]
  refine Deep_ok (k := 3) (hH.ext (e612.trans e14)) fun w16 e16 => ?_
  rw [deepF_no (by decide)]
  exact hk w16 (((e2.trans e4).trans e6).trans ((e612.trans e14).trans e16))
end
end Go.Sh

/- What two lists have in common; Meet, Both. -/
set_option maxRecDepth 100000
namespace Go.Sh
open Go.RowKit

abbrev Rc2 := Int × Int
/-- Strictly rising. -/
def Rz (l : List Rc2) : Prop := l.Pairwise fun a b => a.1 < b.1
/-- The pairs of the same place. -/
def com (xs ys : List Rc2) : List (Rc2 × Rc2) := xs.flatMap fun x => (ys.filter fun y => y.1 == x.1).map fun y => (x, y)
theorem com_nil (ys : List Rc2) : com [] ys = [] := rfl
theorem com_nil' (xs : List Rc2) : com xs [] = [] := by induction xs with | nil => rfl | cons x xs ih => simp [com]
theorem com_cons (x : Rc2) (xs ys : List Rc2) : com (x :: xs) ys = ((ys.filter fun y => y.1 == x.1).map fun y => (x, y)) ++ com xs ys := by simp [com]
theorem com_skip {y : Rc2} {xs ys : List Rc2} (h : ∀ x ∈ xs, y.1 ≠ x.1) : com xs (y :: ys) = com xs ys := by
  induction xs with
  | nil => rfl
  | cons x xs ih =>
    rw [com_cons, com_cons, ih fun z hz => h z (List.mem_cons_of_mem _ hz), List.filter_cons_of_neg (by simpa using h x List.mem_cons_self)]
theorem filter_no {x : Rc2} {ys : List Rc2} (h : ∀ y ∈ ys, y.1 ≠ x.1) : (ys.filter fun y => y.1 == x.1) = [] := by
  rw [List.filter_eq_nil_iff]; intro y hy; simpa using h y hy
theorem com_lt {x y : Rc2} {xs ys : List Rc2} (hy : Rz (y :: ys)) (h : x.1 < y.1) : com (x :: xs) (y :: ys) = com xs (y :: ys) := by
  rw [com_cons, filter_no, List.map_nil, List.nil_append]
  intro z hz
  rcases List.mem_cons.1 hz with rfl | hz
  · omega
  · have := (List.pairwise_cons.1 hy).1 z hz; omega
theorem com_gt {x y : Rc2} {xs ys : List Rc2} (hx : Rz (x :: xs)) (h : x.1 > y.1) : com (x :: xs) (y :: ys) = com (x :: xs) ys := by
  refine com_skip fun z hz => ?_
  rcases List.mem_cons.1 hz with rfl | hz
  · omega
  · have := (List.pairwise_cons.1 hx).1 z hz; omega
theorem com_eq {x y : Rc2} {xs ys : List Rc2} (hx : Rz (x :: xs)) (hy : Rz (y :: ys)) (h : x.1 = y.1) : com (x :: xs) (y :: ys) = (x, y) :: com xs ys := by
  rw [com_cons, List.filter_cons_of_pos (by simpa using h.symm), filter_no, com_skip]
  · rfl
  · intro z hz; have := (List.pairwise_cons.1 hx).1 z hz; omega
  · intro z hz; have := (List.pairwise_cons.1 hy).1 z hz; omega
theorem com_mem {xs ys : List Rc2} {p : Rc2 × Rc2} : p ∈ com xs ys ↔ p.1 ∈ xs ∧ p.2 ∈ ys ∧ p.1.1 = p.2.1 := by
  unfold com
  rw [List.mem_flatMap]
  constructor
  · rintro ⟨x, hx, hp⟩
    obtain ⟨y, hy, rfl⟩ := List.mem_map.1 hp
    rw [List.mem_filter] at hy
    exact ⟨hx, hy.1, (by simpa using hy.2 : y.1 = x.1).symm⟩
  · rintro ⟨h1, h2, h3⟩
    exact ⟨p.1, h1, List.mem_map.2 ⟨p.2, List.mem_filter.2 ⟨h2, by rw [beq_iff_eq]; exact h3.symm⟩, rfl⟩⟩
section
variable {w : World}
theorem View.tail1 {s : SV} {x : Rc2} {xs : List Rc2} (h : View RE w s (x :: xs)) (hc : s.len ≤ s.cap) {K : SV → Prop} (hk : ∀ t, View RE w t xs → t.len ≤ t.cap → K t) : semSlice 2 s.a s.len s.cap (some (1 : Int)) none K := by
  have hl := h.len
  simp only [List.length_cons] at hl
  unfold semSlice
  simp only [Option.getD_some, Option.getD_none, Int.toNat_natCast]
  refine ⟨by omega, fun x hx => (by cases hx), by omega, by omega, hk _ ⟨?_, ?_, ?_⟩ (by show s.len - 1 ≤ s.cap - 1; omega)⟩
  · show s.len - (1 : Int).toNat = xs.length
    have : (1 : Int).toNat = 1 := rfl
    omega
  · intro hne p hp
    have h1 : 1 ≤ xs.length := by cases xs with | nil => exact absurd rfl hne | cons _ _ => simp
    have : ¬ s.cap = (1 : Int).toNat := by have : (1 : Int).toNat = 1 := rfl; omega
    simp only [if_neg this] at hp
    obtain ⟨a, ha, rfl⟩ := Option.map_eq_some_iff.1 hp
    have := h.spot (by simp) a ha
    obtain ⟨b, o, sp⟩ := a
    simp only at this; subst this
    rw [addm]
  · intro i y hy
    obtain ⟨p, hp, hcell⟩ := h.at_ (i + 1) y (by simpa using hy)
    have hi := (List.getElem?_eq_some_iff.1 hy).1
    have : ¬ s.cap = (1 : Int).toNat := by have : (1 : Int).toNat = 1 := rfl; omega
    simp only [if_neg this, hp, Option.map_some]
    have hsp := h.spot (by simp) p hp
    obtain ⟨b, o, sp⟩ := p
    simp only at hsp; subst hsp
    refine ⟨_, rfl, fun j v hv => ?_⟩
    have := hcell j v hv
    rw [addm]
    simp only at this ⊢
    rw [← this]
    congr 2
    have e1 : (1 : Int).toNat = 1 := rfl
    have e2 : RE.sz = 2 := rfl
    rw [e1, e2, Nat.add_mul]; omega

/-- The pairs are given out, one by one; I tells what whoever takes them holds, F his blocks. -/
theorem common_ok {W w0 : World} {xs ys : List Rc2} {sa sb : SV} {b1 b2 : Nat} {Y0 : Int → Int → Int → Int → (Bool → World → Prop) → World → Prop} {I : List (Rc2 × Rc2) → (Nat → Prop) → World → Prop} {F0 : Nat → Prop} {K : World → Prop}
    (hx : Rz xs) (hy : Rz ys) (va : View RE W sa xs) (vb : View RE W sb ys) (ca : sa.len ≤ sa.cap) (cb : sb.len ≤ sb.cap) (e0 : Ext W w0) (hB1 : Blk w0 b1 [.slice sa.a sa.len sa.cap]) (hB2 : Blk w0 b2 [.slice sb.a sb.len sb.cap]) (g1 : W.heap.size ≤ b1) (g2 : W.heap.size ≤ b2) (hne : b1 ≠ b2)
    (hlt : ∀ d F w, I d F w → ∀ i, F i → i < w.heap.size) (hch : ∀ d F w w' G, I d F w → Chg G w w' → (∀ i, F i → ¬ G i) → I d F w')
    (hY : ∀ d F w x y r K', I d F w → Ext W w → com xs ys = d ++ (x, y) :: r → (∀ w' F', I (d ++ [(x, y)]) F' w' → Chg F w w' → (∀ i, F' i → F i ∨ w.heap.size ≤ i) → K' true w') → Y0 x.1 x.2 y.1 y.2 K' w)
    (h0 : I [] F0 w0) (hF0 : ∀ i, F0 i → W.heap.size ≤ i ∧ i ≠ b1 ∧ i ≠ b2)
    (hK : ∀ F w', I (com xs ys) F w' → Ext W w' → Chg (fun i => F0 i ∨ i = b1 ∨ i = b2) w0 w' → (∀ i, F i → F0 i ∨ w0.heap.size ≤ i) → K w') : sh_space_common_c1 Y0 ⟨b1, 0, none⟩ ⟨b2, 0, none⟩ K w0 := by
  unfold sh_space_common_c1
  have l1 := blk_lt hB1; have l2 := blk_lt hB2
  refine LoopT.gh (γ := List (Rc2 × Rc2) × List Rc2 × List Rc2 × (Nat → Prop)) (fun g (_ : Unit) w' => ∃ s1 s2, I g.1 g.2.2.2 w' ∧ Ext W w' ∧ Chg (fun i => F0 i ∨ i = b1 ∨ i = b2) w0 w' ∧ (∀ i, g.2.2.2 i → F0 i ∨ w0.heap.size ≤ i) ∧ com xs ys = g.1 ++ com g.2.1 g.2.2.1 ∧ Rz g.2.1 ∧ Rz g.2.2.1 ∧
      View RE W s1 g.2.1 ∧ View RE W s2 g.2.2.1 ∧ s1.len ≤ s1.cap ∧ s2.len ≤ s2.cap ∧ Blk w' b1 [.slice s1.a s1.len s1.cap] ∧ Blk w' b2 [.slice s2.a s2.len s2.cap]) (fun g => g.2.1.length + g.2.2.1.length) ([], xs, ys, F0)
    ⟨sa, sb, h0, e0, .refl _ _, fun i h => .inl h, rfl, hx, hy, va, vb, ca, cb, hB1, hB2⟩ ?_
  rintro ⟨d, xs', ys', F⟩ ⟨⟩ w3 ⟨s1, s2, hI, e3, c3, hF, hcom, rx, ry, v1, v2, k1, k2, hb1, hb2⟩ J1 hJ1
  simp only at hI hF hcom rx ry v1 v2
  have z3 := c3.size
  have hl1 := v1.len; have hl2 := v2.len
  have nF1 : ¬ F b1 := fun h => (hF _ h).elim (fun h => (hF0 _ h).2.1 rfl) fun h => by omega
  have nF2 : ¬ F b2 := fun h => (hF _ h).elim (fun h => (hF0 _ h).2.2 rfl) fun h => by omega
  have done : com xs' ys' = [] → K w3 := fun h => by rw [h, List.append_nil] at hcom; rw [← hcom] at hI; exact hK F w3 hI e3 c3 hF
  refine ⟨s1, by rw [cell_blk hb1]; rfl, ?_⟩
  rw [Bool.cond_decide]
  by_cases h1 : (s1.len : Int) > 0
  case neg =>
    rw [if_neg h1]
    have : xs' = [] := List.length_eq_zero_iff.1 (by omega)
    subst this
    exact done (com_nil _)
  rw [if_pos h1]
  refine ⟨s2, by rw [cell_blk hb2]; rfl, ?_⟩
  rw [Bool.cond_decide]
  by_cases h2 : (s2.len : Int) > 0
  case neg =>
    rw [if_neg h2]
    have : ys' = [] := List.length_eq_zero_iff.1 (by omega)
    subst this
    exact done (com_nil' _)
  rw [if_pos h2]
  obtain ⟨x, xs', rfl⟩ : ∃ x l, xs' = x :: l := List.exists_cons_of_ne_nil fun h => by subst h; simp at hl1; omega
  obtain ⟨y, ys', rfl⟩ : ∃ x l, ys' = x :: l := List.exists_cons_of_ne_nil fun h => by subst h; simp at hl2; omega
  refine ⟨s1, by rw [cell_blk hb1]; rfl, ?_⟩
  refine re_idx (v1.ext e3) (i := 0) (by simp) fun _ a0 a1 => ⟨_, a0, _, a1, ?_⟩
  refine ⟨s2, by rw [cell_blk hb2]; rfl, ?_⟩
  refine View.idx (R := RE) (v2.ext e3) (i := 0) (by omega) (by simp) fun a12 hsp hc12 => ?_
  obtain ⟨pb, po, ps⟩ := a12
  simp only at hsp; subst hsp
  have q0 : w3.cell? ((⟨pb, po, none⟩ : Addr).add 0) = some (.int .i64 y.1) := hc12 0 _ rfl
  have q1 : w3.cell? ((⟨pb, po, none⟩ : Addr).add 1) = some (.int .i64 y.2) := hc12 1 _ rfl
  refine ⟨_, q0, _, q1, ?_⟩
  intro b17 w18 e18 g17 g17' b19 w20 e20 g19 g19' w21 e21 w22 o22
  have z18 := e18.size; have z20 := e20.size; have z21 := e21.size; have z22 := o22.size
  have e22 : Ext w3 w22 := ext_off ((e18.trans e20).trans e21) o22 g17
  refine ⟨⟨_, e22.cell q0, _, e22.cell q1, rfl⟩, ⟨s2, by rw [cell_blk (e22.blkE hb2)]; rfl, rfl⟩, ?_⟩
  intro w23 e23 w24 o24 w25 e25
  have z23 := e23.size; have z24 := o24.size; have z25 := e25.size
  have g19 : w3.heap.size ≤ b19 := by
    rcases g19 with ⟨h, _⟩ | h
    · rcases h with h | h
      · exact h.elim
      · exact h.1
    · omega
  have e325 : Ext w3 w25 := (ext_off (e22.trans e23) o24 g19).trans e25
  have hI25 : I d F w25 := hch _ _ _ _ (fun _ => False) hI (.of_ext e325) fun _ _ h => h
  have bb1 := e325.blkE hb1; have bb2 := e325.blkE hb2
  have e25' := e3.trans e325
  have c25 := c3.trans (.of_ext (F := fun i => F0 i ∨ i = b1 ∨ i = b2) e325) fun _ _ h => h
  have kp : ∀ {w25 w28 : World} {b}, w3.heap.size ≤ w25.heap.size → b < w3.heap.size → b17 < w25.heap.size → b19 < w25.heap.size → Off b w25 w28 → Keeps [b19, b17] w25 w28 := fun {w25 w28 b} _ hb h17 h19 o => by
    refine kp_chg (.of_off (F := fun i => i = b) o rfl) fun i hi => ?_
    simp only [List.mem_cons, List.not_mem_nil, or_false] at hi
    rcases hi with rfl | rfl
    · exact ⟨h19, by omega⟩
    · exact ⟨h17, by omega⟩
  rw [Bool.cond_decide]
  simp only [List.getElem_cons_zero]
  by_cases hlt1 : x.1 < y.1
  · rw [if_pos hlt1]
    refine ⟨s1, by rw [cell_blk bb1]; rfl, ?_⟩
    refine v1.tail1 k1 fun s27 v27 k27 => ?_
    refine stL_blk (b := b1) (o := 0) _ 0 _ _ _ bb1 (by simp) fun w28 o28 hb28 => ?_
    refine ⟨kp (by omega) (by omega) (by omega) (by omega) o28, ?_⟩
    refine hJ1 (d, xs', y :: ys', F) () w28 ⟨s27, s2, hch _ _ _ _ _ hI25 (.of_off (F := fun i => i = b1) o28 rfl) fun i hi e => nF1 (e ▸ hi), ext_off e25' o28 g1, c25.trans (.of_off (F := fun i => i = b1) o28 rfl) fun i _ h => .inr (.inl h), hF, ?_, (List.pairwise_cons.1 rx).2, ry, v27, v2, k27, k2, hb28, bb2.off o28 (Ne.symm hne)⟩ (by simp)
    rw [hcom, com_lt ry hlt1]
  · rw [if_neg hlt1, Bool.cond_decide]
    by_cases hgt1 : x.1 > y.1
    · rw [if_pos hgt1]
      refine ⟨s2, by rw [cell_blk bb2]; rfl, ?_⟩
      refine v2.tail1 k2 fun s30 v30 k30 => ?_
      refine stL_blk (b := b2) (o := 0) _ 0 _ _ _ bb2 (by simp) fun w31 o31 hb31 => ?_
      refine ⟨kp (by omega) (by omega) (by omega) (by omega) o31, ?_⟩
      refine hJ1 (d, x :: xs', ys', F) () w31 ⟨s1, s30, hch _ _ _ _ _ hI25 (.of_off (F := fun i => i = b2) o31 rfl) fun i hi e => nF2 (e ▸ hi), ext_off e25' o31 g2, c25.trans (.of_off (F := fun i => i = b2) o31 rfl) fun i _ h => .inr (.inr h), hF, ?_, rx, (List.pairwise_cons.1 ry).2, v1, v30, k1, k30, bb1.off o31 hne, hb31⟩ (by simp)
      rw [hcom, com_gt rx hgt1]
    · rw [if_neg hgt1]
      have heq : x.1 = y.1 := by omega
      have hc2 := com_eq rx ry heq
      refine hY d F w25 x y (com xs' ys') _ hI25 e25' (by rw [hcom, hc2]) fun w33 F' hI33 c33 hF' => ?_
      have z33 := c33.size
      have lF : ∀ i, F i → i < w3.heap.size := fun i hi => hlt _ _ _ hI i hi
      have nb : ∀ b, w3.heap.size ≤ b → b < w25.heap.size → ¬ F b := fun b h1 _ h => by have := lF b h; omega
      refine ⟨kp_chg c33 fun i hi => ?_, ?_⟩
      · simp only [List.mem_cons, List.not_mem_nil, or_false] at hi
        rcases hi with rfl | rfl
        · exact ⟨by omega, nb _ g19 (by omega)⟩
        · exact ⟨by omega, nb _ g17 (by omega)⟩
      rw [Bool.not_true, cond_false]
      have bb1 := c33.blk bb1 nF1; have bb2 := c33.blk bb2 nF2
      have e33 : Ext W w33 := ext_chg e25' c33 fun i hi => (hF i hi).elim (fun h => (hF0 i h).1) fun h => by have := e0.size; omega
      have c33' := c25.trans c33 fun i hi h => (hF i h).elim .inl fun h' => .inl (by
        exfalso
        omega)
      have nF1' : ¬ F' b1 := fun h => (hF' _ h).elim nF1 fun h => by omega
      have nF2' : ¬ F' b2 := fun h => (hF' _ h).elim nF2 fun h => by omega
      refine ⟨s1, by rw [cell_blk bb1]; rfl, ?_⟩
      refine v1.tail1 k1 fun s35 v35 k35 => ?_
      refine ⟨s2, by rw [cell_blk bb2]; rfl, ?_⟩
      refine v2.tail1 k2 fun s38 v38 k38 => ?_
      intro w39 e39
      have z39 := e39.size
      refine stL_blk (b := b1) (o := 0) _ 0 _ _ _ (e39.blkE bb1) (by simp) fun w40 o40 hb40 => ?_
      have z40 := o40.size
      have bb2 := (e39.blkE bb2).off o40 (Ne.symm hne)
      refine ⟨kp (by omega) (by omega) (by omega) (by omega) o40, ⟨s2, by rw [cell_blk bb2]; rfl, rfl⟩, ?_⟩
      intro w41 e41
      have z41 := e41.size
      refine stL_blk (b := b2) (o := 0) _ 0 _ _ _ (e41.blkE bb2) (by simp) fun w42 o42 hb42 => ?_
      refine ⟨kp (by omega) (by omega) (by omega) (by omega) o42, fun w43 e43 => ?_⟩
      have i39 := hch _ _ _ _ (fun _ => False) hI33 (.of_ext e39) fun _ _ h => h
      have i40 := hch _ _ _ _ _ i39 (.of_off (F := fun i => i = b1) o40 rfl) fun i hi e => nF1' (e ▸ hi)
      have i41 := hch _ _ _ _ (fun _ => False) i40 (.of_ext e41) fun _ _ h => h
      have i42 := hch _ _ _ _ _ i41 (.of_off (F := fun i => i = b2) o42 rfl) fun i hi e => nF2' (e ▸ hi)
      have i43 := hch _ _ _ _ (fun _ => False) i42 (.of_ext e43) fun _ _ h => h
      have e42 : Ext W w42 := ext_off ((ext_off (e33.trans e39) o40 g1).trans e41) o42 g2
      have c39 := c33'.trans (.of_ext (F := fun i => F0 i ∨ i = b1 ∨ i = b2) e39) fun _ _ h => h
      have c40 := c39.trans (.of_off (F := fun i => i = b1) o40 rfl) fun i _ h => .inr (.inl h)
      have c41 := c40.trans (.of_ext (F := fun i => F0 i ∨ i = b1 ∨ i = b2) e41) fun _ _ h => h
      have c42 := c41.trans (.of_off (F := fun i => i = b2) o42 rfl) fun i _ h => .inr (.inr h)
      have c43 := c42.trans (.of_ext (F := fun i => F0 i ∨ i = b1 ∨ i = b2) e43) fun _ _ h => h
      refine hJ1 (d ++ [(x, y)], xs', ys', F') () w43 ⟨s35, s38, i43, e42.trans e43, c43, fun i hi => (hF' i hi).elim (hF i) fun h => by right; omega, ?_, (List.pairwise_cons.1 rx).2, (List.pairwise_cons.1 ry).2, v35, v38, k35, k38, ?_, e43.blkE hb42⟩ (by simp only [List.length_cons]; omega)
      · rw [hcom, hc2]; simp
      · exact e43.blkE ((e41.blkE hb40).off o42 hne)
end
end Go.Sh

/- Meet and Both; their reference. -/
set_option maxRecDepth 100000
namespace Go.Sh
open Go.RowKit

def meetS (s : Int × Int) (p : Rc2 × Rc2) : Int × Int := if s.2 = -1 ∨ IntKind.i64.wrap (p.1.2 + p.2.2) ≤ s.1 then (IntKind.i64.wrap (p.1.2 + p.2.2), p.1.1) else s
def meetD (d : List (Rc2 × Rc2)) : Int × Int := d.foldl meetS (-1, -1)
/-- The least sum, and where. -/
def meetF (xs ys : List Rc2) : Int × Int := meetD (com xs ys)
theorem meetD_snoc (d : List (Rc2 × Rc2)) (p : Rc2 × Rc2) : meetD (d ++ [p]) = meetS (meetD d) p := by unfold meetD; rw [List.foldl_append]; rfl
section
variable {w : World}
theorem Meet_ok {sa sb : SV} {xs ys : List Rc2} {K : Int → Int → World → Prop} (hx : Rz xs) (hy : Rz ys) (va : View RE w sa xs) (vb : View RE w sb ys) (ca : sa.len ≤ sa.cap) (cb : sb.len ≤ sb.cap)
    (hk : ∀ w', Ext w w' → K (meetF xs ys).1 (meetF xs ys).2 w') : sh_space_Meet sa sb K w := by
  unfold sh_space_Meet
  intro b1 w2 e2 g1 g1' b3 w4 e4 g3 g3' w5 o5 w6 o6 b1007 w1008 e1008 g7 g7' b1009 w1010 e1010 g9 g9' hB7 hB9
  have z2 := e2.size; have z4 := e4.size; have z5 := o5.size; have z6 := o6.size; have z8 := e1008.size; have z10 := e1010.size
  refine ⟨kp_ext (e1008.trans e1010) (by (intro b hb; simp only [List.mem_cons, List.not_mem_nil, or_false] at hb; omega)), fun hB1 hB3 D l w1013 e1013 gD hDl hl => ?_⟩
  have z13 := e1013.size
  have e6 : Ext w w6 := ext_off (ext_off (e2.trans e4) o5 g1) o6 (by omega)
  have e13 := (e6.trans e1008).trans (e1010.trans e1013)
  have n13 : b1 ≠ b3 := by omega
  refine common_ok (W := w) (w0 := w1013) (I := fun d F w' => F = (fun i => i = b1 ∨ i = b3 ∨ i = l) ∧ Blk w' b1 [.int .i64 (meetD d).1] ∧ Blk w' b3 [.int .i64 (meetD d).2] ∧ w'.heap[l]? = w1013.heap[l]?) (F0 := fun i => i = b1 ∨ i = b3 ∨ i = l)
    hx hy va vb ca cb e13 (e1013.blkE hB7) (e1013.blkE hB9) (by omega) (by omega) (by omega) ?_ ?_ ?_ ⟨rfl, e1013.blkE hB1, e1013.blkE hB3, rfl⟩ (fun i hi => by omega) ?_
  · rintro d F w' ⟨rfl, h1, h3, hL⟩ i hi
    rcases hi with rfl | rfl | rfl
    · exact blk_lt h1
    · exact blk_lt h3
    · rw [Array.getElem?_eq_getElem hl] at hL
      exact (Array.getElem?_eq_some_iff.1 hL).1
  · rintro d F w' w'' G ⟨rfl, h1, h3, hL⟩ c hG
    have ll : l < w'.heap.size := by
      rw [Array.getElem?_eq_getElem hl] at hL
      exact (Array.getElem?_eq_some_iff.1 hL).1
    exact ⟨rfl, c.blk h1 (hG _ (.inl rfl)), c.blk h3 (hG _ (.inr (.inl rfl))), by rw [c.block l ll (hG _ (.inr (.inr rfl)))]; exact hL⟩
  · rintro d F w1018 x y r K' ⟨rfl, h1, h3, hL⟩ e18 hcom hK'
    have ll : l < w1018.heap.size := by
      rw [Array.getElem?_eq_getElem hl] at hL
      exact (Array.getElem?_eq_some_iff.1 hL).1
    have l1 := blk_lt h1; have l3 := blk_lt h3
    refine ⟨hL, ?_⟩
    intro b1020 w1021 e1021 g20 g20' w1022 o1022 b1023 w1024 e1024 g23 g23' w1025 o1025 w1026 o1026
    have z21 := e1021.size; have z22 := o1022.size; have z24 := e1024.size; have z25 := o1025.size; have z26 := o1026.size
    have e25 : Ext w1018 w1025 := ext_off ((ext_off e1021 o1022 g20).trans e1024) o1025 (by omega)
    have c26 : Chg (fun i => i = b1 ∨ i = b3 ∨ i = l) w1018 w1026 := (Chg.of_ext (F := fun i => i = b1 ∨ i = b3 ∨ i = l) e25).trans (.of_off (F := fun i => i = l) o1026 rfl) fun i _ h => .inr (.inr h)
    have k1 := (e25.blkE h1).off o1026 (show b1 ≠ l by omega)
    have k3 := (e25.blkE h3).off o1026 (show b3 ≠ l by omega)
    have fin : ∀ w', Chg (fun i => i = b1 ∨ i = b3 ∨ i = l) w1018 w' → Blk w' b1 [.int .i64 (meetD (d ++ [(x, y)])).1] → Blk w' b3 [.int .i64 (meetD (d ++ [(x, y)])).2] → ∀ w'', Off l w' w'' → (w''.heap[l]? = w1013.heap[l]? → K' true w'') := fun w' c h1 h3 w'' o hh =>
      hK' w'' _ ⟨rfl, h1.off o (by omega), h3.off o (by omega), hh⟩ (c.trans (.of_off (F := fun i => i = l) o rfl) fun i _ h => .inr (.inr h)) fun i hi => .inl hi
    have write : (meetD (d ++ [(x, y)])) = (IntKind.i64.wrap (x.2 + y.2), x.1) → ∀ w1028, Ext w1026 w1028 → stL w1028 ⟨b1, 0, none⟩ [.int .i64 (IntKind.i64.wrap (x.2 + y.2))] 0 (fun w1029 => Keeps [b1023, b1020, l] w1028 w1029 ∧ ∀ w1030, Ext w1029 w1030 → stL w1030 ⟨b3, 0, none⟩ [.int .i64 x.1] 0 (fun w1031 => Keeps [b1023, b1020, l] w1030 w1031 ∧ ∀ w1032, Ext w1031 w1032 → ∀ w1033, Off l w1032 w1033 → (w1033.heap[l]? = w1013.heap[l]? → K' true w1033))) := fun hm w1028 e28 => by
      have z28 := e28.size
      refine stL_blk (b := b1) (o := 0) _ 0 _ _ _ (e28.blkE k1) (by simp) fun w1029 o29 hb1 => ?_
      have z29 := o29.size
      refine ⟨kp_chg (.of_off (F := fun i => i = b1) o29 rfl) fun i hi => ?_, fun w1030 e30 => ?_⟩
      · simp only [List.mem_cons, List.not_mem_nil, or_false] at hi; omega
      have z30 := e30.size
      refine stL_blk (b := b3) (o := 0) _ 0 _ _ _ (e30.blkE ((e28.blkE k3).off o29 (Ne.symm n13))) (by simp) fun w1031 o31 hb3 => ?_
      have z31 := o31.size
      refine ⟨kp_chg (.of_off (F := fun i => i = b3) o31 rfl) fun i hi => ?_, fun w1032 e32 => ?_⟩
      · simp only [List.mem_cons, List.not_mem_nil, or_false] at hi; omega
      have c28 := c26.trans (.of_ext (F := fun i => i = b1 ∨ i = b3 ∨ i = l) e28) fun _ _ h => h
      have c29 := c28.trans (.of_off (F := fun i => i = b1) o29 rfl) fun i _ h => .inl h
      have c30 := c29.trans (.of_ext (F := fun i => i = b1 ∨ i = b3 ∨ i = l) e30) fun _ _ h => h
      have c31 := c30.trans (.of_off (F := fun i => i = b3) o31 rfl) fun i _ h => .inr (.inl h)
      have c32 := c31.trans (.of_ext (F := fun i => i = b1 ∨ i = b3 ∨ i = l) e32) fun _ _ h => h
      exact fin w1032 c32 (by rw [hm]; exact e32.blkE ((e30.blkE hb1).off o31 n13)) (by rw [hm]; exact e32.blkE hb3)
    have ms := meetD_snoc d (x, y)
    unfold meetS at ms
    simp only at ms
    refine ⟨_, by rw [cell_blk k3]; rfl, ?_⟩
    by_cases hat : (meetD d).2 = -1
    · rw [show ((meetD d).2 == -1) = true by rw [hat]; rfl, cond_true]
      rw [if_pos (.inl hat)] at ms
      exact write ms
    · rw [show ((meetD d).2 == -1) = false by rw [beq_eq_false_iff_ne]; exact hat, cond_false]
      refine ⟨_, by rw [cell_blk k1]; rfl, ?_⟩
      rw [Bool.cond_decide]
      by_cases hle : IntKind.i64.wrap (x.2 + y.2) ≤ (meetD d).1
      · rw [if_pos hle]
        rw [if_pos (.inr hle)] at ms
        exact write ms
      · rw [if_neg hle]
        rw [if_neg (fun q => q.elim hat hle)] at ms
        exact fin w1026 c26 (by rw [ms]; exact k1) (by rw [ms]; exact k3)
  · rintro F w1042 ⟨rfl, h1, h3, hL⟩ e42 c42 _
    refine ⟨kp_chg c42 fun i hi => ?_, .inl ⟨hL, fun w1043 o43 => ?_⟩⟩
    · simp only [List.mem_cons, List.not_mem_nil, or_false] at hi; omega
    have k1 := h1.off o43 (show b1 ≠ l by omega)
    have k3 := h3.off o43 (show b3 ≠ l by omega)
    refine ⟨_, by rw [cell_blk k1]; rfl, _, by rw [cell_blk k3]; rfl, fun w1046 e46 w1047 o47 => ?_⟩
    exact hk w1047 (ext_off ((ext_off e42 o43 (by omega)).trans e46) o47 (by omega))

end
end Go.Sh

/- SpaceMeets, SpaceTurned. -/
set_option maxRecDepth 100000
namespace Go.Sh
open Go.RowKit

def sumP (p : Rc2 × Rc2) : Int := IntKind.i64.wrap (p.1.2 + p.2.2)
theorem meet_at {d : List (Rc2 × Rc2)} (h0 : ∀ p ∈ d, 0 ≤ p.1.1) : (d = [] ∧ meetD d = (-1, -1)) ∨ ∃ p ∈ d, meetD d = (sumP p, p.1.1) ∧ ∀ q ∈ d, sumP p ≤ sumP q := by
  suffices h : ∀ n, n ≤ d.length → (n = 0 ∧ meetD (d.take n) = (-1, -1)) ∨ ∃ p ∈ d.take n, meetD (d.take n) = (sumP p, p.1.1) ∧ ∀ q ∈ d.take n, sumP p ≤ sumP q by
    have := h d.length (Nat.le_refl _)
    rw [List.take_length] at this
    exact this.imp (fun ⟨a, b⟩ => ⟨List.length_eq_zero_iff.1 a, b⟩) id
  intro n
  induction n with
  | zero => intro _; exact .inl ⟨rfl, rfl⟩
  | succ n ih =>
    intro hn
    have hn' : n < d.length := by omega
    have e : d.take (n + 1) = d.take n ++ [d[n]] := by rw [List.take_add_one, List.getElem?_eq_getElem hn']; rfl
    right
    rw [e, meetD_snoc]
    unfold meetS
    rcases ih (by omega) with ⟨rfl, h2⟩ | ⟨p, hp, h2, h3⟩
    · rw [h2, if_pos (.inl rfl)]
      refine ⟨d[0], by simp, rfl, fun q hq => ?_⟩
      simp at hq; subst hq; exact Int.le_refl _
    · rw [h2]
      have hp0 := h0 p (List.mem_of_mem_take hp)
      by_cases hle : sumP d[n] ≤ sumP p
      · rw [if_pos (.inr hle)]
        refine ⟨d[n], List.mem_append_right _ (List.mem_singleton.2 rfl), rfl, fun q hq => ?_⟩
        rcases List.mem_append.1 hq with h | h
        · have := h3 q h; omega
        · rw [List.mem_singleton] at h; subst h; exact Int.le_refl _
      · rw [if_neg (fun q => q.elim (fun q => by simp only at q; omega) hle)]
        refine ⟨p, List.mem_append_left _ hp, rfl, fun q hq => ?_⟩
        rcases List.mem_append.1 hq with h | h
        · exact h3 q h
        · rw [List.mem_singleton] at h; subst h; omega

section
variable {CV : CVT} {w : World}
end
end Go.Sh

/- How far it is, by a hierarchy; QueryBy, QueryMeets. -/
set_option maxRecDepth 100000
namespace Go.Sh
open Go.RowKit

theorem Own.cap {α : Type} {R : Rc α} {w : World} {s : SV} {xs : List α} (h : Own R w s xs) : s.len ≤ s.cap := by
  obtain ⟨rest, h1, h2, _⟩ := h; omega

noncomputable def fwdL (rank : List Int) (ways : List Wy) (s : Int) : List Rc2 := rowsL rank.length (clF rank ways rank.length false s) fun _ => true
noncomputable def bckL (rank : List Int) (ways : List Wy) (t : Int) : List Rc2 := rowsL rank.length (clF rank ways rank.length true t) fun _ => true
noncomputable def whereF (rank : List Int) (ways : List Wy) (s t : Int) : Int × Int := meetF (fwdL rank ways s) (bckL rank ways t)

section
variable {CV : CVT} {w : World} {p : Option Addr} {rank : List Int} {ways : List Wy} {F : Nat → Prop}
theorem fwd_rz (s : Int) : Rz (fwdL rank ways s) := rowsL_pw _ _ _
theorem bck_rz (t : Int) : Rz (bckL rank ways t) := rowsL_pw _ _ _
theorem Where_ok (hcv : SpaceCV CV) {s t : Int} {K : Int → Int → World → Prop} (hH : HierA w p rank ways F) (fit : FitH rank ways) (hk : ∀ w', Ext w w' → K (whereF rank ways s t).1 (whereF rank ways s t).2 w') : sh_query_Where CV p s t K w := by
  unfold sh_query_Where
  refine Forward_ok hcv hH fit fun s1 w2 e2 h1 _ => ?_
  refine Back_ok hcv (hH.ext e2) fit fun s3 w4 e4 h3 _ => ?_
  exact Meet_ok (fwd_rz s) (bck_rz t) (h1.ext e4).view h3.view h1.cap h3.cap fun w' e => hk w' ((e2.trans e4).trans e)
theorem Far_ok (hcv : SpaceCV CV) {s t : Int} {K : Int → World → Prop} (hH : HierA w p rank ways F) (fit : FitH rank ways) (hk : ∀ w', Ext w w' → K (whereF rank ways s t).1 w') : sh_query_Far CV p s t K w := by
  unfold sh_query_Far
  exact Where_ok hcv hH fit hk

/-! ### One hierarchy is known -/
/-! ### As far as the map -/
theorem sum_w (fit : FitH rank ways) {s t : Nat} (hs : s < rank.length) (ht : t < rank.length) {m : Nat} (hm : m < rank.length) (h1 : 0 ≤ clF rank ways rank.length false s m) (h2 : 0 ≤ clF rank ways rank.length true t m) :
    IntKind.i64.wrap (clF rank ways rank.length false s m + clF rank ways rank.length true t m) = clF rank ways rank.length false s m + clF rank ways rank.length true t m := by
  have a := wk_len fit ((clF_is (top := (rank.length : Int)) (back := false) fit hs m).wk h1)
  have b := wk_len fit ((clF_is (top := (rank.length : Int)) (back := true) fit ht m).wk h2)
  have := okR_rk fit.ok hs; have := okR_rk fit.ok ht; have := okR_rk fit.ok hm
  have := fit.n
  exact w64 (by omega) (by omega)
end
end Go.Sh

/- Climb, Fall, Route, Arcs: the program. -/
set_option maxRecDepth 100000
namespace Go.Sh
open Go.RowKit

structure UnCV (CV : CVT) : Prop where
  sp : SpaceCV CV
  ch : ChainCV CV

noncomputable def routeL (rank : List Int) (ways : List Wy) (s t : Int) : List Int := if s = t ∧ 0 ≤ s ∧ s < rank.length then [] else if (whereF rank ways s t).2 < 0 then [] else climbL rank ways s (whereF rank ways s t).2 ++ fallL rank ways (whereF rank ways s t).2 t
noncomputable def routeB (rank : List Int) (ways : List Wy) (s t : Int) : Bool := decide ((s = t ∧ 0 ≤ s ∧ s < rank.length) ∨ 0 ≤ (whereF rank ways s t).2)

section
variable {CV : CVT} {w : World} {p : Option Addr} {rank : List Int} {ways : List Wy} {F : Nat → Prop}
theorem clF_ge (fit : FitH rank ways) {back : Bool} (s : Int) (v : Nat) : clF rank ways rank.length back s v = -1 ∨ 0 ≤ clF rank ways rank.length back s v := by
  by_cases hs : 0 ≤ s ∧ s < rank.length
  · obtain ⟨a, rfl⟩ := Int.eq_ofNat_of_zero_le hs.1
    exact (clF_is fit (show a < rank.length by omega) v).ge
  · exact .inl (clF_no hs v)
theorem findR_cl (fit : FitH rank ways) {back : Bool} (s m : Int) : findR (rowsL rank.length (clF rank ways rank.length back s) fun _ => true) m = if 0 ≤ m ∧ m < rank.length then clF rank ways rank.length back s m.toNat else -1 := by
  by_cases hm : 0 ≤ m ∧ m < rank.length
  · rw [if_pos hm]
    obtain ⟨v, rfl⟩ := Int.eq_ofNat_of_zero_le hm.1
    rw [Int.toNat_natCast]
    rcases clF_ge fit (back := back) s v with q | h0
    · rw [q, findR_not fun e he => ?_]
      obtain ⟨u, _, hu, _, rfl⟩ := rowsL_mem.1 he
      intro e
      have : u = v := by simp only at e; omega
      subst this; omega
    · exact findR_rows (by omega) h0 rfl
  · rw [if_neg hm]
    refine findR_not fun e he h => ?_
    obtain ⟨u, h1, _, _, rfl⟩ := rowsL_mem.1 he
    exact hm (by simp only at h; omega)
theorem findR_in (fit : FitH rank ways) {back : Bool} (s m : Int) : (findR (rowsL rank.length (clF rank ways rank.length back s) fun _ => true) m == -1) = !clB rank ways back s m := by
  rw [findR_cl fit]
  by_cases h : ClIn rank ways back s m
  · rw [clB_t h]
    obtain ⟨h1, h2, h3⟩ := clIn_iff.1 h
    rw [if_pos ⟨h1, h2⟩, show (clF rank ways rank.length back s m.toNat == -1) = false by rw [beq_eq_false_iff_ne]; omega]; rfl
  · rw [clB_f h]
    rw [clIn_iff] at h
    split
    · rename_i hm
      rcases clF_ge fit (back := back) s m.toNat with q | q
      · rw [q]; rfl
      · exact absurd ⟨hm.1, hm.2, q⟩ h
    · rfl

theorem Climb_ok (hcv : UnCV CV) {s m : Int} {K : SV → Bool → World → Prop} (hH : HierA w p rank ways F) (fit : FitH rank ways)
    (hk : ∀ t w', Ext w w' → Own RI w' t (climbL rank ways s m) → Fsh w t → K t (clB rank ways false s m) w') : sh_unpack_Climb CV p s m K w := by
  have hn := fit.n
  unfold sh_unpack_Climb
  refine Forward_ok hcv.sp hH fit fun s1 w2 e2 o1 f1 => ?_
  have lrow := rowsL_len rank.length (clF rank ways rank.length false s) fun _ => true
  refine Find_ok o1.view (by omega) fun w4 e4 => ?_
  rw [findR_in fit]
  by_cases hc : ClIn rank ways false s m
  case neg =>
    have hb : clB rank ways false s m = false := clB_f hc
    unfold climbL at hk
    rw [if_neg hc, hb] at hk
    rw [hb, Bool.not_false, cond_true]
    exact hk _ w4 (e2.trans e4) Own.nil fsh_nil
  have hb : clB rank ways false s m = true := clB_t hc
  unfold climbL at hk
  rw [if_pos hc, hb] at hk
  rw [hb, Bool.not_true, cond_false]
  obtain ⟨hs0, hs1, hm0, hm1, h0⟩ := hc
  obtain ⟨a, rfl⟩ := Int.eq_ofNat_of_zero_le hs0
  obtain ⟨b, rfl⟩ := Int.eq_ofNat_of_zero_le hm0
  rw [Int.toNat_natCast] at h0
  rw [Int.toNat_natCast, Int.toNat_natCast] at hk
  intro b5 w6 e6 g5 g5'
  have z2 := e2.size; have z4 := e4.size; have z6 := e6.size
  have e06 := (e2.trans e4).trans e6
  obtain ⟨_, hlen⟩ := chnF_is (back := false) fit (show a < rank.length by omega) (show b < rank.length by omega) h0
  refine chain_ok (back := false) hcv.ch fit (hH.ext e06) (by omega) (by omega) h0 ⟨_, _, _, rfl⟩ ((o1.ext e4).ext e6).view (fun CV1 h1 w1 e1 u v K' hK' => h1.hf p u v _ _ (HFind_ok (hH.ext (e06.trans e1)) (hK' _ (.refl _)))) fun s7 w8 e8 o7 f7 => ⟨kp1 e8 (by omega), ?_⟩
  generalize chnF rank ways false a b = ch at hlen o7 hk
  have z8 := e8.size
  intro b9 w10 e10 g9 g9' hB9
  have z10 := e10.size
  refine ⟨kp1 e10 (by omega), fun hB5 D l w13 e13 gD hDl hl => ?_⟩
  have z13 := e13.size
  have e013 := ((e06.trans e8).trans e10).trans e13
  have n59 : b5 ≠ b9 := by omega
  have n75 : ∀ k, s7.blk k → k ≠ b5 ∧ k ≠ l ∧ k ≠ D ∧ k < w13.heap.size := fun k hk => by have := f7 k hk; have := o7.lt hk; omega
  unfold sh_slices_Backward_int_int__c1
  have cB9 : ∀ {w' : World}, Blk w' b9 [.slice s7.a s7.len s7.cap] → w'.cell? (⟨b9, 0, none⟩ : Addr) = some (.slice s7.a s7.len s7.cap) := fun h => by rw [cell_blk h]; rfl
  have l7 := o7.view.len
  refine ⟨s7, cB9 (e13.blkE hB9), ?_⟩
  refine LoopT.gh (γ := Nat × SV) (fun g (st : Int × Unit) w' => st.1 = (ch.length : Int) - 1 - g.1 ∧ g.1 ≤ ch.length ∧ Ext w w' ∧ w13.heap.size ≤ w'.heap.size ∧ Blk w' b5 [.slice g.2.a g.2.len g.2.cap] ∧ Own RI w' g.2 (ch.reverse.take g.1) ∧ (∀ k, g.2.blk k → w13.heap.size ≤ k) ∧ w'.heap[l]? = w13.heap[l]? ∧ w'.heap[D]? = w13.heap[D]? ∧ Blk w' b9 [.slice s7.a s7.len s7.cap] ∧ Own RI w' s7 ch) (fun g => ch.length - g.1)
    (0, ⟨none, 0, 0⟩) ⟨by dsimp only; rw [l7, w64 (by omega) (by omega)]; omega, Nat.zero_le _, e013, Nat.le_refl _, e13.blkE hB5, Own.nil, (fun k ⟨q, hq, _⟩ => by cases hq), rfl, rfl, e13.blkE hB9, (o7.ext e10).ext e13⟩ ?_
  rintro ⟨d, so⟩ ⟨x, _⟩ w16 ⟨hx, hd, e16, z16, hB5, hO, fO, hl16, hD16, hB9, o7⟩ J1 hJ1
  dsimp only at hx hd hB5 hO fO ⊢
  subst hx
  rw [Bool.cond_decide]
  by_cases hc : (ch.length : Int) - 1 - d ≥ 0
  · rw [if_pos hc]
    refine ⟨s7, cB9 hB9, ?_⟩
    have hi : ch.length - 1 - d < ch.length := by omega
    rw [show (ch.length : Int) - 1 - d = ((ch.length - 1 - d : Nat) : Int) by omega]
    refine int_idx o7.view hi fun _ a0 => ⟨_, a0, ?_⟩
    refine ⟨hl16, fun w18 o18 => ?_⟩
    have z18 := o18.size
    have B5 := hB5.off o18 (show b5 ≠ l by omega)
    refine ⟨so, by rw [cell_blk B5]; rfl, ?_⟩
    have hO18 := hO.off o18 fun h => by have := fO _ h; omega
    have hlt : (ch.reverse.take d).length < 2 ^ 40 := by rw [List.length_take]; omega
    refine push_ok (R := RI) (x := ch[ch.length - 1 - d]) hO18 (by omega) (by omega) fun w21 s22 w23 e21 c23 hs22 hO22 => ?_
    have z21 := e21.size; have z23 := c23.size
    refine ⟨kc1 c23 (by omega) fun h => by have := fO _ h; omega, ?_⟩
    have f22 : ∀ k, s22.blk k → w13.heap.size ≤ k := fun k hk => by
      rcases hs22 k hk with q | q
      · exact fO k q
      · omega
    refine stL_blk (b := b5) (o := 0) _ 0 _ _ _ (c23.blk (e21.blkE B5) fun h => by have := fO _ h; omega) (by simp) fun w24 o24 B5' => ?_
    have z24 := o24.size
    refine ⟨kp_chg (.of_off (F := fun i => i = b5) o24 rfl) fun i hi => by simp only [List.mem_cons, List.not_mem_nil, or_false] at hi; omega, fun w25 o25 hl25 => ?_⟩
    have z25 := o25.size
    rw [Bool.not_true, cond_false]
    have e18 : Ext w w18 := ext_off e16 o18 (by omega)
    have e23 : Ext w w23 := ext_chg (e18.trans e21) c23 fun k hk => by have := fO k hk; have := e013.size; omega
    have e25 : Ext w w25 := ext_off (ext_off e23 o24 (by omega)) o25 (by omega)
    have D25 : w25.heap[D]? = w13.heap[D]? := by
      rw [o25.block D (by omega), o24.block D (by omega), c23.block D (by omega) (fun h => by have := fO _ h; omega), e21.blk (by omega), o18.block D (by omega)]; exact hD16
    have B9' : Blk w25 b9 [.slice s7.a s7.len s7.cap] := ((c23.blk (e21.blkE (hB9.off o18 (show b9 ≠ l by omega))) fun h => by have := fO _ h; omega).off o24 (Ne.symm n59)).off o25 (by omega)
    have o7' : Own RI w25 s7 ch := (((((o7.off o18 fun h => (n75 _ h).2.1 rfl).ext e21).chg c23 fun k h1 h2 => by have := n75 k h1; have := fO k h2; omega).off o24 fun h => (n75 _ h).1 rfl).off o25 fun h => (n75 _ h).2.1 rfl)
    refine hJ1 (d + 1, s22) _ w25 ⟨by dsimp only; rw [w64 (by omega) (by omega)]; omega, by dsimp only; omega, e25, by omega, B5'.off o25 (by omega), ?_, f22, hl25, D25, B9', o7'⟩ (by dsimp only; omega)
    have e : ch.reverse.take (d + 1) = ch.reverse.take d ++ [ch[ch.length - 1 - d]] := by
      rw [take_snoc' (by rw [List.length_reverse]; omega), List.getElem_reverse]
    rw [e]
    exact (hO22.off o24 fun h => by have := f22 _ h; omega).off o25 fun h => by have := f22 _ h; omega
  · rw [if_neg hc]
    have : d = ch.length := by omega
    subst this
    rw [List.take_of_length_le (by rw [List.length_reverse]; exact Nat.le_refl _)] at hO
    refine ⟨fun c hc => by simp only [List.mem_cons, List.not_mem_nil, or_false] at hc; subst hc; exact hD16, .inl ⟨hl16, fun w27 o27 => ⟨so, by rw [cell_blk (hB5.off o27 (show b5 ≠ l by omega))]; rfl, fun w29 o29 => ?_⟩⟩⟩
    have z27 := o27.size
    refine hk so w29 (ext_off (ext_off e16 o27 (by omega)) o29 (by omega)) ((hO.off o27 fun h => by have := fO _ h; omega).off o29 fun h => by have := fO _ h; omega) fun k hk => by have := fO k hk; have := e013.size; omega

theorem Fall_ok (hcv : UnCV CV) {m t : Int} {K : SV → Bool → World → Prop} (hH : HierA w p rank ways F) (fit : FitH rank ways)
    (hk : ∀ s w', Ext w w' → Own RI w' s (fallL rank ways m t) → Fsh w s → K s (clB rank ways true t m) w') : sh_unpack_Fall CV p m t K w := by
  have hn := fit.n
  unfold sh_unpack_Fall
  intro b1 w2 e2 g1 g1'
  have z2 := e2.size
  refine Back_ok hcv.sp (hH.ext e2) fit fun s3 w4 e4 o3 f3 => ⟨kp1 e4 (by omega), ?_⟩
  have z4 := e4.size
  have lrow := rowsL_len rank.length (clF rank ways rank.length true t) fun _ => true
  refine Find_ok o3.view (by omega) fun w6 e6 => ⟨kp1 e6 (by omega), ?_⟩
  have z6 := e6.size
  have e06 := (e2.trans e4).trans e6
  rw [findR_in fit]
  by_cases hc : ClIn rank ways true t m
  case neg =>
    have hb : clB rank ways true t m = false := clB_f hc
    unfold fallL at hk
    rw [if_neg hc, hb] at hk
    rw [hb, Bool.not_false, cond_true]
    exact hk _ w6 e06 Own.nil fsh_nil
  have hb : clB rank ways true t m = true := clB_t hc
  unfold fallL at hk
  rw [if_pos hc, hb] at hk
  rw [hb, Bool.not_true, cond_false]
  obtain ⟨hs0, hs1, hm0, hm1, h0⟩ := hc
  obtain ⟨a, rfl⟩ := Int.eq_ofNat_of_zero_le hs0
  obtain ⟨b, rfl⟩ := Int.eq_ofNat_of_zero_le hm0
  rw [Int.toNat_natCast] at h0
  rw [Int.toNat_natCast, Int.toNat_natCast] at hk
  intro hB1
  refine chain_ok (back := true) hcv.ch fit (hH.ext e06) (by omega) (by omega) h0 ⟨_, _, _, rfl⟩ (o3.ext e6).view (fun CV1 h1 w1 e1 u v K' hK' => h1.ff u v _ _ _ ⟨p, by rw [cell_blk (e1.blkE hB1)]; rfl, HFind_ok (hH.ext (e06.trans e1)) (hK' _ (.refl _))⟩) fun s7 w8 e8 o7 f7 => ?_
  exact hk s7 w8 (e06.trans e8) o7 fun k hk => by have := f7 k hk; omega

/-- Where climbs meet. -/
theorem where_in (fit : FitH rank ways) {s t : Int} (h : 0 ≤ (whereF rank ways s t).2) : ClIn rank ways false s (whereF rank ways s t).2 ∧ ClIn rank ways true t (whereF rank ways s t).2 ∧
    (whereF rank ways s t).1 = clF rank ways rank.length false s (whereF rank ways s t).2.toNat + clF rank ways rank.length true t (whereF rank ways s t).2.toNat := by
  have h0 : ∀ pq ∈ com (fwdL rank ways s) (bckL rank ways t), 0 ≤ pq.1.1 := fun pq hpq => by
    have := (com_mem.1 hpq).1
    unfold fwdL at this
    obtain ⟨v, _, _, _, he⟩ := rowsL_mem.1 this
    rw [he]; simp only; omega
  have hw : whereF rank ways s t = meetD (com (fwdL rank ways s) (bckL rank ways t)) := rfl
  rcases meet_at h0 with ⟨_, hm⟩ | ⟨pq, hpq, hm, _⟩
  · rw [hw, hm] at h; exact absurd h (by decide)
  · obtain ⟨c1, c2, c3⟩ := com_mem.1 hpq
    unfold fwdL at c1; unfold bckL at c2
    obtain ⟨a, a1, a2, _, a3⟩ := rowsL_mem.1 c1
    obtain ⟨b, b1, b2, _, b3⟩ := rowsL_mem.1 c2
    rw [a3, b3] at c3
    have : a = b := by simp only at c3; omega
    subst this
    rw [hw, hm]
    unfold sumP
    rw [a3, b3]
    simp only [Int.toNat_natCast]
    have i1 : ClIn rank ways false s (a : Int) := clIn_iff.2 ⟨by omega, by omega, by rw [Int.toNat_natCast]; exact a2⟩
    have i2 : ClIn rank ways true t (a : Int) := clIn_iff.2 ⟨by omega, by omega, by rw [Int.toNat_natCast]; exact b2⟩
    refine ⟨i1, i2, ?_⟩
    obtain ⟨s', rfl⟩ := Int.eq_ofNat_of_zero_le i1.1
    obtain ⟨t', rfl⟩ := Int.eq_ofNat_of_zero_le i2.1
    exact sum_w fit (by have := i1.2.1; omega) (by have := i2.2.1; omega) a1 a2 b2
theorem routeL_len (fit : FitH rank ways) (s t : Int) : (routeL rank ways s t).length ≤ 2 * rank.length := by
  unfold routeL
  split
  · simp
  · split
    · simp
    · rw [List.length_append]
      have := climbL_len fit s (whereF rank ways s t).2
      have := fallL_len fit (whereF rank ways s t).2 t
      omega
theorem Route_ok (hcv : UnCV CV) {s t : Int} {K : SV → Bool → World → Prop} (hH : HierA w p rank ways F) (fit : FitH rank ways)
    (hk : ∀ r w', Ext w w' → Own RI w' r (routeL rank ways s t) → Fsh w r → K r (routeB rank ways s t) w') : sh_unpack_Route CV p s t K w := by
  have hn := fit.n
  unfold sh_unpack_Route
  refine Join.cut (fun _ w' => w' = w ∧ ¬ (s = t ∧ 0 ≤ s ∧ s < rank.length)) (fun J hJ => ?_) ?_
  · by_cases hst : s = t
    · rw [show (s == t) = true by rw [beq_iff_eq]; exact hst, cond_true]
      refine Rank_ok hH ?_
      have hneg := rankF_neg hH.ok (v := s)
      rw [Bool.cond_decide]; split
      · rename_i h
        have hin : 0 ≤ s ∧ s < rank.length := Classical.byContradiction fun q => by have := hneg.2 q; omega
        unfold routeL routeB at hk
        rw [if_pos ⟨hst, hin⟩, decide_eq_true (.inl ⟨hst, hin⟩)] at hk
        exact hk _ w (.refl _) Own.nil fsh_nil
      · rename_i h
        exact hJ _ _ ⟨rfl, fun q => hneg.1 (by omega) q.2⟩
    · rw [show (s == t) = false by rw [beq_eq_false_iff_ne]; exact hst, cond_false]
      exact hJ _ _ ⟨rfl, fun q => hst q.1⟩
  · rintro _ w5 ⟨rfl, hno⟩
    unfold routeL routeB at hk
    rw [if_neg hno] at hk
    refine Where_ok hcv.sp hH fit fun w8 e8 => ?_
    refine Climb_ok hcv (hH.ext e8) fit fun s9 w11 e11 o9 f9 => ?_
    by_cases hm : 0 ≤ (whereF rank ways s t).2
    · obtain ⟨i1, i2, _⟩ := where_in fit hm
      rw [if_neg (by omega), decide_eq_true (.inr hm)] at hk
      rw [show clB rank ways false s (whereF rank ways s t).2 = true from clB_t i1, Bool.not_true, cond_false, show ((whereF rank ways s t).2 == -1) = false by rw [beq_eq_false_iff_ne]; omega, cond_false]
      refine Fall_ok hcv (hH.ext (e8.trans e11)) fit fun s12 w14 e14 o12 f12 => ?_
      have l1 := climbL_len fit s (whereF rank ways s t).2
      have l2 := fallL_len fit (whereF rank ways s t).2 t
      have z8 := e8.size; have z11 := e11.size; have z14 := e14.size
      refine Own.app (R := RI) (o9.ext e14) o12.view (by omega) (by omega) fun s15 w16 c16 h15 o15 => ?_
      refine hk s15 w16 (ext_chg ((e8.trans e11).trans e14) c16 fun k hk => by have := f9 k hk; omega) o15 fun k hk => ?_
      rcases h15 k hk with q | q
      · have := f9 k q; omega
      · omega
    · rw [if_pos (by omega), decide_eq_false (fun q => q.elim hno hm)] at hk
      have hni : ¬ ClIn rank ways false s (whereF rank ways s t).2 := fun h => hm h.2.2.1
      rw [show clB rank ways false s (whereF rank ways s t).2 = false from clB_f hni, Bool.not_false, cond_true]
      exact hk _ w11 (e8.trans e11) Own.nil fsh_nil
theorem Arcs_ok (hcv : UnCV CV) {s t : Int} {K : SV → Int → Bool → World → Prop} (hH : HierA w p rank ways F) (fit : FitH rank ways) (hr : rank.length ≤ 14)
    (hk : ∀ r w', Ext w w' → Own RI w' r ((routeL rank ways s t).flatMap (opnF ways)) → Fsh w r → K r (if routeB rank ways s t = true then (whereF rank ways s t).1 else -1) (routeB rank ways s t) w') : sh_unpack_Arcs CV p s t K w := by
  unfold sh_unpack_Arcs
  refine Route_ok hcv hH fit fun s1 w3 e3 o1 f1 => ?_
  cases hb : routeB rank ways s t with
  | false =>
    rw [Bool.not_false, cond_true]
    rw [hb] at hk
    have he : routeL rank ways s t = [] := by
      unfold routeB at hb
      rw [decide_eq_false_iff_not, not_or] at hb
      unfold routeL
      rw [if_neg hb.1, if_pos (by omega)]
    rw [he] at hk
    exact hk _ w3 e3 Own.nil fsh_nil
  | true =>
    rw [Bool.not_true, cond_false]
    rw [hb] at hk
    have hl := routeL_len fit s t
    have hs := szs_fit fit.ok hr (routeL rank ways s t)
    have z3 := e3.size
    refine open_ok (hH.ext e3) o1.view (by omega) fun s4 w5 e5 o4 f4 => ?_
    refine Far_ok hcv.sp (hH.ext (e3.trans e5)) fit fun w7 e7 => ?_
    exact hk s4 w7 ((e3.trans e5).trans e7) (o4.ext e7) fun k hk => by have := f4 k hk; omega
end
end Go.Sh

/- To many, and from many. -/
set_option maxRecDepth 100000
namespace Go.Sh
open Go.RowKit

section
variable {CV : CVT} {w : World} {p : Option Addr} {rank : List Int} {ways : List Wy} {F : Nat → Prop}

/-- Sums of what both lists have are of numbers. -/
theorem com_nn (fit : FitH rank ways) {s t : Int} {pq : Rc2 × Rc2} (h : pq ∈ com (fwdL rank ways s) (bckL rank ways t)) : 0 ≤ pq.1.1 ∧ 0 ≤ sumP pq := by
  obtain ⟨c1, c2, c3⟩ := com_mem.1 h
  unfold fwdL at c1; unfold bckL at c2
  obtain ⟨a, a1, a2, _, a3⟩ := rowsL_mem.1 c1
  obtain ⟨b, b1, b2, _, b3⟩ := rowsL_mem.1 c2
  rw [a3, b3] at c3
  have : a = b := by simp only at c3; omega
  subst this
  have hs : 0 ≤ s ∧ s < rank.length := by
    by_cases q : 0 ≤ s ∧ s < rank.length
    · exact q
    · rw [clF_no q] at a2; omega
  have ht : 0 ≤ t ∧ t < rank.length := by
    by_cases q : 0 ≤ t ∧ t < rank.length
    · exact q
    · rw [clF_no q] at b2; omega
  obtain ⟨s, rfl⟩ := Int.eq_ofNat_of_zero_le hs.1
  obtain ⟨t, rfl⟩ := Int.eq_ofNat_of_zero_le ht.1
  unfold sumP
  rw [a3, b3]
  simp only
  rw [sum_w fit (by omega) (by omega) a1 a2 b2]
  exact ⟨by omega, by omega⟩
end
end Go.Sh

/- Tables; QueryMany, QueryTables. -/
set_option maxRecDepth 100000
namespace Go.Sh
open Go.RowKit

section
variable {w0 w w' : World} {s : SV} {svs : List SV} {L : List (List Int)}
end

section
variable {CV : CVT} {w : World} {p : Option Addr} {rank : List Int} {ways : List Wy} {F : Nat → Prop} {sr sy : SV}
end
end Go.Sh

/- Climb, Fall, Route, Arcs: the reference. -/
set_option maxRecDepth 100000
namespace Go.Sh
open Go.RowKit

section
variable {w : World} {rank : List Int} {ways : List Wy} {sr sy : SV} {back : Bool}
end
end Go.Sh

/- The reference's answers out of the table; what is known. -/
set_option maxRecDepth 100000
namespace Go.Sh
open Go.RowKit

section
variable {CV : CVT} {w : World} {N : Int} {s : SV} {arcs : List Arc}

section
variable {t : SV} {svs : List SV} {n : Nat}
end

end
end Go.Sh

/- UnpackRoutes, UnpackSelf, UnpackWalks, UnpackMeets. -/
set_option maxRecDepth 100000
namespace Go.Sh
open Go.RowKit

section
variable {CV : CVT} {w : World} {rank : List Int} {ways : List Wy} {sr sy : SV}
theorem where_self (fit : FitH rank ways) {s : Nat} (hs : s < rank.length) : (whereF rank ways (s : Int) (s : Int)).1 = 0 := by
  have h0 : ∀ pq ∈ com (fwdL rank ways (s : Int)) (bckL rank ways (s : Int)), 0 ≤ pq.1.1 := fun pq hpq => by
    have := (com_mem.1 hpq).1
    unfold fwdL at this
    obtain ⟨v, _, _, _, he⟩ := rowsL_mem.1 this
    rw [he]; simp only; omega
  have hw : whereF rank ways (s : Int) (s : Int) = meetD (com (fwdL rank ways (s : Int)) (bckL rank ways (s : Int))) := rfl
  have c1 : clF rank ways rank.length false (s : Int) s = 0 := cl_self fit hs
  have c2 : clF rank ways rank.length true (s : Int) s = 0 := cl_self fit hs
  have mem : (((s : Int), 0), ((s : Int), 0)) ∈ com (fwdL rank ways (s : Int)) (bckL rank ways (s : Int)) := by
    rw [com_mem]
    unfold fwdL bckL
    rw [rowsL_mem, rowsL_mem]
    exact ⟨⟨s, hs, by rw [c1]; exact Int.le_refl _, rfl, by rw [c1]⟩, ⟨s, hs, by rw [c2]; exact Int.le_refl _, rfl, by rw [c2]⟩, rfl⟩
  rcases meet_at h0 with ⟨he, _⟩ | ⟨pq, hpq, hm, hmin⟩
  · rw [he] at mem; simp at mem
  · have h1 := hmin _ mem
    have h2 := (com_nn fit hpq).2
    have e0 : sumP (((s : Int), 0), ((s : Int), 0)) = 0 := by show IntKind.i64.wrap ((0 : Int) + 0) = 0; decide
    rw [e0] at h1
    rw [hw, hm]
    simp only; omega
/-- A climb's ways. -/
theorem climb_ww (fit : FitH rank ways) {s m : Int} (h : ClIn rank ways false s m) : WW ways s (climbL rank ways s m) m (clF rank ways rank.length false s m.toNat) ∧ ∀ x ∈ climbL rank ways s m, ∃ k : Nat, x = (k : Int) ∧ ∃ hk : k < ways.length, rkA rank (yF ways[k]) < rkA rank (yT ways[k]) := by
  have h' := h
  obtain ⟨h1, h2, h3, h4, h5⟩ := h
  obtain ⟨a, rfl⟩ := Int.eq_ofNat_of_zero_le h1
  obtain ⟨b, rfl⟩ := Int.eq_ofNat_of_zero_le h3
  rw [Int.toNat_natCast] at h5
  obtain ⟨hC, _⟩ := chnF_is (back := false) fit (show a < rank.length by omega) (show b < rank.length by omega) h5
  unfold climbL
  rw [if_pos h', Int.toNat_natCast, Int.toNat_natCast]
  exact ⟨hC.up (cl_self fit (by omega)), fun x hx => hC.rank_ x (List.mem_reverse.1 hx)⟩
theorem fall_ww (fit : FitH rank ways) {m t : Int} (h : ClIn rank ways true t m) : WW ways m (fallL rank ways m t) t (clF rank ways rank.length true t m.toNat) ∧ ∀ x ∈ fallL rank ways m t, ∃ k : Nat, x = (k : Int) ∧ ∃ hk : k < ways.length, rkA rank (yT ways[k]) < rkA rank (yF ways[k]) := by
  have h' := h
  obtain ⟨h1, h2, h3, h4, h5⟩ := h
  obtain ⟨a, rfl⟩ := Int.eq_ofNat_of_zero_le h1
  obtain ⟨b, rfl⟩ := Int.eq_ofNat_of_zero_le h3
  rw [Int.toNat_natCast] at h5
  obtain ⟨hC, _⟩ := chnF_is (back := true) fit (show a < rank.length by omega) (show b < rank.length by omega) h5
  unfold fallL
  rw [if_pos h', Int.toNat_natCast, Int.toNat_natCast]
  exact ⟨hC.dn (cl_self fit (by omega)), fun x hx => hC.rank_ x hx⟩
/-- The next one of a walk by ways. -/
theorem WW.next {l : List Int} {u v x : Int} {i : Nat} (h : WW ways u (l.drop i) v x) (hi : i < l.length) : ∃ (k : Nat) (hk : k < ways.length) (y : Int), l[i] = (k : Int) ∧ yF ways[k] = u ∧ WW ways (yT ways[k]) (l.drop (i + 1)) v y ∧ x = yW ways[k] + y := by
  rw [List.drop_eq_getElem_cons hi] at h
  generalize hx : l[i] = a at h
  generalize hr : l.drop (i + 1) = r at h
  cases h with
  | @cons k _ _ y hk c => exact ⟨k, hk, y, rfl, rfl, c, rfl⟩
theorem WW.nil_ {u v x : Int} (h : WW ways u [] v x) : u = v ∧ x = 0 := by
  generalize hl : ([] : List Int) = l at h
  cases h with
  | nil => exact ⟨rfl, rfl⟩
  | cons _ _ => cases hl
theorem way_rk (ok : OkH rank ways) {k : Nat} (hk : k < ways.length) : rankF rank (yF ways[k]) = rkA rank (yF ways[k]) ∧ rankF rank (yT ways[k]) = rkA rank (yT ways[k]) := by
  have hf := ok.f k hk; unfold OkF at hf
  unfold rankF
  rw [if_pos (by omega), if_pos (by omega)]
  exact ⟨rfl, rfl⟩

end
end Go.Sh

/- UnpackWalks, UnpackMeets. -/
set_option maxRecDepth 100000
namespace Go.Sh
open Go.RowKit

section
variable {CV : CVT} {w : World} {rank : List Int} {ways : List Wy} {sr sy : SV}
/-- A route's ways. -/
theorem route_ww (fit : FitH rank ways) {s t : Int} (h : routeB rank ways s t = true) : WW ways s (routeL rank ways s t) t (whereF rank ways s t).1 := by
  unfold routeB at h
  rw [decide_eq_true_iff] at h
  unfold routeL
  by_cases hst : s = t ∧ 0 ≤ s ∧ s < rank.length
  · rw [if_pos hst]
    obtain ⟨rfl, h0, h1⟩ := hst
    obtain ⟨a, rfl⟩ := Int.eq_ofNat_of_zero_le h0
    rw [where_self fit (by omega)]
    exact .nil
  · rw [if_neg hst]
    have hm := h.resolve_left hst
    rw [if_neg (by omega)]
    obtain ⟨i1, i2, he⟩ := where_in fit hm
    rw [he]
    exact (climb_ww fit i1).1.app (fall_ww fit i2).1
/-- How far it goes up. -/
noncomputable def upN (rank : List Int) (ways : List Wy) (s t : Int) : Nat := if s = t ∧ 0 ≤ s ∧ s < rank.length then 0 else if (whereF rank ways s t).2 < 0 then 0 else (climbL rank ways s (whereF rank ways s t).2).length
theorem route_up (fit : FitH rank ways) {s t : Int} {i k : Nat} (hi : i < (routeL rank ways s t).length) (hk : k < ways.length) (h : (routeL rank ways s t)[i] = (k : Int)) :
    (i < upN rank ways s t → rkA rank (yF ways[k]) < rkA rank (yT ways[k])) ∧ (upN rank ways s t ≤ i → rkA rank (yT ways[k]) < rkA rank (yF ways[k])) := by
  have hm := List.getElem_mem hi
  rw [h] at hm
  by_cases hst : s = t ∧ 0 ≤ s ∧ s < rank.length
  · unfold routeL at hm; rw [if_pos hst] at hm; simp at hm
  by_cases hwn : (whereF rank ways s t).2 < 0
  · unfold routeL at hm; rw [if_neg hst, if_pos hwn] at hm; simp at hm
  obtain ⟨i1, i2, _⟩ := where_in fit (show 0 ≤ (whereF rank ways s t).2 by omega)
  have hR : routeL rank ways s t = climbL rank ways s (whereF rank ways s t).2 ++ fallL rank ways (whereF rank ways s t).2 t := by unfold routeL; rw [if_neg hst, if_neg hwn]
  have hN : upN rank ways s t = (climbL rank ways s (whereF rank ways s t).2).length := by unfold upN; rw [if_neg hst, if_neg hwn]
  rw [hN]
  have hg : (climbL rank ways s (whereF rank ways s t).2 ++ fallL rank ways (whereF rank ways s t).2 t)[i]? = some (k : Int) := by
    rw [← hR, List.getElem?_eq_getElem hi, h]
  constructor
  · intro hlt
    rw [List.getElem?_append_left hlt] at hg
    obtain ⟨k', hk', _, q⟩ := (climb_ww fit i1).2 _ (List.mem_of_getElem? hg)
    have := Int.ofNat_inj.1 hk'
    subst this
    exact q
  · intro hle
    rw [List.getElem?_append_right hle] at hg
    obtain ⟨k', hk', _, q⟩ := (fall_ww fit i2).2 _ (List.mem_of_getElem? hg)
    have := Int.ofNat_inj.1 hk'
    subst this
    exact q

theorem UnpackMeets_ok (hcv : UnCV CV) {s t : Int} {K : Bool → World → Prop} (hr : View RI w sr rank) (hy : View RW w sy ways) (hk : ∀ w', Ext w w' → K true w') : sh_postroadlaw13_UnpackMeets CV sr sy s t K w := by
  unfold sh_postroadlaw13_UnpackMeets
  intro b1 w2 e2 g1 g1'
  have z2 := e2.size
  have lr := hr.len; have ly := hy.len
  have kn : ∀ {wa}, w2.heap.size ≤ wa.heap.size → Ext w wa → sh_postroadlaw13_known (fun t w8 => Keeps [b1] wa w8 ∧ K t w8) wa := fun {wa} hz ea =>
    known13_ok fun w6 e6 => ⟨kp1 e6 (by omega), hk w6 (ea.trans e6)⟩
  refine Fit_ok (hr.ext e2) (hy.ext e2) fun b w4 e4 hb => ⟨kp1 e4 (by omega), ?_⟩
  have z4 := e4.size
  have e04 := e2.trans e4
  cases b with
  | false => rw [Bool.not_false, cond_true]; exact kn (by omega) e04
  | true =>
  rw [Bool.not_true, cond_false]
  obtain ⟨fit, hn, hm⟩ := hb rfl
  refine HNew_ok (hr.ext e04) (hy.ext e04) (by omega) (by omega) (fun _ p w8 F e8 hH _ => ⟨kp1 e8 (by omega), ?_⟩) fun hno => absurd fit.ok hno
  have z8 := e8.size
  have e08 := e04.trans e8
  refine Route_ok hcv hH fit fun s9 w11 e11 o9 _ => ⟨kp1 e11 (by omega), ?_⟩
  have z11 := e11.size
  refine Arcs_ok hcv (hH.ext e11) fit hn fun s12 w15 e15 o12 _ => ⟨kp1 e15 (by omega), ?_⟩
  have z15 := e15.size
  have e815 := e11.trans e15
  have o9 := o9.ext e15
  have l9 := o9.view.len
  cases hb : routeB rank ways s t with
  | false =>
    have he : routeL rank ways s t = [] := by
      unfold routeB at hb
      rw [decide_eq_false_iff_not, not_or] at hb
      unfold routeL
      rw [if_neg hb.1, if_pos (by omega)]
    rw [he, List.length_nil] at l9
    refine Join.cut (fun _ w' => w' = w15) (fun J hJ => ?_) ?_
    · rw [l9]
      exact hJ _ _ rfl
    · rintro _ w18 rfl
      rw [Bool.not_false, cond_true]
      exact kn (by omega) (e08.trans e815)
  | true =>
    have hww := route_ww fit hb
    have hup := fun {i k : Nat} => @route_up rank ways fit s t i k
    have hll := routeL_len fit s t
    generalize hN : upN rank ways s t = N at hup
    generalize routeL rank ways s t = L at hww hup hll o9 l9
    rw [if_pos rfl]
    refine Join.cut (fun _ w' => w' = w15) (fun J hJ => ?_) ?_
    · exact hJ _ _ rfl
    rintro _ w18 rfl
    rw [Bool.not_true, cond_false]
    refine Join.cut (fun (q : Int × Int × Unit) w' => Ext w18 w' ∧ q.1 = t ∧ q.2.1 = (whereF rank ways s t).1) (fun J hJ => ?_) ?_
    · refine LoopT.gh (γ := Nat) (fun i (st : Int × Bool × Int × Int × Unit) w' => st.2.2.2.1 = i ∧ i ≤ L.length ∧ Ext w18 w' ∧ st.2.1 = decide (N < i) ∧ 0 ≤ st.2.2.1 ∧ st.2.2.1 ≤ 1125899906842624 * (i : Int) ∧ ∃ y, WW ways st.1 (L.drop i) t y ∧ st.2.2.1 + y = (whereF rank ways s t).1) (fun i => L.length - i) 0
        ⟨rfl, Nat.zero_le _, .refl _, by simp, Int.le_refl _, by simp, _, hww, by simp⟩ ?_
      rintro i ⟨v, fell, d, x, _⟩ w24 ⟨hx, hi, e24, hfell, hd0, hd1, y, hy', hsum⟩ J1 hJ1
      dsimp only at hx hfell hd0 hd1 hy' hsum ⊢
      subst hx
      have z24 := e24.size
      rw [Bool.cond_decide]
      by_cases hci : (i : Int) < (s9.len : Int)
      · rw [if_pos hci]
        have hi' : i < L.length := by omega
        obtain ⟨k, hkl, y2, q1, q2, q3, q4⟩ := hy'.next hi'
        obtain ⟨u1, u2⟩ := hup hi' hkl q1
        have hwb := fit.b _ (List.getElem_mem hkl)
        have hf := fit.ok.f k hkl; unfold OkF at hf
        obtain ⟨r1, r2⟩ := way_rk fit.ok hkl
        refine Join.cut (fun (q : Int × Bool × Int × Unit) w' => Ext w18 w' ∧ q = (yT ways[k], decide (N < i + 1), d + yW ways[k], ())) (fun J2 hJ2 => ?_) ?_
        · refine int_idx (o9.ext e24).view hi' fun _ a0 => ⟨_, a0, ?_⟩
          rw [q1]
          have e824 := e815.trans e24
          refine HWay_ok (hH.ext e824) (fun j hj hjl w34 e34 => ⟨kp1 e34 (by omega), ?_⟩) fun hno => absurd ⟨by omega, by omega⟩ hno
          have := Int.ofNat_inj.1 hj
          subst this
          intro b35 w36 e36 g35 g35' w37 o37
          have z34 := e34.size; have z36 := e36.size; have z37 := o37.size
          have e37 : Ext w24 w37 := ext_off (e34.trans e36) o37 (by omega)
          refine Quiet.mk (rankF rank (yT ways[k])) (fun w' e K' hK' => Rank_ok (hH.ext ((e824.trans e37).trans e)) (hK' _ (.refl _))) ?_
          refine Quiet.mk (rankF rank (yF ways[k])) (fun w' e K' hK' => Rank_ok (hH.ext ((e824.trans e37).trans e)) (hK' _ (.refl _))) ?_
          intro w46 e46
          rw [r1, r2]
          have e46' := e24.trans (e37.trans e46)
          have hcase : (i < N ∧ fell = false ∧ rkA rank (yT ways[k]) > rkA rank (yF ways[k])) ∨ (N ≤ i ∧ ¬ rkA rank (yT ways[k]) > rkA rank (yF ways[k])) := by
            by_cases q : i < N
            · exact .inl ⟨q, by rw [hfell, decide_eq_false_iff_not]; omega, u1 q⟩
            · exact .inr ⟨by omega, by have := u2 (by omega); omega⟩
          refine Join.cut (fun _ w' => w' = w46) (fun J3 hJ3 => ?_) ?_
          · rw [Bool.not_true, cond_false, show (yF ways[k] != v) = false by rw [bne_eq_false_iff_eq]; exact q2, cond_false]
            rcases hcase with ⟨_, rfl, _⟩ | ⟨_, h⟩
            · exact hJ3 _ _ rfl
            · cases fell with
              | false => exact hJ3 _ _ rfl
              | true =>
                rw [cond_true, Bool.cond_decide, if_neg h]
                exact hJ3 _ _ rfl
          · rintro _ w49 rfl
            rw [w64 (by omega) (by omega)]
            rcases hcase with ⟨hlt, rfl, h⟩ | ⟨hle, h⟩
            · rw [cond_false, decide_eq_true h, Bool.not_true]
              exact hJ2 _ _ ⟨e46', by rw [decide_eq_false (by omega)]⟩
            · cases fell with
              | false =>
                rw [cond_false, decide_eq_false h, Bool.not_false]
                exact hJ2 _ _ ⟨e46', by rw [decide_eq_true (by omega)]⟩
              | true =>
                rw [cond_true]
                exact hJ2 _ _ ⟨e46', by rw [decide_eq_true (by omega)]⟩
        · rintro _ w51 ⟨e51, rfl⟩
          refine hJ1 (i + 1) _ _ ⟨wsucc (m := 2 ^ 40) (by omega) (by omega), by omega, e51, rfl, by dsimp only; omega, by dsimp only; omega, y2, q3, by dsimp only; omega⟩ (by omega)
      · rw [if_neg hci]
        have : i = L.length := by omega
        subst this
        rw [List.drop_length] at hy'
        obtain ⟨q1, q2⟩ := hy'.nil_
        exact hJ _ _ ⟨e24, q1, by dsimp only; omega⟩
    · rintro ⟨v, d, _⟩ w53 ⟨e53, h1, h2⟩
      dsimp only at h1 h2 ⊢
      rw [h1, h2]
      simp only [beq_self_eq_true, cond_true]
      exact kn (by have := e53.size; omega) ((e08.trans e815).trans e53)
end
end Go.Sh
