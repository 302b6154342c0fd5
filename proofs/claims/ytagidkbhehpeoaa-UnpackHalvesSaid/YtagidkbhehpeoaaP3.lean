/- HierRows, HierNew, HierApi, HierRef, HierRef2, HierTwo, HierTells, UnOpen, UnStack, SpClimb, RefMap, SpRows, RefLeft, RefNext, RefNear, SpRef, RefNeed, RefTake, RefBuild, RefBuild2, HierOfMaps, DistRef2, UnOpens, All0Ok, AllOk, Open, RowK: merged into one text. -/
import Derived.Test.YtagidkbhehpeoaaP2
import Derived.Test.YtagidkbhehpeoaaProg
import Derived.KernelRfl
import Derived.ProofKit
import Derived.OpenShut
import Derived.Test.YtagidkbhehpeoaaRows
import Derived.WalkKit
import Derived.SizedLaws
/- Rows of edges: a slice of slices. -/
set_option maxRecDepth 100000
namespace Go.Sh
open Go.RowKit

abbrev Edg := Int × Int × Int
structure Rows (w : World) (s : SV) (svs : List SV) (L : List (List Edg)) : Prop where
  so : Own RS w s svs
  len : svs.length = L.length
  row : ∀ v (h1 : v < svs.length) (h2 : v < L.length), Own RD w svs[v] L[v]
  dj : ∀ u v (hu : u < svs.length) (hv : v < svs.length), u ≠ v → ∀ k, svs[u].blk k → ¬ svs[v].blk k
  ds : ∀ v (hv : v < svs.length) k, svs[v].blk k → ¬ s.blk k
def rowsF (s : SV) (svs : List SV) (k : Nat) : Prop := s.blk k ∨ ∃ v, ∃ h : v < svs.length, svs[v].blk k

section
variable {w w' : World} {s : SV} {svs : List SV} {L : List (List Edg)}
theorem Rows.chg {G : Nat → Prop} (h : Rows w s svs L) (c : Chg G w w') (hd : ∀ k, rowsF s svs k → ¬ G k) : Rows w' s svs L :=
  ⟨h.so.chg c fun k hk => hd k (.inl hk), h.len, fun v h1 h2 => (h.row v h1 h2).chg c fun k hk => hd k (.inr ⟨v, h1, hk⟩), h.dj, h.ds⟩
theorem Rows.ext (h : Rows w s svs L) (e : Ext w w') : Rows w' s svs L := h.chg (G := fun _ => False) (.of_ext e) fun _ _ h => h
theorem Rows.lt (h : Rows w s svs L) {k : Nat} (hk : rowsF s svs k) : k < w.heap.size := by
  rcases hk with hk | ⟨v, hv, hk⟩
  · exact h.so.lt hk
  · exact (h.row v hv (by rw [← h.len]; exact hv)).lt hk
theorem Rows.nil {n : Nat} (h : Own RS w s (List.replicate n ⟨none, 0, 0⟩)) : Rows w s (List.replicate n ⟨none, 0, 0⟩) (List.replicate n []) := by
  refine ⟨h, by simp, fun v h1 h2 => ?_, fun u v hu hv _ k hk => ?_, fun v hv k hk => ?_⟩
  · simp only [List.getElem_replicate]; exact Own.nil
  · simp only [List.getElem_replicate] at hk; obtain ⟨p, hp, _⟩ := hk; cases hp
  · simp only [List.getElem_replicate] at hk; obtain ⟨p, hp, _⟩ := hk; cases hp
theorem rowsF_nil {n : Nat} {k : Nat} : rowsF s (List.replicate n ⟨none, 0, 0⟩) k ↔ s.blk k := by
  constructor
  · rintro (h | ⟨v, hv, hk⟩)
    · exact h
    · simp only [List.getElem_replicate] at hk; obtain ⟨p, hp, _⟩ := hk; cases hp
  · exact .inl

/-- A row that has grown is put back. -/
theorem Rows.store {w1 w2 : World} (h : Rows w s svs L) {v : Nat} (hv : v < svs.length) {s' : SV} {l' : List Edg} (c : Chg svs[v].blk w w1) (hs : ∀ k, s'.blk k → svs[v].blk k ∨ w.heap.size ≤ k) (hO : Own RD w1 s' l') (e : Ext w1 w2) {K : World → Prop}
    (hk : ∀ w3, Chg s.blk w2 w3 → Rows w3 s (svs.set v s') (L.set v l') → (∀ k, rowsF s (svs.set v s') k → rowsF s svs k ∨ w.heap.size ≤ k) → K w3) : Idx s.a s.len (v : Int) 1 (fun a => stL w2 a [.slice s'.a s'.len s'.cap] 0 K) := by
  have hs2 : Own RS w2 s svs := (h.so.chg c fun k h1 h2 => h.ds v hv k h2 h1).ext e
  refine own_wr (R := RS) hs2 hv fun b hb hput => ?_
  refine hput s' w2 _ hs2 fun w3 o hO3 => ?_
  have co : Chg s.blk w2 w3 := .of_off o ⟨_, hb, rfl⟩
  have nS : ∀ k, s'.blk k → ¬ s.blk k := fun k h1 h2 => by
    rcases hs k h1 with h' | h'
    · exact h.ds v hv k h' h2
    · have := h.so.lt h2; omega
  have hlen := h.len
  refine hk w3 co ⟨hO3, by simpa using hlen, fun u h1 h2 => ?_, fun u t hu ht hne k h1 h2 => ?_, fun u hu k h1 => ?_⟩ fun k hk => ?_
  · simp only [List.length_set] at h1 h2
    by_cases huv : v = u
    · subst huv
      simp only [List.getElem_set_self]
      exact (hO.ext e).chg co nS
    · simp only [List.getElem_set_ne huv]
      exact (((h.row u h1 h2).chg c fun k h3 h4 => h.dj u v h1 hv (Ne.symm huv) k h3 h4).ext e).chg co fun k h3 h4 => h.ds u h1 k h3 h4
  · simp only [List.length_set] at hu ht
    rw [List.getElem_set] at h1 h2
    split at h1
    · rename_i e1; subst e1
      rw [if_neg hne] at h2
      rcases hs k h1 with h' | h'
      · exact h.dj v t hv ht hne k h' h2
      · have := (h.row t ht (by omega)).lt h2; omega
    · rename_i e1
      split at h2
      · rename_i e2; subst e2
        rcases hs k h2 with h' | h'
        · exact h.dj v u hv hu e1 k h' h1
        · have := (h.row u hu (by omega)).lt h1; omega
      · exact h.dj u t hu ht hne k h1 h2
  · simp only [List.length_set] at hu
    rw [List.getElem_set] at h1
    split at h1
    · exact nS k h1
    · exact h.ds u hu k h1
  · rcases hk with hk | ⟨u, hu, hk⟩
    · exact .inl (.inl hk)
    · simp only [List.length_set] at hu
      rw [List.getElem_set] at hk
      split at hk
      · rcases hs k hk with h' | h'
        · exact .inl (.inr ⟨v, hv, h'⟩)
        · exact .inr h'
      · exact .inl (.inr ⟨u, hu, hk⟩)
end

/-- The ways up from v, and down to it, of the first i ways. -/
def wyA (ways : List Wy) (i : Nat) : Wy := ways.getD i (0, 0, 0, 0, 0)
theorem wyA_get {ways : List Wy} {i : Nat} (h : i < ways.length) : ways[i] = wyA ways i := by unfold wyA; rw [List.getD_eq_getElem?_getD, List.getElem?_eq_getElem h]; rfl
def IsUp (rank : List Int) (y : Wy) : Prop := rkA rank (yF y) < rkA rank (yT y)
instance (rank : List Int) (y : Wy) : Decidable (IsUp rank y) := by unfold IsUp; infer_instance
def upP (rank : List Int) (ways : List Wy) (v : Int) : Nat → List Edg
  | 0 => []
  | i + 1 => if yF (wyA ways i) = v ∧ IsUp rank (wyA ways i) then insE (yT (wyA ways i), yW (wyA ways i), (i : Int)) (upP rank ways v i) else upP rank ways v i
def dnP (rank : List Int) (ways : List Wy) (v : Int) : Nat → List Edg
  | 0 => []
  | i + 1 => if yT (wyA ways i) = v ∧ ¬ IsUp rank (wyA ways i) then insE (yF (wyA ways i), yW (wyA ways i), (i : Int)) (dnP rank ways v i) else dnP rank ways v i
theorem upP_mem {rank : List Int} {ways : List Wy} {v : Int} {e : Edg} : ∀ {i : Nat}, e ∈ upP rank ways v i ↔ ∃ k, k < i ∧ yF (wyA ways k) = v ∧ IsUp rank (wyA ways k) ∧ e = (yT (wyA ways k), yW (wyA ways k), (k : Int))
  | 0 => by simp [upP]
  | i + 1 => by
    unfold upP
    split
    · rename_i h
      rw [insE_mem, upP_mem]
      constructor
      · rintro (rfl | ⟨k, hk, h1⟩)
        · exact ⟨i, by omega, h.1, h.2, rfl⟩
        · exact ⟨k, by omega, h1⟩
      · rintro ⟨k, hk, h1⟩
        by_cases e : k = i
        · subst e; exact .inl h1.2.2
        · exact .inr ⟨k, by omega, h1⟩
    · rename_i h
      rw [upP_mem]
      constructor
      · rintro ⟨k, hk, h1⟩; exact ⟨k, by omega, h1⟩
      · rintro ⟨k, hk, h1⟩
        by_cases e : k = i
        · subst e; exact absurd ⟨h1.1, h1.2.1⟩ h
        · exact ⟨k, by omega, h1⟩
theorem dnP_mem {rank : List Int} {ways : List Wy} {v : Int} {e : Edg} : ∀ {i : Nat}, e ∈ dnP rank ways v i ↔ ∃ k, k < i ∧ yT (wyA ways k) = v ∧ ¬ IsUp rank (wyA ways k) ∧ e = (yF (wyA ways k), yW (wyA ways k), (k : Int))
  | 0 => by simp [dnP]
  | i + 1 => by
    unfold dnP
    split
    · rename_i h
      rw [insE_mem, dnP_mem]
      constructor
      · rintro (rfl | ⟨k, hk, h1⟩)
        · exact ⟨i, by omega, h.1, h.2, rfl⟩
        · exact ⟨k, by omega, h1⟩
      · rintro ⟨k, hk, h1⟩
        by_cases e : k = i
        · subst e; exact .inl h1.2.2
        · exact .inr ⟨k, by omega, h1⟩
    · rename_i h
      rw [dnP_mem]
      constructor
      · rintro ⟨k, hk, h1⟩; exact ⟨k, by omega, h1⟩
      · rintro ⟨k, hk, h1⟩
        by_cases e : k = i
        · subst e; exact absurd ⟨h1.1, h1.2.1⟩ h
        · exact ⟨k, by omega, h1⟩
theorem upP_rise {rank : List Int} {ways : List Wy} {n : Nat} (ok : OkFs n ways) (v : Int) : ∀ {i : Nat}, i ≤ ways.length → Rise (upP rank ways v i)
  | 0, _ => List.Pairwise.nil
  | i + 1, hi => by
    unfold upP
    split
    · rename_i h
      refine insE_rise (upP_rise ok v (by omega)) fun x hx heq => ?_
      obtain ⟨k, hk, h1, _, rfl⟩ := upP_mem.1 hx
      have := ok.uniq (j := k) (k := i) (by omega) (by omega) (by rw [wyA_get, wyA_get, h1, h.1]) (by rw [wyA_get, wyA_get]; exact heq)
      omega
    · exact upP_rise ok v (by omega)
theorem dnP_rise {rank : List Int} {ways : List Wy} {n : Nat} (ok : OkFs n ways) (v : Int) : ∀ {i : Nat}, i ≤ ways.length → Rise (dnP rank ways v i)
  | 0, _ => List.Pairwise.nil
  | i + 1, hi => by
    unfold dnP
    split
    · rename_i h
      refine insE_rise (dnP_rise ok v (by omega)) fun x hx heq => ?_
      obtain ⟨k, hk, h1, _, rfl⟩ := dnP_mem.1 hx
      have := ok.uniq (j := k) (k := i) (by omega) (by omega) (by rw [wyA_get, wyA_get]; exact heq) (by rw [wyA_get, wyA_get, h1, h.1])
      omega
    · exact dnP_rise ok v (by omega)
theorem upP_len (rank : List Int) (ways : List Wy) (v : Int) : ∀ i, (upP rank ways v i).length ≤ i
  | 0 => by simp [upP]
  | i + 1 => by
    have := upP_len rank ways v i
    unfold upP; split
    · rw [insE_len]; omega
    · omega
theorem dnP_len (rank : List Int) (ways : List Wy) (v : Int) : ∀ i, (dnP rank ways v i).length ≤ i
  | 0 => by simp [dnP]
  | i + 1 => by
    have := dnP_len rank ways v i
    unfold dnP; split
    · rw [insE_len]; omega
    · omega
def upsL (rank : List Int) (ways : List Wy) (i : Nat) : List (List Edg) := (List.range rank.length).map fun (v : Nat) => upP rank ways (v : Int) i
def dnsL (rank : List Int) (ways : List Wy) (i : Nat) : List (List Edg) := (List.range rank.length).map fun (v : Nat) => dnP rank ways (v : Int) i
theorem upsL_len (rank : List Int) (ways : List Wy) (i : Nat) : (upsL rank ways i).length = rank.length := by simp [upsL]
theorem dnsL_len (rank : List Int) (ways : List Wy) (i : Nat) : (dnsL rank ways i).length = rank.length := by simp [dnsL]
theorem upsL_get {rank : List Int} {ways : List Wy} {i v : Nat} (h : v < (upsL rank ways i).length) : (upsL rank ways i)[v] = upP rank ways (v : Int) i := by simp [upsL]
theorem dnsL_get {rank : List Int} {ways : List Wy} {i v : Nat} (h : v < (dnsL rank ways i).length) : (dnsL rank ways i)[v] = dnP rank ways (v : Int) i := by simp [dnsL]
theorem upsL_step {rank : List Int} {ways : List Wy} {i f : Nat} (hf : yF (wyA ways i) = (f : Int)) (hu : IsUp rank (wyA ways i)) :
    (upsL rank ways i).set f (insE (yT (wyA ways i), yW (wyA ways i), (i : Int)) (upP rank ways (f : Int) i)) = upsL rank ways (i + 1) := by
  apply List.ext_getElem
  · simp [upsL]
  · intro j h1 h2
    rw [List.getElem_set]
    by_cases e : f = j
    · subst e; rw [if_pos rfl, upsL_get]; simp only [upP]; rw [if_pos ⟨hf, hu⟩]
    · rw [if_neg e, upsL_get, upsL_get]; simp only [upP]; rw [if_neg (fun h => e (by have := hf.symm.trans h.1; omega))]
theorem dnsL_step {rank : List Int} {ways : List Wy} {i t : Nat} (ht : yT (wyA ways i) = (t : Int)) (hu : ¬ IsUp rank (wyA ways i)) :
    (dnsL rank ways i).set t (insE (yF (wyA ways i), yW (wyA ways i), (i : Int)) (dnP rank ways (t : Int) i)) = dnsL rank ways (i + 1) := by
  apply List.ext_getElem
  · simp [dnsL]
  · intro j h1 h2
    rw [List.getElem_set]
    by_cases e : t = j
    · subst e; rw [if_pos rfl, dnsL_get]; simp only [dnP]; rw [if_pos ⟨ht, hu⟩]
    · rw [if_neg e, dnsL_get, dnsL_get]; simp only [dnP]; rw [if_neg (fun h => e (by have := ht.symm.trans h.1; omega))]
theorem upsL_same {rank : List Int} {ways : List Wy} {i : Nat} (hu : ¬ IsUp rank (wyA ways i)) : upsL rank ways (i + 1) = upsL rank ways i := by
  unfold upsL; exact List.map_congr_left fun v _ => by simp only [upP]; rw [if_neg (fun h => hu h.2)]
theorem dnsL_same {rank : List Int} {ways : List Wy} {i : Nat} (hu : IsUp rank (wyA ways i)) : dnsL rank ways (i + 1) = dnsL rank ways i := by
  unfold dnsL; exact List.map_congr_left fun v _ => by simp only [dnP]; rw [if_neg (fun h => h.2 hu)]
theorem upsL_nil (rank : List Int) (ways : List Wy) : upsL rank ways 0 = List.replicate rank.length [] := by
  apply List.ext_getElem <;> simp [upsL, upP]
theorem dnsL_nil (rank : List Int) (ways : List Wy) : dnsL rank ways 0 = List.replicate rank.length [] := by
  apply List.ext_getElem <;> simp [dnsL, dnP]
end Go.Sh

/- A hierarchy in memory; New. -/
set_option maxRecDepth 100000
namespace Go.Sh
open Go.RowKit

structure HierM (w : World) (hb : Nat) (sr sy s3 su sd : SV) (r : Nat) (rank : List Int) (ways : List Wy) (g : Nat → Int) (mm : List (List Int × Value)) (us ds : List SV) (i : Nat) : Prop where
  hd : Blk w hb [.slice sr.a sr.len sr.cap, .slice sy.a sy.len sy.cap, .slice s3.a s3.len s3.cap, .map (some r), .slice su.a su.len su.cap, .slice sd.a sd.len sd.cap]
  rk : Own RI w sr rank
  wy : Own RW w sy ways
  at_ : Own RI w s3 (fi rank.length g)
  m : MapIs true 2 w r mm
  up : Rows w su us (upsL rank ways i)
  dn : Rows w sd ds (dnsL rank ways i)
def hierF (hb : Nat) (sr sy s3 su sd : SV) (r : Nat) (us ds : List SV) (k : Nat) : Prop := k = hb ∨ sr.blk k ∨ sy.blk k ∨ s3.blk k ∨ k = r ∨ rowsF su us k ∨ rowsF sd ds k

theorem HierM.chg {w w' : World} {hb : Nat} {sr sy s3 su sd : SV} {r : Nat} {rank : List Int} {ways : List Wy} {g : Nat → Int} {mm : List (List Int × Value)} {us ds : List SV} {i : Nat} {G : Nat → Prop} (h : HierM w hb sr sy s3 su sd r rank ways g mm us ds i) (c : Chg G w w') (hd : ∀ k, hierF hb sr sy s3 su sd r us ds k → ¬ G k) : HierM w' hb sr sy s3 su sd r rank ways g mm us ds i :=
  ⟨c.blk h.hd (hd _ (.inl rfl)), h.rk.chg c fun k hk => hd k (.inr (.inl hk)), h.wy.chg c fun k hk => hd k (.inr (.inr (.inl hk))), h.at_.chg c fun k hk => hd k (.inr (.inr (.inr (.inl hk)))),
    h.m.same (c.block r h.m.lt (hd _ (.inr (.inr (.inr (.inr (.inl rfl))))))), h.up.chg c fun k hk => hd k (.inr (.inr (.inr (.inr (.inr (.inl hk)))))), h.dn.chg c fun k hk => hd k (.inr (.inr (.inr (.inr (.inr (.inr hk))))))⟩
theorem HierM.lt {w : World} {hb : Nat} {sr sy s3 su sd : SV} {r : Nat} {rank : List Int} {ways : List Wy} {g : Nat → Int} {mm : List (List Int × Value)} {us ds : List SV} {i : Nat} (h : HierM w hb sr sy s3 su sd r rank ways g mm us ds i) {k : Nat} (hk : hierF hb sr sy s3 su sd r us ds k) : k < w.heap.size := by
  rcases hk with rfl | hk | hk | hk | rfl | hk | hk
  · exact blk_lt h.hd
  · exact h.rk.lt hk
  · exact h.wy.lt hk
  · exact h.at_.lt hk
  · exact h.m.lt
  · exact h.up.lt hk
  · exact h.dn.lt hk

/-- A hierarchy; F: its blocks. -/
def HierA (w : World) (p : Option Addr) (rank : List Int) (ways : List Wy) (F : Nat → Prop) : Prop :=
  OkH rank ways ∧ ∃ hb sr sy s3 su sd r g mm us ds, p = some ⟨hb, 0, none⟩ ∧ Placed rank g ∧ MapOk mm ways ∧ HierM w hb sr sy s3 su sd r rank ways g mm us ds ways.length ∧ F = hierF hb sr sy s3 su sd r us ds
section
variable {w w' : World} {p : Option Addr} {rank : List Int} {ways : List Wy} {F : Nat → Prop}
theorem HierA.ok (h : HierA w p rank ways F) : OkH rank ways := h.1
theorem HierA.chg {G : Nat → Prop} (h : HierA w p rank ways F) (c : Chg G w w') (hd : ∀ k, F k → ¬ G k) : HierA w' p rank ways F := by
  obtain ⟨ok, hb, sr, sy, s3, su, sd, r, g, mm, us, ds, hp, hpl, hmo, hM, rfl⟩ := h
  exact ⟨ok, hb, sr, sy, s3, su, sd, r, g, mm, us, ds, hp, hpl, hmo, hM.chg c hd, rfl⟩
theorem HierA.ext (h : HierA w p rank ways F) (e : Ext w w') : HierA w' p rank ways F := h.chg (G := fun _ => False) (.of_ext e) fun _ _ h => h
end

theorem HNew_ok {w : World} {sr0 sy0 : SV} {rank : List Int} {ways : List Wy} {K : Option Addr → World → Prop} (hr : View RI w sr0 rank) (hy : View RW w sy0 ways) (hn : rank.length < 2 ^ 40) (hm : ways.length < 2 ^ 40)
    (hk : OkH rank ways → ∀ p w' F, Ext w w' → HierA w' p rank ways F → (∀ k, F k → w.heap.size ≤ k) → K p w') (hno : ¬ OkH rank ways → ∀ w', Ext w w' → K none w') : sh_hier_New sr0 sy0 K w := by
  unfold sh_hier_New
  intro b1 w2 e2 g1 g1'
  have z2 := e2.size
  have lr0 := hr.len; have ly0 := hy.len
  refine Own.app (R := RI) Own.nil (hr.ext e2) (by simp only [List.length_nil]; omega) (by simp only [List.length_nil]; omega) fun sr w4 c4 hsr hR => ?_
  rw [List.nil_append] at hR
  have e4 : Ext w2 w4 := c4.ext fun k _ ⟨q, hq, _⟩ => by cases hq
  have fr : Fsh w2 sr := fun k hk => by
    rcases hsr k hk with ⟨q, hq, _⟩ | h'
    · cases hq
    · exact h'
  have z4 := e4.size
  refine ⟨kp_ext e4 (by (intro b hb; simp only [List.mem_cons, List.not_mem_nil, or_false] at hb; omega)), fun w5 o5 => ?_⟩
  have z5 := o5.size
  have e5 : Ext w w5 := ext_off (e2.trans e4) o5 g1
  have nr1 : ¬ sr.blk b1 := fun hk => by have := fr _ hk; omega
  have hR5 := hR.off o5 nr1
  refine Own.app (R := RW) Own.nil (hy.ext e5) (by simp only [List.length_nil]; omega) (by simp only [List.length_nil]; omega) fun sy w7 c7 hsy hY => ?_
  rw [List.nil_append] at hY
  have e7 : Ext w5 w7 := c7.ext fun k _ ⟨q, hq, _⟩ => by cases hq
  have fy : Fsh w5 sy := fun k hk => by
    rcases hsy k hk with ⟨q, hq, _⟩ | h'
    · cases hq
    · exact h'
  have z7 := e7.size
  refine ⟨kp_ext e7 (by (intro b hb; simp only [List.mem_cons, List.not_mem_nil, or_false] at hb; omega)), fun w8 o8 => ?_⟩
  have z8 := o8.size
  have e8 : Ext w w8 := ext_off (e5.trans e7) o8 g1
  have ny1 : ¬ sy.blk b1 := fun hk => by have := fy _ hk; omega
  have hR8 := (hR5.ext e7).off o8 nr1
  have hY8 := hY.off o8 ny1
  refine check_ok hR8.view hY8.view (fun ok hb s3 r g mm w11 e11 C => ⟨kp_ext e11 (by (intro b hb; simp only [List.mem_cons, List.not_mem_nil, or_false] at hb; omega)), ?_⟩) (fun no c w11 e11 hc _ _ => ⟨kp_ext e11 (by (intro b hb; simp only [List.mem_cons, List.not_mem_nil, or_false] at hb; omega)), ?_⟩)
  rotate_left
  · rw [show (c != 0) = true by simpa using hc, cond_true]; exact hno no w11 (e8.trans e11)
  rw [bne_self_eq_false, cond_false]
  have hk := hk ok
  intro w12 e12
  have z11 := e11.size; have z12 := e12.size
  have hbl : hb < w11.heap.size := blk_lt C.hd
  have rl := C.m.lt
  have br : ∀ k, sr.blk k → k < w8.heap.size := fun k hk => hR8.lt hk
  have by_ : ∀ k, sy.blk k → k < w8.heap.size := fun k hk => hY8.lt hk
  have b3 : ∀ k, s3.blk k → k < w11.heap.size := fun k hk => C.at_.lt hk
  have lsr := hR8.view.len
  have lsy := hY8.view.len
  have hokn := ok.n; have hokk := ok.k
  refine own_mk (R := RS) (bytes := 24) (by omega) (by omega) (by omega) fun su w14 e14 gu hU => ?_
  simp only [Int.toNat_natCast] at hU
  rw [lsr] at hU
  have z14 := e14.size
  refine ⟨_, rfl, fun w16 e16 => ?_⟩
  have z16 := e16.size
  have e1116 := (e12.trans e14).trans e16
  rw [addm]
  refine stL_blk (b := hb) (o := 0 + 4) [.slice su.a su.len su.cap] 0 w16 _ _ (e1116.blkE C.hd) (by simp) fun w17 o17 hB17 => ?_
  have z17 := o17.size
  refine ⟨⟨by omega, fun b hz => o17.block b (fun e => ?_)⟩, fun c hc => by simp only [List.mem_cons, List.not_mem_nil, or_false] at hc; subst hc; exact o17.block _ (by have := C.ghb; omega), ?_⟩
  · rcases hz with (h | h) | h
    · exact h
    · omega
    · omega
  refine ⟨by omega, Int.le_refl _, by omega, by omega, fun b18 w19 e19 hz18 hB18 => ?_⟩
  have z19 := e19.size
  have hl18 : b18 < w19.heap.size := blk_lt hB18
  have bu : ∀ k, su.blk k → k < w14.heap.size := fun k hk => hU.lt hk
  have g18 : w11.heap.size ≤ b18 ∧ ¬ su.blk b18 := by
    rcases hz18 with ((h | h) | h) | h
    · exact h.elim
    · exact ⟨h.1, fun hk => by have := gu _ hk; omega⟩
    · exact ⟨by omega, fun hk => by have := bu _ hk; omega⟩
    · exact ⟨by omega, fun hk => by have := bu _ hk; omega⟩
  have hD : Own RS w19 ⟨some ⟨b18, 0, none⟩, sr.len, sr.len⟩ (List.replicate rank.length ⟨none, 0, 0⟩) := by
    refine ⟨[], by simp [lsr], by simp [lsr], .inr ⟨b18, rfl, ?_⟩⟩
    rw [List.append_nil, show (⟨none, 0, 0⟩ : SV) = RS.z from rfl, ← RS.zeros]
    have hB := hB18
    simp only [Int.toNat_natCast] at hB
    rw [lsr] at hB
    exact hB
  have f18 : ∀ k, (⟨some ⟨b18, 0, none⟩, sr.len, sr.len⟩ : SV).blk k → k = b18 := fun k ⟨p, hp, hq⟩ => by cases hp; exact hq.symm
  refine ⟨_, rfl, fun w21 e21 => ?_⟩
  have z21 := e21.size
  simp only [Int.toNat_natCast]
  generalize hsd : (⟨some ⟨b18, 0, none⟩, sr.len, sr.len⟩ : SV) = sd at hD f18
  have hsda : (some ⟨b18, 0, none⟩ : Option Addr) = sd.a ∧ sr.len = sd.len ∧ sr.len = sd.cap := by subst hsd; exact ⟨rfl, rfl, rfl⟩
  rw [addm]
  have hst : ([.slice (some ⟨b18, 0, none⟩) sr.len sr.len] : List Value) = [.slice sd.a sd.len sd.cap] := by rw [← hsda.1, ← hsda.2.1, ← hsda.2.2]
  rw [hst]
  refine stL_blk (b := hb) (o := 0 + 5) [.slice sd.a sd.len sd.cap] 0 w21 _ _ ((e19.trans e21).blkE hB17) (by simp [setL]) fun w22 o22 hB22 => ?_
  have z22 := o22.size
  refine ⟨fun c hc => by simp only [List.mem_cons, List.not_mem_nil, or_false] at hc; subst hc; exact o22.block _ (by have := C.ghb; omega), ?_⟩
  intro w23 e23
  have z23 := e23.size
  -- the start
  have cA : Chg (fun k => k = hb) w11 w23 := ((((Chg.of_ext (F := fun k => k = hb) e1116).trans (.of_off (F := fun k => k = hb) o17 rfl) fun _ _ h => h).trans (.of_ext (F := fun _ => False) (e19.trans e21)) fun _ _ h => h.elim).trans (.of_off (F := fun k => k = hb) o22 rfl) fun _ _ h => h).trans (.of_ext (F := fun _ => False) e23) fun _ _ h => h.elim
  have nhb : ∀ k, sr.blk k ∨ sy.blk k ∨ s3.blk k → k ≠ hb := fun k hk e => by
    have := C.ghb
    rcases hk with h | h | h
    · have := br k h; omega
    · have := by_ k h; omega
    · exact C.d3 (e ▸ h)
  have nu : ¬ su.blk hb := fun hk => by have := gu _ hk; omega
  have nd : ¬ sd.blk hb := fun hk => by have := f18 _ hk; omega
  have M0 : HierM w23 hb sr sy s3 su sd r rank ways g mm (List.replicate rank.length ⟨none, 0, 0⟩) (List.replicate rank.length ⟨none, 0, 0⟩) 0 := by
    refine ⟨by have := e23.blkE hB22; simpa [setL] using this, (hR8.ext e11).chg cA fun k hk => nhb k (.inl hk), (hY8.ext e11).chg cA fun k hk => nhb k (.inr (.inl hk)), C.at_.chg cA fun k hk => nhb k (.inr (.inr hk)), C.m.same (cA.block r rl C.dr), ?_, ?_⟩
    · rw [upsL_nil]; exact .nil ((((hU.ext e16).off o17 nu).ext (e19.trans e21)).off o22 nu |>.ext e23)
    · rw [dnsL_nil]; exact .nil (((hD.ext e21).off o22 nd).ext e23)
  have e23' : Ext w w23 := ext_chg (e8.trans e11) cA fun k hk => by have := C.ghb; have := e8.size; omega
  have ly : (sy.len : Int) = ways.length := by omega
  have base : w.heap.size ≤ w11.heap.size := by have := e8.size; omega
  refine LoopT.gh (γ := Nat × List SV × List SV) (fun gh (st : Int × Unit) w' => st.1 = gh.1 ∧ gh.1 ≤ ways.length ∧ Ext w w' ∧ w23.heap.size ≤ w'.heap.size ∧ HierM w' hb sr sy s3 su sd r rank ways g mm gh.2.1 gh.2.2 gh.1 ∧ (∀ k, rowsF su gh.2.1 k → w11.heap.size ≤ k) ∧ (∀ k, rowsF sd gh.2.2 k → w11.heap.size ≤ k) ∧ (∀ k, rowsF su gh.2.1 k → ¬ rowsF sd gh.2.2 k)) (fun gh => ways.length - gh.1) (0, List.replicate rank.length ⟨none, 0, 0⟩, List.replicate rank.length ⟨none, 0, 0⟩)
    ⟨rfl, Nat.zero_le _, e23', Nat.le_refl _, M0, fun k hk => by rw [rowsF_nil] at hk; have := gu k hk; omega, fun k hk => by rw [rowsF_nil] at hk; rw [f18 k hk]; exact g18.1, fun k h1 h2 => by rw [rowsF_nil] at h1 h2; rw [f18 k h2] at h1; exact g18.2 h1⟩ ?_
  rintro ⟨i, us, ds⟩ ⟨x, _⟩ w26 ⟨hx, hi, e26, z26, M, fu, fd, dud⟩ J1 hJ1
  simp only at hx hi M fu fd dud; subst hx
  dsimp only
  rw [Bool.cond_decide]
  by_cases hc : (i : Int) < (sy.len : Int)
  · rw [if_pos hc]
    have hi' : i < ways.length := by omega
    refine way_idx M.wy.view hi' fun a _ a0 a1 a2 a3 a4 => ⟨_, a0, _, a1, _, a2, _, a3, _, a4, ?_⟩
    rw [wyA_get hi']
    have oky := ok.f i hi'
    rw [wyA_get hi'] at oky
    generalize hyy : wyA ways i = y at oky ⊢
    obtain ⟨_, hne, f0, t0, f1, t1, _, _⟩ := oky
    obtain ⟨f, hf⟩ := Int.eq_ofNat_of_zero_le f0
    obtain ⟨t, ht⟩ := Int.eq_ofNat_of_zero_le t0
    rw [hf, ht]
    intro b33 w34 e34 g33 g33' w35 o35
    have z34 := e34.size; have z35 := o35.size
    have nF : ¬ hierF hb sr sy s3 su sd r us ds b33 := fun hk => by have := M.lt hk; omega
    have M35 := (M.chg (G := fun _ => False) (.of_ext e34) fun _ _ h => h).chg (G := fun k => k = b33) (.of_off o35 rfl) fun k hk e => nF (e ▸ hk)
    have e35 : Ext w w35 := ext_off (e26.trans e34) o35 (by have := e26.size; omega)
    refine int_idx M35.rk.view (by omega) fun _ q => ⟨_, q, ?_⟩
    refine int_idx M35.rk.view (by omega) fun _ q => ⟨_, q, ?_⟩
    rw [rk_get (show f < rank.length by omega), rk_get (show t < rank.length by omega), ← hf, ← ht]
    intro w40 e40
    have z40 := e40.size
    have M40 := M35.chg (G := fun _ => False) (.of_ext e40) fun _ _ h => h
    have e40' := e35.trans e40
    have lus : us.length = rank.length := by rw [M40.up.len, upsL_len]
    have lds : ds.length = rank.length := by rw [M40.dn.len, dnsL_len]
    have nrow : ∀ k, w11.heap.size ≤ k → k = hb ∨ sr.blk k ∨ sy.blk k ∨ s3.blk k ∨ k = r → False := fun k hk h => by
      rcases h with h | h | h | h | h
      · omega
      · have := br k h; omega
      · have := by_ k h; omega
      · have := b3 k h; omega
      · omega
    have bx : ∀ c, c ∈ [b33, b1] → c < w40.heap.size ∧ (¬ rowsF su us c ∧ ¬ rowsF sd ds c) := fun c hc => by
      simp only [List.mem_cons, List.not_mem_nil, or_false] at hc
      rcases hc with rfl | rfl
      · exact ⟨by omega, fun h => nF (.inr (.inr (.inr (.inr (.inr (.inl h)))))), fun h => nF (.inr (.inr (.inr (.inr (.inr (.inr h))))))⟩
      · exact ⟨by omega, fun h => by have := fu _ h; omega, fun h => by have := fd _ h; omega⟩
    rw [Bool.cond_decide]
    by_cases hup : rkA rank (yF y) < rkA rank (yT y)
    · rw [if_pos hup]
      refine ⟨_, rfl, su, by rw [addm, cell_blk M40.hd]; rfl, _, rfl, su, by rw [addm, cell_blk M40.hd]; rfl, ?_⟩
      rw [hf]
      have hv : f < us.length := by omega
      refine slot_idx M40.up.so.view hv fun q hq => ⟨_, hq, fun w49 e49 => ?_⟩
      have z49 := e49.size
      have M49 := M40.chg (G := fun _ => False) (.of_ext e49) fun _ _ h => h
      have hrow := M49.up.row f hv (by rw [upsL_len]; omega)
      rw [upsL_get] at hrow
      have hpl := upP_len rank ways (f : Int) i
      refine put_ok hrow (upP_rise ok.f _ (by omega)) (by omega) fun s48 w50 c50 hs48 hO50 => ⟨kp_chg c50 fun c hc => ⟨by have := (bx c hc).1; omega, fun hk => (bx c hc).2.1 (.inr ⟨f, hv, hk⟩)⟩, ?_⟩
      have z50 := c50.size
      have gF : ∀ k, us[f].blk k → w11.heap.size ≤ k := fun k hk => fu k (.inr ⟨f, hv, hk⟩)
      have hd50 := c50.blk M49.hd fun hk => by have := gF _ hk; omega
      refine ⟨⟨su, by rw [addm, cell_blk hd50]; rfl, rfl⟩, ?_⟩
      -- the store at the end
      have hst := fun w52 (e52 : Ext w50 w52) (K' : World → Prop) (hK' : ∀ w53, Chg su.blk w52 w53 → Rows w53 su (us.set f s48) ((upsL rank ways i).set f (insE (yT y, yW y, (i : Int)) (upP rank ways (f : Int) i))) → (∀ k, rowsF su (us.set f s48) k → rowsF su us k ∨ w49.heap.size ≤ k) → K' w53) =>
        Rows.store M49.up hv c50 hs48 (w2 := w52) hO50 e52 (K := K') hK'
      have hgoal : ∀ w52, Ext w50 w52 → Idx su.a su.len (f : Int) 1 (fun a51 => stL w52 a51 [.slice s48.a s48.len s48.cap] 0 (fun w53 => Keeps [b33, b1] w52 w53 ∧ ∀ w54, Ext w53 w54 → J1 (IntKind.i64.wrap ((i : Int) + 1), ()) w54)) := fun w52 e52 => by
        have z52 := e52.size
        refine hst w52 e52 _ fun w53 c53 R53 hF53 => ⟨kp_chg c53 fun c hc => ⟨by have := (bx c hc).1; omega, fun hk => (bx c hc).2.1 (.inl hk)⟩, fun w54 e54 => ?_⟩
        have z53 := c53.size; have z54 := e54.size
        have cc : Chg (fun k => rowsF su us k) w49 w54 := ((((c50.mono (G := fun k => rowsF su us k) fun k _ hk => .inr ⟨f, hv, hk⟩).trans (.of_ext (F := fun _ => False) e52) fun _ _ h => h.elim).trans c53 fun k _ hk => .inl hk).trans (.of_ext (F := fun _ => False) e54) fun _ _ h => h.elim)
        have nn : ∀ k, k = hb ∨ sr.blk k ∨ sy.blk k ∨ s3.blk k ∨ k = r → ¬ rowsF su us k := fun k hk hr => nrow k (fu k hr) hk
        have R54 := R53.ext e54
        rw [← hyy] at R54
        rw [upsL_step (by rw [hyy]; exact hf) (by unfold IsUp; rw [hyy]; exact hup)] at R54
        have hdn : dnsL rank ways (i + 1) = dnsL rank ways i := dnsL_same (by unfold IsUp; rw [hyy]; exact hup)
        refine hJ1 (i + 1, us.set f s48, ds) _ _ ⟨wsucc (m := 2 ^ 40) (by omega) (by omega), by simp only; omega, ext_chg (e40'.trans e49) cc fun k hk => by have := fu k hk; omega, by omega, ?_, ?_, fd, ?_⟩ (by simp only; omega)
        · simp only
          refine ⟨cc.blk M49.hd (nn _ (.inl rfl)), M49.rk.chg cc fun k hk => nn k (.inr (.inl hk)), M49.wy.chg cc fun k hk => nn k (.inr (.inr (.inl hk))), M49.at_.chg cc fun k hk => nn k (.inr (.inr (.inr (.inl hk)))), M49.m.same (cc.block r M49.m.lt (nn _ (.inr (.inr (.inr (.inr rfl)))))), R54, ?_⟩
          rw [hdn]; exact M49.dn.chg cc fun k h1 h2 => dud k h2 h1
        · intro k hk
          rcases hF53 k hk with h' | h'
          · exact fu k h'
          · omega
        · intro k hk h2
          rcases hF53 k hk with h' | h'
          · exact dud k h' h2
          · have := M49.dn.lt h2; omega
      -- Idx's address is the same whatever the world
      obtain ⟨q1, hq1, h01, h02, hA⟩ := hgoal w50 (.refl _)
      refine ⟨q1, hq1, h01, h02, fun w52 e52 => ?_⟩
      obtain ⟨q2, hq2, _, _, hA2⟩ := hgoal w52 e52
      rw [hq1] at hq2; cases hq2
      exact hA2
    · rw [if_neg hup]
      refine ⟨_, rfl, sd, by rw [addm, cell_blk M40.hd]; rfl, _, rfl, sd, by rw [addm, cell_blk M40.hd]; rfl, ?_⟩
      rw [ht]
      have hv : t < ds.length := by omega
      refine slot_idx M40.dn.so.view hv fun q hq => ⟨_, hq, fun w49 e49 => ?_⟩
      have z49 := e49.size
      have M49 := M40.chg (G := fun _ => False) (.of_ext e49) fun _ _ h => h
      have hrow := M49.dn.row t hv (by rw [dnsL_len]; omega)
      rw [dnsL_get] at hrow
      have hpl := dnP_len rank ways (t : Int) i
      refine put_ok hrow (dnP_rise ok.f _ (by omega)) (by omega) fun s48 w50 c50 hs48 hO50 => ⟨kp_chg c50 fun c hc => ⟨by have := (bx c hc).1; omega, fun hk => (bx c hc).2.2 (.inr ⟨t, hv, hk⟩)⟩, ?_⟩
      have z50 := c50.size
      have gF : ∀ k, ds[t].blk k → w11.heap.size ≤ k := fun k hk => fd k (.inr ⟨t, hv, hk⟩)
      have hd50 := c50.blk M49.hd fun hk => by have := gF _ hk; omega
      refine ⟨⟨sd, by rw [addm, cell_blk hd50]; rfl, rfl⟩, ?_⟩
      have hst := fun w52 (e52 : Ext w50 w52) (K' : World → Prop) (hK' : ∀ w53, Chg sd.blk w52 w53 → Rows w53 sd (ds.set t s48) ((dnsL rank ways i).set t (insE (yF y, yW y, (i : Int)) (dnP rank ways (t : Int) i))) → (∀ k, rowsF sd (ds.set t s48) k → rowsF sd ds k ∨ w49.heap.size ≤ k) → K' w53) =>
        Rows.store M49.dn hv c50 hs48 (w2 := w52) hO50 e52 (K := K') hK'
      have hgoal : ∀ w52, Ext w50 w52 → Idx sd.a sd.len (t : Int) 1 (fun a51 => stL w52 a51 [.slice s48.a s48.len s48.cap] 0 (fun w53 => Keeps [b33, b1] w52 w53 ∧ ∀ w54, Ext w53 w54 → J1 (IntKind.i64.wrap ((i : Int) + 1), ()) w54)) := fun w52 e52 => by
        have z52 := e52.size
        refine hst w52 e52 _ fun w53 c53 R53 hF53 => ⟨kp_chg c53 fun c hc => ⟨by have := (bx c hc).1; omega, fun hk => (bx c hc).2.2 (.inl hk)⟩, fun w54 e54 => ?_⟩
        have z53 := c53.size; have z54 := e54.size
        have cc : Chg (fun k => rowsF sd ds k) w49 w54 := ((((c50.mono (G := fun k => rowsF sd ds k) fun k _ hk => .inr ⟨t, hv, hk⟩).trans (.of_ext (F := fun _ => False) e52) fun _ _ h => h.elim).trans c53 fun k _ hk => .inl hk).trans (.of_ext (F := fun _ => False) e54) fun _ _ h => h.elim)
        have nn : ∀ k, k = hb ∨ sr.blk k ∨ sy.blk k ∨ s3.blk k ∨ k = r → ¬ rowsF sd ds k := fun k hk hr => nrow k (fd k hr) hk
        have R54 := R53.ext e54
        rw [← hyy] at R54
        rw [dnsL_step (by rw [hyy]; exact ht) (by unfold IsUp; rw [hyy]; exact hup)] at R54
        have hdn : upsL rank ways (i + 1) = upsL rank ways i := upsL_same (by unfold IsUp; rw [hyy]; exact hup)
        refine hJ1 (i + 1, us, ds.set t s48) _ _ ⟨wsucc (m := 2 ^ 40) (by omega) (by omega), by simp only; omega, ext_chg (e40'.trans e49) cc fun k hk => by have := fd k hk; omega, by omega, ?_, fu, ?_, ?_⟩ (by simp only; omega)
        · simp only
          refine ⟨cc.blk M49.hd (nn _ (.inl rfl)), M49.rk.chg cc fun k hk => nn k (.inr (.inl hk)), M49.wy.chg cc fun k hk => nn k (.inr (.inr (.inl hk))), M49.at_.chg cc fun k hk => nn k (.inr (.inr (.inr (.inl hk)))), M49.m.same (cc.block r M49.m.lt (nn _ (.inr (.inr (.inr (.inr rfl)))))), ?_, R54⟩
          rw [hdn]; exact M49.up.chg cc fun k h1 h2 => dud k h1 h2
        · intro k hk
          rcases hF53 k hk with h' | h'
          · exact fd k h'
          · omega
        · intro k hk h2
          rcases hF53 k h2 with h' | h'
          · exact dud k hk h'
          · have := M49.up.lt hk; omega
      obtain ⟨q1, hq1, h01, h02, hA⟩ := hgoal w50 (.refl _)
      refine ⟨q1, hq1, h01, h02, fun w52 e52 => ?_⟩
      obtain ⟨q2, hq2, _, _, hA2⟩ := hgoal w52 e52
      rw [hq1] at hq2; cases hq2
      exact hA2
  · rw [if_neg hc]
    have : i = ways.length := by omega
    subst this
    refine hk _ w26 _ e26 ⟨ok, hb, sr, sy, s3, su, sd, r, g, mm, us, ds, rfl, C.pl, C.mo, M, rfl⟩ fun k hk => ?_
    rcases hk with rfl | hk | hk | hk | rfl | hk | hk
    · have := C.ghb; have := e8.size; omega
    · have := fr k hk; omega
    · have := fy k hk; have := e5.size; omega
    · have := C.gs k hk; have := e8.size; omega
    · have := C.gr; have := e8.size; omega
    · have := fu k hk; omega
    · have := fd k hk; omega
end Go.Sh

/- The hierarchy's methods. -/
set_option maxRecDepth 100000
namespace Go.Sh
open Go.RowKit

section
variable {w w' : World} {p : Option Addr} {rank : List Int} {ways : List Wy} {F : Nat → Prop}

theorem nodup_sub_len : ∀ (l l' : List Int), l.Nodup → (∀ x ∈ l, x ∈ l') → l.length ≤ l'.length
  | [], _, _, _ => Nat.zero_le _
  | x :: l, l', hn, hs => by
    have hx := hs x List.mem_cons_self
    have hn' := List.nodup_cons.1 hn
    have ih := nodup_sub_len l (l'.erase x) hn'.2 fun y hy => (List.mem_erase_of_ne (show y ≠ x from fun e => hn'.1 (e ▸ hy))).2 (hs y (List.mem_cons_of_mem _ hy))
    rw [List.length_erase_of_mem hx] at ih
    have : 0 < l'.length := List.length_pos_of_mem hx
    simp only [List.length_cons]; omega

/-- Each rank has its place. -/
theorem okR_onto (h : OkR rank) {r : Nat} (hr : r < rank.length) : ∃ v : Nat, ∃ hv : v < rank.length, rank[v] = (r : Int) := by
  have hin : ∀ x ∈ rank, x ∈ (List.range rank.length).map (fun (n : Nat) => (n : Int)) := fun x hx => by
    have := h.1 x hx
    obtain ⟨n, rfl⟩ := Int.eq_ofNat_of_zero_le this.1
    exact List.mem_map.2 ⟨n, List.mem_range.2 (by omega), rfl⟩
  have hrm : (r : Int) ∈ (List.range rank.length).map (fun (n : Nat) => (n : Int)) := List.mem_map.2 ⟨r, List.mem_range.2 hr, rfl⟩
  have this : (r : Int) ∈ rank := Classical.byContradiction fun hno => by
    have h1 := nodup_sub_len rank (((List.range rank.length).map (fun (n : Nat) => (n : Int))).erase (r : Int)) h.2 fun x hx => (List.mem_erase_of_ne (show x ≠ (r : Int) from fun e => hno (e ▸ hx))).2 (hin x hx)
    rw [List.length_erase_of_mem hrm] at h1
    simp at h1; omega
  obtain ⟨v, hv, he⟩ := List.getElem_of_mem this
  exact ⟨v, hv, he⟩

theorem HWay_ok {k : Int} {K : Int → Int → Int → Int → Int → Bool → World → Prop} (h : HierA w p rank ways F)
    (h1 : ∀ i : Nat, k = (i : Int) → ∀ hi : i < ways.length, ∀ w', Ext w w' → K (yF ways[i]) (yT ways[i]) (yW ways[i]) (yM ways[i]) (yA ways[i]) true w') (h2 : ¬ (0 ≤ k ∧ k < (ways.length : Int)) → ∀ w', Ext w w' → K 0 0 0 0 0 false w') : sh_hier_Hier_Way p k K w := by
  obtain ⟨ok, hb, sr, sy, s3, su, sd, r, g, mm, us, ds, rfl, hpl, hmo, hM, rfl⟩ := h
  unfold sh_hier_Hier_Way
  intro b1 w2 e2 g1 g1'
  simp only [Option.isNone_some, cond_false]
  rw [Bool.cond_decide]
  split
  · intro w4 o4; exact h2 (by omega) w4 (ext_off e2 o4 g1)
  · have hB := e2.blkE hM.hd
    have hY := hM.wy.ext e2
    have hl := hY.view.len
    refine ⟨_, rfl, sy, by rw [addm, addm, cell_blk hB]; rfl, ?_⟩
    rw [Bool.cond_decide]
    split
    · intro w4 o4; exact h2 (by omega) w4 (ext_off e2 o4 g1)
    · refine ⟨_, rfl, sy, by rw [addm, addm, cell_blk hB]; rfl, ?_⟩
      obtain ⟨i, rfl⟩ := Int.eq_ofNat_of_zero_le (show 0 ≤ k by omega)
      refine way_idx hY.view (by omega) fun a _ a0 a1 a2 a3 a4 => ⟨_, a0, _, a1, _, a2, _, a3, _, a4, ?_⟩
      intro w16 o16
      exact h1 i rfl (by omega) w16 (ext_off e2 o16 g1)

theorem HHalves_ok {k : Int} {K : Int → Int → Bool → World → Prop} (h : HierA w p rank ways F)
    (h1 : ∀ i : Nat, k = (i : Int) → ∀ hi : i < ways.length, yM ways[i] ≠ -1 → ∀ w', Ext w w' → K (gN (findW ways (yF ways[i]) (yM ways[i]))) (gN (findW ways (yM ways[i]) (yT ways[i]))) ((findW ways (yF ways[i]) (yM ways[i])).isSome && (findW ways (yM ways[i]) (yT ways[i])).isSome) w')
    (h2 : (∀ i : Nat, k = (i : Int) → ∀ hi : i < ways.length, yM ways[i] = -1) → ∀ w', Ext w w' → K 0 0 false w') : sh_hier_Hier_Halves p k K w := by
  unfold sh_hier_Hier_Halves
  refine HWay_ok h (fun i hki hi w7 e7 => ?_) (fun hno w7 e7 => ?_)
  · intro b8 w9 e9 g8 _ w10 o10
    have e10 : Ext w w10 := ext_off (e7.trans e9) o10 (by have := e7.size; omega)
    simp only [Bool.not_true, cond_false]
    by_cases hm : yM ways[i] = -1
    · rw [show (yM ways[i] == -1) = true by simpa using hm, cond_true]
      exact h2 (fun j hj hjl => by have : j = i := by omega
                                   subst this; exact hm) w10 e10
    · rw [show (yM ways[i] == -1) = false by simpa using hm, cond_false]
      have h1' := h1 i hki hi hm
      obtain ⟨ok, hb, sr, sy, s3, su, sd, r, g, mm, us, ds, rfl, hpl, hmo, hM, rfl⟩ := h
      have hB := e10.blkE hM.hd
      refine ⟨_, rfl, sr, by rw [addm, addm, cell_blk hB]; rfl, sy, by rw [addm, addm, cell_blk hB]; rfl, _, rfl, some r, by rw [addm, cell_blk hB]; rfl, ?_⟩
      refine Quiet.mk (gN (findW ways (yF ways[i]) (yM ways[i])), gN (findW ways (yM ways[i]) (yT ways[i])), ((findW ways (yF ways[i]) (yM ways[i])).isSome && (findW ways (yM ways[i]) (yT ways[i])).isSome)) (fun w' e' K' hK' => ?_) ?_
      · exact halves_ok (hM.m.grow (e10.trans e')) hmo fun w'' e'' => hK' w'' e''
      · intro w22 e22; exact h1' w22 (e10.trans e22)
  · intro b8 w9 e9 g8 _ w10 o10
    have e10 : Ext w w10 := ext_off (e7.trans e9) o10 (by have := e7.size; omega)
    simp only [Bool.not_false, cond_true]
    exact h2 (fun i hki hi => absurd ⟨by omega, by omega⟩ hno) w10 e10
end

/-- What Check tells. -/
noncomputable def chkF (rank : List Int) (ways : List Wy) : Int := by
  classical exact if ¬ OkL rank ways then 3 else if OkH rank ways then 0 else 2
theorem OkH.l {rank : List Int} {ways : List Wy} (h : OkH rank ways) : OkL rank ways := ⟨h.n, h.k⟩
theorem chkF_ok {rank : List Int} {ways : List Wy} (h : OkH rank ways) : chkF rank ways = 0 := by
  unfold chkF; rw [if_neg (fun hn => hn h.l), if_pos h]
theorem chkF_no {rank : List Int} {ways : List Wy} (h : ¬ OkH rank ways) : chkF rank ways ≠ 0 ∧ (OkL rank ways → chkF rank ways = 2) ∧ (¬ OkL rank ways → chkF rank ways = 3) := by
  unfold chkF
  by_cases hl : OkL rank ways
  · rw [if_neg (fun hn => hn hl), if_neg h]; exact ⟨by decide, fun _ => rfl, fun hn => absurd hl hn⟩
  · rw [if_pos hl]; exact ⟨by decide, fun h => absurd h hl, fun _ => rfl⟩
end Go.Sh

/- The reference of layer 10, and what its laws lean on. -/
set_option maxRecDepth 100000
namespace Go.Sh
open Go.RowKit

theorem onto_okR {rank : List Int} (h : ∀ k : Nat, k < rank.length → (k : Int) ∈ rank) : OkR rank := by
  have hL : ((List.range rank.length).map (fun (n : Nat) => (n : Int))).Nodup := by
    rw [List.nodup_iff_pairwise_ne, List.pairwise_map]
    exact List.pairwise_lt_range.imp fun h e => by omega
  have key : ∀ x, x ∈ rank → (∀ y ∈ (List.range rank.length).map (fun (n : Nat) => (n : Int)), y ∈ rank.erase x) → False := fun x hx hs => by
    have := nodup_sub_len _ _ hL hs
    rw [List.length_erase_of_mem hx] at this
    have hp : 0 < rank.length := List.length_pos_of_mem hx
    simp at this; omega
  constructor
  · intro r hr
    refine Classical.byContradiction fun hn => key r hr fun y hy => ?_
    obtain ⟨n, hn', rfl⟩ := List.mem_map.1 hy
    rw [List.mem_range] at hn'
    exact (List.mem_erase_of_ne (show (n : Int) ≠ r from fun e => hn (by omega))).2 (h n hn')
  · have dup : ∀ (l : List Int), ¬ l.Nodup → ∃ x, x ∈ l ∧ x ∈ l.erase x := by
      intro l
      induction l with
      | nil => intro h; exact absurd List.nodup_nil h
      | cons y l ih =>
        intro hn
        by_cases hy : y ∈ l
        · exact ⟨y, List.mem_cons_self, by simp [hy]⟩
        · obtain ⟨x, hx, hx2⟩ := ih fun hl => hn (List.nodup_cons.2 ⟨hy, hl⟩)
          refine ⟨x, List.mem_cons_of_mem _ hx, ?_⟩
          have hne : ¬ (y == x) = true := fun e => hy (by rw [beq_iff_eq] at e; rw [e]; exact hx)
          rw [List.erase_cons, if_neg hne]
          exact List.mem_cons_of_mem _ hx2
    refine Classical.byContradiction fun hn => ?_
    obtain ⟨x, hx, hx2⟩ := dup rank hn
    refine key x hx fun y hy => ?_
    obtain ⟨n, hn', rfl⟩ := List.mem_map.1 hy
    rw [List.mem_range] at hn'
    by_cases e : (n : Int) = x
    · rw [e]; exact hx2
    · exact (List.mem_erase_of_ne e).2 (h n hn')

section
variable {w : World} {sr sy : SV} {rank : List Int} {ways : List Wy}

theorem rAt_ok {r : Int} {K : Int → World → Prop} (h : View RI w sr rank) (hn : rank.length < 2 ^ 40) (hk : ∀ x w', Ext w w' → (∃ v : Nat, ∃ hv : v < rank.length, rank[v] = r ∧ x = (v : Int)) ∨ (∀ v : Nat, ∀ hv : v < rank.length, rank[v] ≠ r) ∧ x = -1 → K x w') : sh_postroadref10_At sr sy r K w := by
  unfold sh_postroadref10_At
  intro b1 w2 e2 _ _
  have hl := h.len
  refine LoopT.gh (γ := Nat) (fun i (st : Int × Unit) w' => st.1 = i ∧ i ≤ rank.length ∧ Ext w w' ∧ ∀ v : Nat, ∀ hv : v < rank.length, v < i → rank[v] ≠ r) (fun i => rank.length - i) 0 ⟨rfl, Nat.zero_le _, e2, fun v hv h => by omega⟩ ?_
  rintro i ⟨x, _⟩ w5 ⟨hx, hi, e5, hno⟩ J1 hJ1
  simp only at hx; subst hx
  dsimp only
  rw [Bool.cond_decide]
  by_cases hc : (i : Int) < (sr.len : Int)
  · rw [if_pos hc]
    have hi' : i < rank.length := by omega
    refine int_idx (h.ext e5) hi' fun _ q => ⟨_, q, ?_⟩
    by_cases he : rank[i] = r
    · rw [show (rank[i] == r) = true by simpa using he, cond_true]
      exact hk _ _ e5 (.inl ⟨i, hi', he, rfl⟩)
    · rw [show (rank[i] == r) = false by simpa using he, cond_false]
      refine hJ1 (i + 1) _ _ ⟨wsucc (m := 2 ^ 40) (by omega) (by omega), by omega, e5, fun v hv hvi => ?_⟩ (by omega)
      by_cases e : v = i
      · subst e; exact he
      · exact hno v hv (by omega)
  · rw [if_neg hc]
    exact hk _ _ e5 (.inr ⟨fun v hv => hno v hv (by omega), rfl⟩)

theorem rplace_ok {v : Int} {K : Bool → World → Prop} (hl : sr.len = rank.length) (hk : ∀ w', Ext w w' → K (decide (0 ≤ v ∧ v < rank.length)) w') : sh_postroadref10_place sr sy v K w := by
  unfold sh_postroadref10_place
  intro b1 w2 e2 _ _
  have := hk w2 e2
  rw [Bool.cond_decide, hl]
  split
  · rename_i h0
    rw [show decide (0 ≤ v ∧ v < (rank.length : Int)) = decide (v < (rank.length : Int)) from decide_eq_decide.2 ⟨fun h => h.2, fun h => ⟨h0, h⟩⟩] at this
    exact this
  · rename_i h0
    rw [decide_eq_false (fun h => h0 h.1)] at this; exact this
theorem rplace_quiet {v : Int} {K : Bool → Prop} (hl : sr.len = rank.length) (hk : K (decide (0 ≤ v ∧ v < rank.length))) :
    Quiet Bool (fun r => .bool r) (fun K21 w22' => sh_postroadref10_place sr sy v (fun t19 w22 => K21 t19 w22) w22') w K :=
  Quiet.mk _ (fun w' _ _ hK' => rplace_ok hl fun w'' e'' => hK' w'' e'') hk

theorem rFind_ok {u v : Int} {K : Int → World → Prop} (h : View RW w sy ways) (hn : ways.length < 2 ^ 40) (hk : ∀ w', Ext w w' → K (ofN (findW ways u v)) w') : sh_postroadref10_Find sr sy u v K w := by
  unfold sh_postroadref10_Find
  intro b1 w2 e2 _ _
  have hl := h.len
  refine LoopT.gh (γ := Nat) (fun i (st : Int × Unit) w' => st.1 = i ∧ i ≤ ways.length ∧ Ext w w' ∧ findW (ways.take i) u v = none) (fun i => ways.length - i) 0 ⟨rfl, Nat.zero_le _, e2, rfl⟩ ?_
  rintro i ⟨x, _⟩ w5 ⟨hx, hi, e5, hno⟩ J1 hJ1
  simp only at hx; subst hx
  dsimp only
  rw [Bool.cond_decide]
  by_cases hc : (i : Int) < (sy.len : Int)
  · rw [if_pos hc]
    have hi' : i < ways.length := by omega
    have hst := findW_snoc (ways.take i) ways[i] u v
    rw [← take_snoc' hi', hno] at hst
    simp only at hst
    refine Join.cut (fun _ w' => w' = w5 ∧ ¬ (yF ways[i] = u ∧ yT ways[i] = v)) (fun J hJ => ?_) ?_
    · refine way_idx (h.ext e5) hi' fun _ _ a0 _ _ _ _ => ⟨_, a0, ?_⟩
      by_cases h1 : yF ways[i] = u
      · rw [show (yF ways[i] == u) = true by simpa using h1, cond_true]
        refine way_idx (h.ext e5) hi' fun _ _ _ a1 _ _ _ => ⟨_, a1, ?_⟩
        by_cases h2 : yT ways[i] = v
        · rw [show (yT ways[i] == v) = true by simpa using h2, cond_true]
          have hf : findW ways u v = some i := by
            have h3 : ways = ways.take (i + 1) ++ ways.drop (i + 1) := (List.take_append_drop _ _).symm
            rw [if_pos ⟨h1, h2⟩, List.length_take, Nat.min_eq_left hi] at hst
            rw [h3]
            unfold findW at hst ⊢
            rw [List.findIdx?_append, hst]; rfl
          have := hk w5 e5
          rw [hf] at this; exact this
        · rw [show (yT ways[i] == v) = false by simpa using h2, cond_false]
          exact hJ _ _ ⟨rfl, fun hh => h2 hh.2⟩
      · rw [show (yF ways[i] == u) = false by simpa using h1, cond_false]
        exact hJ _ _ ⟨rfl, fun hh => h1 hh.1⟩
    · rintro _ w12 ⟨rfl, hne⟩
      rw [if_neg hne] at hst
      exact hJ1 (i + 1) _ _ ⟨wsucc (m := 2 ^ 40) (by omega) (by omega), by omega, e5, hst⟩ (by omega)
  · rw [if_neg hc]
    have : i = ways.length := by omega
    subst this
    rw [List.take_length] at hno
    have := hk w5 e5
    rw [hno] at this; exact this
/-- What the reference asks of a way. -/
def OkWr (rank : List Int) (ways : List Wy) (y : Wy) : Prop :=
  if yM y = -1 then 0 ≤ yA y ∧ yA y < 67108864
  else yA y = -1 ∧ 0 ≤ yM y ∧ yM y < rank.length ∧ rkA rank (yM y) < rkA rank (yF y) ∧ rkA rank (yM y) < rkA rank (yT y) ∧
    ∃ a b, findW ways (yF y) (yM y) = some a ∧ findW ways (yM y) (yT y) = some b ∧ IntKind.i64.wrap (wW ways a + wW ways b) = yW y
theorem okF_iff {n i : Nat} (hi : i < ways.length) : OkF n (ways.take i) ways[i] ↔ findW ways (yF ways[i]) (yT ways[i]) = some i ∧ yF ways[i] ≠ yT ways[i] ∧ 0 ≤ yF ways[i] ∧ 0 ≤ yT ways[i] ∧ yF ways[i] < n ∧ yT ways[i] < n ∧ 0 ≤ yW ways[i] ∧ yW ways[i] ≤ 1152921504606846976 := by
  unfold OkF
  have : findW (ways.take i) (yF ways[i]) (yT ways[i]) = none ↔ findW ways (yF ways[i]) (yT ways[i]) = some i := by
    have hst := findW_snoc (ways.take i) ways[i] (yF ways[i]) (yT ways[i])
    rw [← take_snoc' hi] at hst
    have h3 : ∀ u v, findW ways u v = (findW (ways.take (i + 1)) u v).or ((findW (ways.drop (i + 1)) u v).map (· + (ways.take (i + 1)).length)) := fun u v => by
      have h4 : findW (ways.take (i + 1) ++ ways.drop (i + 1)) u v = findW ways u v := by rw [List.take_append_drop]
      rw [← h4]
      unfold findW; rw [List.findIdx?_append]
    cases hf : findW (ways.take i) (yF ways[i]) (yT ways[i]) with
    | none =>
      rw [hf] at hst
      simp only [and_self, if_true, List.length_take, Nat.min_eq_left (Nat.le_of_lt hi)] at hst
      rw [h3, hst]; simp
    | some j =>
      rw [hf] at hst
      simp only at hst
      rw [h3, hst]
      obtain ⟨hj, _⟩ := findW_some hf
      rw [List.length_take] at hj
      simp only [Option.some_or, Option.some.injEq, reduceCtorEq, false_iff]
      omega
  rw [this]

theorem rright_ok {i : Nat} {K : Bool → World → Prop} (hr : View RI w sr rank) (hy : View RW w sy ways) (hn : ways.length < 2 ^ 40) (hi : i < ways.length)
    (hk : ∀ b w', Ext w w' → (b = true ↔ OkF rank.length (ways.take i) ways[i] ∧ OkWr rank ways ways[i]) → K b w') : sh_postroadref10_right sr sy (i : Int) K w := by
  unfold sh_postroadref10_right
  intro b1 w2 e2 g1 g1'
  have z2 := e2.size
  have hl := hr.len
  refine way_idx (hy.ext e2) hi fun a _ a0 a1 a2 a3 a4 => ⟨_, a0, _, a1, _, a2, _, a3, _, a4, ?_⟩
  rw [okF_iff hi] at hk
  generalize hyy : ways[i] = y at hk
  intro b9 w10 e10 g9 g9' w11 o11
  have z10 := e10.size; have z11 := o11.size
  have e11 : Ext w w11 := ext_off (e2.trans e10) o11 (by omega)
  have no : ¬ ((findW ways (yF y) (yT y) = some i ∧ yF y ≠ yT y ∧ 0 ≤ yF y ∧ 0 ≤ yT y ∧ yF y < (rank.length : Int) ∧ yT y < (rank.length : Int) ∧ 0 ≤ yW y ∧ yW y ≤ 1152921504606846976) ∧ OkWr rank ways y) → ∀ w', Ext w11 w' → K false w' :=
    fun hno w' e => hk false w' (e11.trans e) ⟨fun h => (by cases h), fun h => absurd h hno⟩
  refine rplace_ok hl fun w13 e13 => ⟨kp_ext e13 (by (intro b hb; simp only [List.mem_cons, List.not_mem_nil, or_false] at hb; omega)), ?_⟩
  have z13 := e13.size
  by_cases p1 : ¬ (0 ≤ yF y ∧ yF y < (rank.length : Int))
  · rw [decide_eq_false p1]
    simp only [Bool.not_false, cond_true]
    exact no (fun h => by omega) w13 e13
  rw [Classical.not_not] at p1
  rw [decide_eq_true p1]
  simp only [Bool.not_true, cond_false]
  refine rplace_ok hl fun w15 e15 => ⟨kp_ext e15 (by (intro b hb; simp only [List.mem_cons, List.not_mem_nil, or_false] at hb; omega)), ?_⟩
  have z15 := e15.size
  have e15' := e13.trans e15
  by_cases p2 : ¬ (0 ≤ yT y ∧ yT y < (rank.length : Int))
  · rw [decide_eq_false p2]
    simp only [Bool.not_false, cond_true]
    exact no (fun h => by omega) w15 e15'
  rw [Classical.not_not] at p2
  rw [decide_eq_true p2]
  simp only [Bool.not_true, cond_false]
  by_cases p3 : yF y = yT y
  · rw [show (yF y == yT y) = true by simpa using p3, cond_true]
    exact no (fun h => h.1.2.1 p3) w15 e15'
  rw [show (yF y == yT y) = false by simpa using p3, cond_false, Bool.cond_decide]
  split
  · exact no (fun h => by omega) w15 e15'
  rename_i p4
  rw [Bool.cond_decide]
  split
  · exact no (fun h => by omega) w15 e15'
  rename_i p5
  refine rFind_ok (hy.ext (e11.trans e15')) hn fun w17 e17 => ⟨kp_ext e17 (by (intro b hb; simp only [List.mem_cons, List.not_mem_nil, or_false] at hb; omega)), ?_⟩
  have z17 := e17.size
  have e17' := e15'.trans e17
  by_cases p6 : ¬ findW ways (yF y) (yT y) = some i
  · rw [show (ofN (findW ways (yF y) (yT y)) != (i : Int)) = true by
      rw [bne_iff_ne]
      cases hf : findW ways (yF y) (yT y) with
      | none => simp only [ofN]; omega
      | some j => simp only [ofN]; intro e; exact p6 (by rw [hf]; congr 1; omega), cond_true]
    exact no (fun h => p6 h.1.1) w17 e17'
  rw [Classical.not_not] at p6
  rw [show (ofN (findW ways (yF y) (yT y)) != (i : Int)) = false by rw [p6]; simp [ofN], cond_false]
  have okf : findW ways (yF y) (yT y) = some i ∧ yF y ≠ yT y ∧ 0 ≤ yF y ∧ 0 ≤ yT y ∧ yF y < (rank.length : Int) ∧ yT y < (rank.length : Int) ∧ 0 ≤ yW y ∧ yW y ≤ 1152921504606846976 := ⟨p6, p3, by omega, by omega, by omega, by omega, by omega, by omega⟩
  have hk' : ∀ b w', Ext w11 w' → (b = true ↔ OkWr rank ways y) → K b w' := fun b w' e hb => hk b w' (e11.trans e) ⟨fun h => ⟨okf, hb.1 h⟩, fun h => hb.2 h.2⟩
  have no' : ¬ OkWr rank ways y → ∀ w', Ext w17 w' → K false w' := fun hno w' e => no (fun h => hno h.2) w' (e17'.trans e)
  by_cases hm : yM y = -1
  · have hW : OkWr rank ways y ↔ (0 ≤ yA y ∧ yA y < 67108864) := by unfold OkWr; rw [if_pos hm]
    rw [show (yM y == -1) = true by simpa using hm, cond_true, Bool.cond_decide]
    split
    · exact hk' _ _ e17' (by rw [hW, decide_eq_true_iff]; omega)
    · rename_i ha
      exact no' (fun h => ha (hW.1 h).1) w17 (.refl _)
  have hW : OkWr rank ways y ↔ (yA y = -1 ∧ 0 ≤ yM y ∧ yM y < rank.length ∧ rkA rank (yM y) < rkA rank (yF y) ∧ rkA rank (yM y) < rkA rank (yT y) ∧
    ∃ a b, findW ways (yF y) (yM y) = some a ∧ findW ways (yM y) (yT y) = some b ∧ IntKind.i64.wrap (wW ways a + wW ways b) = yW y) := by unfold OkWr; rw [if_neg hm]
  rw [show (yM y == -1) = false by simpa using hm, cond_false]
  by_cases ha : yA y ≠ -1
  · rw [show (yA y != -1) = true by simpa using ha, cond_true]
    exact no' fun h => ha (hW.1 h).1
  have ha : yA y = -1 := by omega
  rw [show (yA y != -1) = false by simpa using ha, cond_false]
  refine rplace_quiet hl ?_
  by_cases p7 : ¬ (0 ≤ yM y ∧ yM y < (rank.length : Int))
  · rw [decide_eq_false p7]
    simp only [Bool.not_false, cond_true]
    exact no' fun h => p7 ⟨(hW.1 h).2.1, (hW.1 h).2.2.1⟩
  rw [Classical.not_not] at p7
  rw [decide_eq_true p7]
  simp only [Bool.not_true, cond_false]
  obtain ⟨m, hmm⟩ := Int.eq_ofNat_of_zero_le p7.1
  obtain ⟨f, hff⟩ := Int.eq_ofNat_of_zero_le p1.1
  obtain ⟨t, htt⟩ := Int.eq_ofNat_of_zero_le p2.1
  have hr17 := hr.ext (e11.trans e17')
  rw [hmm, hff]
  refine int_idx hr17 (by omega) fun _ q => ⟨_, q, ?_⟩
  refine int_idx hr17 (by omega) fun _ q => ⟨_, q, ?_⟩
  rw [rk_get (show m < rank.length by omega), rk_get (show f < rank.length by omega), ← hmm, ← hff, Bool.cond_decide]
  split
  · rename_i hge; exact no' fun h => by have := (hW.1 h).2.2.2.1; omega
  rename_i hge
  rw [hmm, htt]
  refine int_idx hr17 (by omega) fun _ q => ⟨_, q, ?_⟩
  refine int_idx hr17 (by omega) fun _ q => ⟨_, q, ?_⟩
  rw [rk_get (show m < rank.length by omega), rk_get (show t < rank.length by omega), ← hmm, ← htt]
  intro w33 e33
  have z33 := e33.size
  rw [Bool.cond_decide]
  split
  · rename_i hge2; exact no' (fun h => by have := (hW.1 h).2.2.2.2.1; omega) w33 e33
  rename_i hge2
  have hy33 := hy.ext ((e11.trans e17').trans e33)
  refine rFind_ok hy33 hn fun w35 e35 => ⟨kp_ext e35 (by (intro b hb; simp only [List.mem_cons, List.not_mem_nil, or_false] at hb; omega)), ?_⟩
  have z35 := e35.size
  refine rFind_ok (hy33.ext e35) hn fun w37 e37 => ⟨kp_ext e37 (by (intro b hb; simp only [List.mem_cons, List.not_mem_nil, or_false] at hb; omega)), ?_⟩
  have e3337 := e35.trans e37
  have e1737 := e33.trans e3337
  cases h1 : findW ways (yF y) (yM y) with
  | none =>
    rw [show decide (ofN none ≥ 0) = false from rfl, cond_false]
    intro w44 e44
    exact no' (fun h => by obtain ⟨_, _, _, _, _, a, b, q1, _, _⟩ := hW.1 h; rw [h1] at q1; cases q1) _ (e1737.trans e44)
  | some a =>
    rw [show decide (ofN (some a) ≥ 0) = true from decide_eq_true (by show (a : Int) ≥ 0; omega), cond_true]
    cases h2 : findW ways (yM y) (yT y) with
    | none =>
      rw [show decide (ofN none ≥ 0) = false from rfl, cond_false]
      intro w44 e44
      exact no' (fun h => by obtain ⟨_, _, _, _, _, a, b, _, q2, _⟩ := hW.1 h; rw [h2] at q2; cases q2) _ (e1737.trans e44)
    | some b =>
      rw [show decide (ofN (some b) ≥ 0) = true from decide_eq_true (by show (b : Int) ≥ 0; omega), cond_true]
      rw [show ofN (some a) = (a : Int) from rfl, show ofN (some b) = (b : Int) from rfl]
      obtain ⟨hka, _, _, _⟩ := findW_some h1
      obtain ⟨hkb, _, _, _⟩ := findW_some h2
      have hy37 := hy33.ext e3337
      refine way_idx hy37 hka fun q hq _ _ q2 _ _ => ⟨yW ways[a], ?_, ?_⟩
      · rw [add_add _ hq] at q2 ⊢; rw [addm]; exact q2
      refine way_idx hy37 hkb fun q hq _ _ q2 _ _ => ⟨yW ways[b], ?_, ?_⟩
      · rw [add_add _ hq] at q2 ⊢; rw [addm]; exact q2
      intro w42 e42
      refine hk' _ _ (e17'.trans (e1737.trans e42)) ?_
      rw [beq_iff_eq, hW, wW_get hka, wW_get hkb]
      constructor
      · intro hs; exact ⟨ha, p7.1, p7.2, by omega, by omega, a, b, h1, h2, hs⟩
      · rintro ⟨_, _, _, _, _, a', b', q1, q2, hs⟩
        rw [h1] at q1; rw [h2] at q2
        injection q1 with q1; injection q2 with q2
        subst q1 q2; exact hs

theorem okH_of {rank : List Int} {ways : List Wy} (hl : OkL rank ways) (hr : OkR rank) (hf : OkFs rank.length ways) (hw : ∀ y ∈ ways, OkWr rank ways y) : OkH rank ways := by
  refine ⟨hl.1, hl.2, hr, hf, fun y hy => ?_⟩
  have := hw y hy
  unfold OkWr at this; unfold OkW
  split
  · rename_i h; rw [if_pos h] at this; exact this
  · rename_i h; rw [if_neg h] at this
    obtain ⟨q1, q2, q3, q4, q5, a, b, q6, q7, q8⟩ := this
    refine ⟨q1, q2, q3, q4, q5, a, b, q6, q7, ?_⟩
    obtain ⟨ha, _⟩ := findW_some q6
    obtain ⟨hb, _⟩ := findW_some q7
    have wa := hf a ha; have wb := hf b hb
    unfold OkF at wa wb
    rw [wW_get ha] at wa; rw [wW_get hb] at wb
    rw [w64 (by omega) (by omega)] at q8; exact q8
theorem okH_wr {rank : List Int} {ways : List Wy} (ok : OkH rank ways) {y : Wy} (hy : y ∈ ways) : OkWr rank ways y := by
  have := ok.w y hy
  unfold OkW at this; unfold OkWr
  split
  · rename_i h; rw [if_pos h] at this; exact this
  · rename_i h; rw [if_neg h] at this
    obtain ⟨q1, q2, q3, q4, q5, a, b, q6, q7, q8⟩ := this
    refine ⟨q1, q2, q3, q4, q5, a, b, q6, q7, ?_⟩
    obtain ⟨ha, _⟩ := findW_some q6
    obtain ⟨hb, _⟩ := findW_some q7
    have wa := ok.f a ha; have wb := ok.f b hb
    unfold OkF at wa wb
    rw [wW_get ha] at wa; rw [wW_get hb] at wb
    rw [w64 (by omega) (by omega)]; exact q8

theorem rCheck_ok {K : Int → World → Prop} (hr : View RI w sr rank) (hy : View RW w sy ways) (hk : ∀ w', Ext w w' → K (chkF rank ways) w') : sh_postroadref10_Check sr sy K w := by
  unfold sh_postroadref10_Check
  intro b1 w2 e2 g1 g1'
  have z2 := e2.size
  have lr := hr.len; have ly := hy.len
  have long : ¬ OkL rank ways → K 3 w2 := fun hn => by
    have := hk w2 e2
    rw [(chkF_no (fun ok => hn ok.l)).2.2 hn] at this; exact this
  rw [Bool.cond_decide]
  split
  · exact long fun h => by unfold OkL at h; omega
  rw [Bool.cond_decide]
  split
  · exact long fun h => by unfold OkL at h; omega
  have okl : OkL rank ways := ⟨by omega, by omega⟩
  have bad : ¬ OkH rank ways → ∀ w', Ext w2 w' → K 2 w' := fun hn w' e => by
    have := hk w' (e2.trans e)
    rw [(chkF_no hn).2.1 okl] at this; exact this
  refine Join.cut (fun _ w' => Ext w2 w' ∧ OkR rank) (fun J hJ => ?_) ?_
  · refine LoopT.gh (γ := Nat) (fun i (st : Int × Unit) w' => st.1 = i ∧ i ≤ rank.length ∧ Ext w2 w' ∧ ∀ k : Nat, k < i → (k : Int) ∈ rank) (fun i => rank.length - i) 0 ⟨rfl, Nat.zero_le _, .refl _, fun k hk => by omega⟩ ?_
    rintro i ⟨x, _⟩ w6 ⟨hx, hi, e6, hin⟩ J1 hJ1
    simp only at hx; subst hx
    dsimp only
    have z6 := e6.size
    rw [Bool.cond_decide]
    by_cases hc : (i : Int) < (sr.len : Int)
    · rw [if_pos hc]
      have hi' : i < rank.length := by omega
      refine rAt_ok (hr.ext (e2.trans e6)) (by unfold OkL at okl; omega) fun x w8 e8 hx => ⟨kp_ext e8 (by (intro b hb; simp only [List.mem_cons, List.not_mem_nil, or_false] at hb; omega)), ?_⟩
      rcases hx with ⟨v, hv, he, rfl⟩ | ⟨hno, rfl⟩
      · rw [decide_eq_false (by omega), cond_false]
        refine hJ1 (i + 1) _ _ ⟨wsucc (m := 2 ^ 40) (by unfold OkL at okl; omega) (by omega), by omega, e6.trans e8, fun k hk => ?_⟩ (by omega)
        by_cases e : k = i
        · subst e; rw [← he]; exact List.getElem_mem hv
        · exact hin k (by omega)
      · rw [show decide ((-1 : Int) < 0) = true from rfl, cond_true]
        refine bad (fun ok => ?_) w8 (e6.trans e8)
        obtain ⟨v, hv, he⟩ := okR_onto ok.r hi'
        exact hno v hv he
    · rw [if_neg hc]
      exact hJ _ _ ⟨e6, onto_okR fun k hk => hin k (by omega)⟩
  rintro _ w10 ⟨e10, okr⟩
  refine LoopT.gh (γ := Nat) (fun i (st : Int × Unit) w' => st.1 = i ∧ i ≤ ways.length ∧ Ext w2 w' ∧ ∀ j (hj : j < ways.length), j < i → OkF rank.length (ways.take j) ways[j] ∧ OkWr rank ways ways[j]) (fun i => ways.length - i) 0 ⟨rfl, Nat.zero_le _, e10, fun j _ hj => by omega⟩ ?_
  rintro i ⟨x, _⟩ w13 ⟨hx, hi, e13, hok⟩ J1 hJ1
  simp only at hx; subst hx
  dsimp only
  have z13 := e13.size
  rw [Bool.cond_decide]
  by_cases hc : (i : Int) < (sy.len : Int)
  · rw [if_pos hc]
    have hi' : i < ways.length := by omega
    refine rright_ok (hr.ext (e2.trans e13)) (hy.ext (e2.trans e13)) (by unfold OkL at okl; omega) hi' fun b w15 e15 hb => ⟨kp_ext e15 (by (intro b hb; simp only [List.mem_cons, List.not_mem_nil, or_false] at hb; omega)), ?_⟩
    cases b with
    | false =>
      simp only [Bool.not_false, cond_true]
      refine bad (fun ok => ?_) w15 (e13.trans e15)
      have := hb.2 ⟨ok.f i hi', okH_wr ok (List.getElem_mem hi')⟩; cases this
    | true =>
      simp only [Bool.not_true, cond_false]
      refine hJ1 (i + 1) _ _ ⟨wsucc (m := 2 ^ 40) (by unfold OkL at okl; omega) (by omega), by omega, e13.trans e15, fun j hj hji => ?_⟩ (by omega)
      by_cases e : j = i
      · subst e; exact hb.1 rfl
      · exact hok j hj (by omega)
  · rw [if_neg hc]
    have ok : OkH rank ways := okH_of okl okr (fun j hj => (hok j hj (by omega)).1) fun y hy => by
      obtain ⟨j, hj, rfl⟩ := List.getElem_of_mem hy
      exact (hok j hj (by omega)).2
    have := hk w13 (e2.trans e13)
    rw [chkF_ok ok] at this; exact this
end
end Go.Sh

/- The reference's edges; what is known. -/
set_option maxRecDepth 100000
namespace Go.Sh
open Go.RowKit

section
variable {w : World} {sr sy : SV} {rank : List Int} {ways : List Wy}

end
end Go.Sh

/- HierTwo, HierFinds. -/
set_option maxRecDepth 100000
namespace Go.Sh
open Go.RowKit

section
variable {w : World} {p : Option Addr} {rank : List Int} {ways : List Wy} {F : Nat → Prop}
end

end Go.Sh

/- HierTells. -/
set_option maxRecDepth 100000
namespace Go.Sh
open Go.RowKit

end Go.Sh

/- What a way opens to, and how deep: the reference, the program. -/
set_option maxRecDepth 100000
namespace Go.Sh
open Go.RowKit

theorem gN_some (k : Nat) : gN (some k) = (k : Int) := rfl
section
variable {rank : List Int} {ways : List Wy} {sr sy : SV} {w : World}
theorem maxI (a b : Nat) : (if (b : Int) > (a : Int) then (b : Int) else (a : Int)) = ((max a b : Nat) : Int) := by split <;> omega
end

section
variable {w : World} {p : Option Addr} {rank : List Int} {ways : List Wy} {F : Nat → Prop}
theorem DeepN_ok {k : Nat} {l : List Int} {d s : Nat} (hO : Opn ways k l d s) : ∀ n, d ≤ n → n ≤ 2 ^ 40 → ∀ (w : World) (K : Int → World → Prop), HierA w p rank ways F → (∀ w', Ext w w' → K (d : Int) w') → sh_unpack_Deep.n n p (k : Int) K w := by
  induction hO with
  | @arc k hk hm =>
    intro n hd _ w K hH hK
    obtain ⟨m, rfl⟩ : ∃ m, n = m + 1 := ⟨n - 1, by omega⟩
    unfold sh_unpack_Deep.n sh_unpack_Deep.step
    refine HWay_ok hH (fun i hi hil w7 e7 => ?_) fun hno => absurd ⟨by omega, by omega⟩ hno
    intro b8 w9 e9 g8 g8' w10 o10
    have z7 := e7.size; have z9 := e9.size; have z10 := o10.size
    have e10 : Ext w w10 := ext_off (e7.trans e9) o10 (by omega)
    rw [Bool.not_true, cond_false]
    refine HHalves_ok (hH.ext e10) (fun j hj hjl hne => ?_) fun _ w14 e14 => ⟨kp1 e14 (by omega), ?_⟩
    · have : k = j := by omega
      subst this; exact absurd hm hne
    rw [Bool.not_false, cond_true]
    exact hK w14 (e10.trans e14)
  | @mid k a b l m d e s t hk hm ha hb h1 h2 i1 i2 =>
    intro n hd h40 w K hH hK
    obtain ⟨n, rfl⟩ : ∃ m, n = m + 1 := ⟨n - 1, by omega⟩
    unfold sh_unpack_Deep.n sh_unpack_Deep.step
    refine HWay_ok hH (fun i hi hil w7 e7 => ?_) fun hno => absurd ⟨by omega, by omega⟩ hno
    intro b8 w9 e9 g8 g8' w10 o10
    have z7 := e7.size; have z9 := e9.size; have z10 := o10.size
    have e10 : Ext w w10 := ext_off (e7.trans e9) o10 (by omega)
    rw [Bool.not_true, cond_false]
    refine HHalves_ok (hH.ext e10) (fun j hj hjl hne w14 e14 => ⟨kp1 e14 (by omega), ?_⟩) fun hno => absurd (hno k rfl hk) hm
    have : k = j := by omega
    subst this
    have z14 := e14.size
    rw [ha, hb, gN_some, gN_some]
    simp only [Option.isSome_some, Bool.and_self, Bool.not_true, cond_false]
    refine i1 n (by omega) (by omega) w14 _ (hH.ext (e10.trans e14)) fun w16 e16 => ⟨kp1 e16 (by omega), ?_⟩
    have z16 := e16.size
    refine i2 n (by omega) (by omega) w16 _ (hH.ext ((e10.trans e14).trans e16)) fun w18 e18 => ⟨kp1 e18 (by omega), ?_⟩
    have := hK w18 (((e10.trans e14).trans e16).trans e18)
    rw [maxI, w64 (by omega) (by omega)]
    rw [show (1 : Int) + ((max d e : Nat) : Int) = ((1 + max d e : Nat) : Int) by omega]
    exact this
theorem Deep_ok {k : Int} {K : Int → World → Prop} (hH : HierA w p rank ways F) (hK : ∀ w', Ext w w' → K (deepF ways k) w') : sh_unpack_Deep p k K w := by
  have ok := hH.ok
  have hkk := ok.k
  by_cases hk : 0 ≤ k ∧ k < (ways.length : Int)
  · obtain ⟨k, rfl⟩ := Int.eq_ofNat_of_zero_le hk.1
    obtain ⟨l, d, s, h, hd⟩ := Opn.ex ok (show k < ways.length by omega)
    rw [deepF_of h] at hK
    exact ⟨d, DeepN_ok h d (Nat.le_refl _) (by have := ok.n; omega) w K hH hK⟩
  · rw [deepF_no hk] at hK
    refine ⟨1, ?_⟩
    unfold sh_unpack_Deep.n sh_unpack_Deep.step
    refine HWay_ok hH (fun i hi hil => absurd ⟨by omega, by omega⟩ hk) fun _ w7 e7 => ?_
    intro b8 w9 e9 g8 g8' w10 o10
    rw [Bool.not_false, cond_true]
    exact hK w10 (ext_off (e7.trans e9) o10 (by have := e7.size; omega))
end
end Go.Sh

/- Ways' arcs, by a stack. -/
set_option maxRecDepth 100000
namespace Go.Sh
open Go.RowKit

/-- How many openings a way takes. -/
noncomputable def szF (ways : List Wy) (k : Int) : Nat := by
  classical exact if h : ∃ s l d, 0 ≤ k ∧ Opn ways k.toNat l d s then h.choose else 1
section
variable {ways : List Wy}
theorem szF_of {k : Nat} {l : List Int} {d s : Nat} (h : Opn ways k l d s) : szF ways (k : Int) = s := by
  unfold szF
  have hx : ∃ s l d, 0 ≤ (k : Int) ∧ Opn ways (k : Int).toNat l d s := ⟨s, l, d, by omega, h⟩
  rw [dif_pos hx]
  obtain ⟨l', d', _, h'⟩ := hx.choose_spec
  exact (Opn.det h' h).2.2
theorem szF_pos (k : Int) : 1 ≤ szF ways k := by
  unfold szF
  split
  · rename_i h
    obtain ⟨l, d, _, h'⟩ := h.choose_spec
    have := h'.bd; omega
  · exact Nat.le_refl _
theorem sz_len : ∀ ks : List Int, ks.length ≤ (ks.map (szF ways)).sum
  | [] => Nat.zero_le _
  | k :: ks => by
    have := sz_len ks; have := szF_pos (ways := ways) k
    simp only [List.length_cons, List.map_cons, List.sum_cons]; omega
end

section
variable {w : World} {p : Option Addr} {rank : List Int} {ways : List Wy} {F : Nat → Prop}
theorem fl_snoc (S : List Int) (k : Int) : (S ++ [k]).reverse.flatMap (opnF ways) = opnF ways k ++ S.reverse.flatMap (opnF ways) := by simp
theorem open_ok {l0 : SV} {ks : List Int} {K : SV → World → Prop} (hH : HierA w p rank ways F) (h : View RI w l0 ks) (hT : (ks.map (szF ways)).sum < 2 ^ 40)
    (hk : ∀ t w', Ext w w' → Own RI w' t (ks.flatMap (opnF ways)) → Fsh w t → K t w') : sh_unpack_open p l0 K w := by
  have ok := hH.ok
  have hkl := sz_len (ways := ways) ks
  unfold sh_unpack_open
  refine Clone_ok h (by omega) fun s1 w2 e2 o1 f1 => ?_
  have z2 := e2.size
  refine Reverse_ok o1 (by omega) fun w3 c3 o3 => ?_
  have e3 : Ext w w3 := ext_chg e2 c3 f1
  refine LoopT.gh (γ := List Int × List Int) (fun g (st : SV × SV × Unit) w' => Ext w w' ∧ Own RI w' st.1 g.1 ∧ Own RI w' st.2.1 g.2 ∧ Fsh w st.1 ∧ Fsh w st.2.1 ∧ Dj st.1.blk st.2.1.blk ∧ g.1 ++ g.2.reverse.flatMap (opnF ways) = ks.flatMap (opnF ways) ∧ g.1.length + (g.2.map (szF ways)).sum ≤ (ks.map (szF ways)).sum) (fun g => (g.2.map (szF ways)).sum)
    ([], ks.reverse) ⟨e3, Own.nil, o3, fsh_nil, f1, (fun k ⟨q, hq, _⟩ => by cases hq), by simp, by simp [List.sum_reverse]⟩ ?_
  rintro ⟨L, S⟩ ⟨sL, sS, _⟩ w6 ⟨e6, oL, oS, fL, fS, dLS, hfl, hsum⟩ J1 hJ1
  dsimp only at oL oS fL fS dLS hfl hsum ⊢
  have lS := oS.view.len
  have hSl := sz_len (ways := ways) S
  rw [Bool.cond_decide]
  by_cases hc : (sS.len : Int) > 0
  · rw [if_pos hc]
    obtain ⟨S', k, rfl⟩ : ∃ S' k, S = S' ++ [k] := by
      rcases List.eq_nil_or_concat S with h | ⟨S', k, h⟩
      · rw [h] at lS; simp only [List.length_nil] at lS; omega
      · exact ⟨S', k, by rw [h, List.concat_eq_append]⟩
    simp only [List.length_append, List.length_cons, List.length_nil] at lS
    have hS1 : S'.length + 1 ≤ ((S' ++ [k]).map (szF ways)).sum := by have := hSl; simp only [List.length_append, List.length_cons, List.length_nil] at this; exact this
    have hw : IntKind.i64.wrap ((sS.len : Int) - 1) = ((S'.length : Nat) : Int) := by rw [w64 (by omega) (by omega)]; omega
    rw [hw]
    refine int_idx oS.view (i := S'.length) (by simp) fun _ a0 => ⟨_, a0, ?_⟩
    rw [List.getElem_append_right (Nat.le_refl _)]
    simp only [Nat.sub_self, List.getElem_cons_zero]
    refine oS.cutL (R := RI) fun s9 o9 ha9 => ?_
    have b9 : ∀ j, s9.blk j ↔ sS.blk j := fun j => by unfold SV.blk; rw [ha9]
    rw [fl_snoc] at hfl
    rw [List.map_append, List.sum_append] at hsum
    simp only [List.map_cons, List.map_nil, List.sum_cons, List.sum_nil, Nat.add_zero] at hsum
    have hms : ((S' ++ [k]).map (szF ways)).sum = (S'.map (szF ways)).sum + szF ways k := by simp
    rw [hms] at hJ1 hSl
    simp only [List.length_append, List.length_cons, List.length_nil] at hSl
    have z6 := e6.size
    refine HHalves_ok (hH.ext e6) (fun i hi hil hm w13 e13 => ?_) fun hno w13 e13 => ?_
    · subst hi
      obtain ⟨l, d, s, hO, _⟩ := Opn.ex ok hil
      cases hO with
      | arc _ hm' => exact absurd hm' hm
      | @mid _ a b l1 l2 d1 d2 s1' s2' _ _ ha hb h1 h2 =>
      have hO : Opn ways i _ _ _ := .mid hil hm ha hb h1 h2
      rw [ha, hb, gN_some, gN_some]
      simp only [Option.isSome_some, Bool.and_self, cond_true]
      intro b14 w15 e15 g14 hB
      have z13 := e13.size; have z15 := e15.size
      have v14 : View RI w15 ⟨some ⟨b14, 0, none⟩, 2, 2⟩ [(b : Int), (a : Int)] := (Own.of_blk (R := RI) (l := [(b : Int), (a : Int)]) hB).view
      have q1 := szF_of hO; have q2 := szF_of h1; have q3 := szF_of h2
      refine Own.app (R := RI) ((o9.ext e13).ext e15) v14 (by simp only [List.length_cons, List.length_nil]; omega) (by simp only [List.length_cons, List.length_nil]; omega) fun s16 w17 c17 h16 o16 => ?_
      have e15' := (e6.trans e13).trans e15
      refine hJ1 (L, S' ++ [(b : Int), (a : Int)]) _ w17 ⟨ext_chg e15' c17 fun j hj => fS j ((b9 j).1 hj), ((oL.ext e13).ext e15).chg c17 fun j h1 h2 => dLS j h1 ((b9 j).1 h2), o16, fL, fun j hj => ?_, fun j h1 h2 => ?_, ?_, ?_⟩ ?_
      · rcases h16 j hj with q | q
        · exact fS j ((b9 j).1 q)
        · omega
      · rcases h16 j h2 with q | q
        · exact dLS j h1 ((b9 j).1 q)
        · have := oL.lt h1; omega
      · rw [← hfl]
        have e1 := opnF_of hO; have e2 := opnF_of h1; have e3 := opnF_of h2
        rw [e1]
        simp [e2, e3]
      · simp only [List.map_append, List.map_cons, List.map_nil, List.sum_append, List.sum_cons, List.sum_nil, Nat.add_zero]
        omega
      · simp only [List.map_append, List.map_cons, List.map_nil, List.sum_append, List.sum_cons, List.sum_nil, Nat.add_zero]
        omega
    · rw [cond_false]
      have z13 := e13.size
      refine HWay_ok (hH.ext (e6.trans e13)) (fun i hi hil w24 e24 => ?_) fun hno2 w24 e24 => ?_
      · subst hi
        have hm := hno i rfl hil
        intro b25 w26 e26 g25 g25' w27 o27
        have z24 := e24.size; have z26 := e26.size; have z27 := o27.size
        have e27 : Ext w w27 := ext_off (((e6.trans e13).trans e24).trans e26) o27 (by omega)
        rw [cond_true]
        have oL27 := (oL.ext ((e13.trans e24).trans e26)).off o27 fun hj => by have := oL.lt hj; omega
        have o927 := (o9.ext ((e13.trans e24).trans e26)).off o27 fun hj => by have := o9.lt hj; omega
        have hO : Opn ways i _ _ _ := .arc hil hm
        have q1 := szF_of hO
        refine push_ok (R := RI) (x := yA ways[i]) oL27 (by omega) (by omega) fun w29 s30 w31 e29 c31 h30 o30 => ⟨kc1 c31 (by have := e29.size; omega) fun hj => by have := oL.lt hj; omega, ?_⟩
        have z29 := e29.size
        refine hJ1 (L ++ [yA ways[i]], S') _ w31 ⟨ext_chg (e27.trans e29) c31 fL, o30, (o927.ext e29).chg c31 fun j h1 h2 => dLS j h2 ((b9 j).1 h1), fun j hj => ?_, fun j hj => fS j ((b9 j).1 hj), fun j h1 h2 => ?_, ?_, ?_⟩ ?_
        · rcases h30 j hj with q | q
          · exact fL j q
          · omega
        · rcases h30 j h1 with q | q
          · exact dLS j q ((b9 j).1 h2)
          · have := o9.lt h2; omega
        · rw [← hfl, opnF_of hO]; simp
        · simp only [List.length_append, List.length_cons, List.length_nil]; omega
        · simp only; omega
      · intro b25 w26 e26 g25 g25' w27 o27
        have z24 := e24.size; have z26 := e26.size; have z27 := o27.size
        have e27 : Ext w w27 := ext_off (((e6.trans e13).trans e24).trans e26) o27 (by omega)
        rw [cond_false]
        have oL27 := (oL.ext ((e13.trans e24).trans e26)).off o27 fun hj => by have := oL.lt hj; omega
        have o927 := (o9.ext ((e13.trans e24).trans e26)).off o27 fun hj => by have := o9.lt hj; omega
        have hz := szF_pos (ways := ways) k
        refine hJ1 (L, S') _ w27 ⟨e27, oL27, o927, fL, fun j hj => fS j ((b9 j).1 hj), fun j h1 h2 => dLS j h1 ((b9 j).1 h2), ?_, by simp only; omega⟩ (by simp only; omega)
        rw [← hfl, opnF_no (by omega)]; rfl
  · rw [if_neg hc]
    have : S = [] := List.eq_nil_of_length_eq_zero (by omega)
    subst this
    simp only [List.reverse_nil, List.flatMap_nil, List.append_nil] at hfl
    rw [hfl] at oL
    exact hk sL w6 e6 oL fL

theorem sz_fit (ok : OkH rank ways) (hr : rank.length ≤ 14) (k : Int) : szF ways k ≤ 16384 := by
  by_cases hk : 0 ≤ k ∧ k < (ways.length : Int)
  · obtain ⟨k, rfl⟩ := Int.eq_ofNat_of_zero_le hk.1
    obtain ⟨l, d, s, h, hd⟩ := Opn.ex ok (show k < ways.length by omega)
    rw [szF_of h]
    have := h.bd
    have : 2 ^ d ≤ 2 ^ 14 := Nat.pow_le_pow_right (by decide) (by omega)
    omega
  · unfold szF
    rw [dif_neg]
    · decide
    · rintro ⟨s, l, d, h0, h⟩
      exact hk ⟨h0, by have := h.lt; omega⟩
theorem opn_len (ok : OkH rank ways) (hr : rank.length ≤ 14) (k : Int) : (opnF ways k).length ≤ 16384 := by
  by_cases hk : 0 ≤ k ∧ k < (ways.length : Int)
  · obtain ⟨k, rfl⟩ := Int.eq_ofNat_of_zero_le hk.1
    obtain ⟨l, d, s, h, hd⟩ := Opn.ex ok (show k < ways.length by omega)
    rw [opnF_of h]
    have := h.bd
    have : 2 ^ d ≤ 2 ^ 14 := Nat.pow_le_pow_right (by decide) (by omega)
    omega
  · rw [opnF_no hk]; decide
theorem Open_ok {k : Int} {K : SV → World → Prop} (hH : HierA w p rank ways F) (hr : rank.length ≤ 14) (hk : ∀ t w', Ext w w' → Own RI w' t (opnF ways k) → Fsh w t → K t w') : sh_unpack_Open p k K w := by
  unfold sh_unpack_Open
  intro b1 w2 e2 g1 hB
  have z2 := e2.size
  have hs := sz_fit hH.ok hr k
  refine open_ok (hH.ext e2) (own_one hB).view (by simp only [List.map_cons, List.map_nil, List.sum_cons, List.sum_nil]; omega) fun t w4 e4 o4 f4 => ?_
  rw [List.flatMap_cons, List.flatMap_nil, List.append_nil] at o4
  exact hk t w4 (e2.trans e4) o4 fun j hj => by have := f4 j hj; omega

/-! ### One hierarchy is known -/
def roofR : List Int := [1, 0, 2]
def roofW : List Wy := [(0, 1, 2, -1, 5), (1, 2, 3, -1, 3), (0, 2, 5, 1, -1)]
theorem roof_ok : OkH roofR roofW := by
  refine ⟨by decide, by decide, ⟨by decide, by decide⟩, fun i hi => ?_, fun y hy => ?_⟩
  · have : i = 0 ∨ i = 1 ∨ i = 2 := by simp [roofW] at hi; omega
    rcases this with rfl | rfl | rfl
    · show OkF 3 [] (0, 1, 2, -1, 5)
      unfold OkF; decide
    · show OkF 3 [(0, 1, 2, -1, 5)] (1, 2, 3, -1, 3)
      unfold OkF; decide
    · show OkF 3 [(0, 1, 2, -1, 5), (1, 2, 3, -1, 3)] (0, 2, 5, 1, -1)
      unfold OkF; decide
  · simp [roofW] at hy
    rcases hy with rfl | rfl | rfl <;> unfold OkW
    · rw [if_pos (by decide)]; decide
    · rw [if_pos (by decide)]; decide
    · rw [if_neg (by decide)]
      exact ⟨rfl, by decide, by decide, by decide, by decide, 0, 1, by decide, by decide, by decide⟩
theorem roof_opn : Opn roofW 2 [5, 3] 2 3 := .mid (k := 2) (a := 0) (b := 1) (l := [5]) (m := [3]) (d := 1) (e := 1) (s := 1) (t := 1) (by decide) (by decide) (by decide) (by decide) (.arc (by decide) (by decide)) (.arc (by decide) (by decide))
theorem known13_ok {K : Bool → World → Prop} (hk : ∀ w', Ext w w' → K true w') : sh_postroadlaw13_known K w := by
  unfold sh_postroadlaw13_known
  intro b1 w2 e2 g1 hB1 b3 w4 e4 g3 hB3
  have hr : View RI w4 ⟨some ⟨b1, 0, none⟩, 3, 3⟩ roofR := View.all (R := RI) (xs := roofR) (e4.blkE hB1)
  have hy : View RW w4 ⟨some ⟨b3, 0, none⟩, 3, 3⟩ roofW := View.all (R := RW) (xs := roofW) hB3
  refine HNew_ok hr hy (by decide) (by decide) (fun _ p w6 F e6 hH _ => ?_) (fun hno => absurd roof_ok hno)
  refine Open_ok (k := 2) hH (by decide) fun s7 w8 e8 o7 f7 => ?_
  rw [show opnF roofW 2 = [5, 3] from opnF_of roof_opn] at o7
  intro b9 w10 e10 g9 hB9
  have v9 : View RI w10 ⟨some ⟨b9, 0, none⟩, 2, 2⟩ [5, 3] := View.all (R := RI) (xs := [5, 3]) hB9
  refine sameI_ok (o7.ext e10).view v9 (by decide) fun w12 e12 => ?_
  rw [cond_true]
  have e612 := (e8.trans e10).trans e12
  refine Deep_ok (k := 2) (hH.ext e612) fun w14 e14 => ?_
  rw [show deepF roofW 2 = 2 from deepF_of roof_opn, show ((2 : Int) == 2) = true from rfl, cond_true]
  refine Deep_ok (k := 3) (hH.ext (e612.trans e14)) fun w16 e16 => ?_
  rw [deepF_no (by decide)]
  exact hk w16 (((e2.trans e4).trans e6).trans ((e612.trans e14).trans e16))
end
end Go.Sh

/- How far the places are that ways lead up (or down) to. -/
set_option maxRecDepth 100000
namespace Go.Sh
open Go.RowKit

/-- A hierarchy whose ways are not too long. -/
structure FitH (rank : List Int) (ways : List Wy) : Prop where
  ok : OkH rank ways
  n : rank.length ≤ 2048
  b : ∀ y ∈ ways, yW y ≤ 1125899906842624

section
variable {rank : List Int} {ways : List Wy} {top : Int} {back : Bool}
end

section
variable {CV : CVT} {w : World} {p : Option Addr} {rank : List Int} {ways : List Wy} {F : Nat → Prop}

end
end Go.Sh

/- The maps' reference: which arcs count, and the edges out of a place; what is only laid. -/
set_option maxRecDepth 100000
namespace Go.Sh
open Go.RowKit

section
variable {α : Type} {R : Rc α} {w0 w w' w'' : World} {n : Nat} {s : SV} {xs : List α}
end

section
variable {w : World}

end
end Go.Sh

/- What is reached, told as rows; Within, Forward, Back, Find. -/
set_option maxRecDepth 100000
namespace Go.Sh
open Go.RowKit

section
variable {CV : CVT} {w : World} {p : Option Addr} {rank : List Int} {ways : List Wy} {F : Nat → Prop}

end
end Go.Sh

/- What is left of a map: laid, and read. -/
set_option maxRecDepth 100000
namespace Go.Sh
open Go.RowKit

section
variable {w w' : World} {n : Nat} {sI sL sO : SV} {inn lost : Nat → Int} {L : List Wy}
end
end Go.Sh

/- Which place is taken next. -/
set_option maxRecDepth 100000
namespace Go.Sh
open Go.RowKit

section
variable {w w' : World} {n : Nat} {sI sL sO : SV} {inn lost : Nat → Int} {L : List Wy}
end
end Go.Sh

/- Is there a way around? -/
set_option maxRecDepth 100000
namespace Go.Sh
open Go.RowKit

section
variable {w w' : World} {n : Nat} {sI sL sO : SV} {inn lost : Nat → Int} {L : List Wy}
end
end Go.Sh

/- The reference of space: Fit, Climb, Rows, Above, Same. -/
set_option maxRecDepth 100000
namespace Go.Sh
open Go.RowKit

section
variable {rank : List Int} {ways : List Wy} {top : Int} {back : Bool}
end

section
variable {w : World} {rank : List Int} {ways : List Wy} {sr sy : SV}

theorem Fit_ok {K : Bool → World → Prop} (hr : View RI w sr rank) (hy : View RW w sy ways) (hk : ∀ b w', Ext w w' → (b = true → FitH rank ways ∧ rank.length ≤ 14 ∧ ways.length ≤ 80) → K b w') : sh_postroadref11_Fit sr sy K w := by
  unfold sh_postroadref11_Fit
  intro b1 w2 e2 g1 g1'
  have z2 := e2.size
  have lr := hr.len; have ly := hy.len
  have no : ∀ w', Ext w w' → K false w' := fun w' e => hk false w' e fun q => by cases q
  rw [Bool.cond_decide]; split
  · exact no _ e2
  rename_i h1
  rw [Bool.cond_decide]; split
  · exact no _ e2
  rename_i h2
  refine rCheck_ok (hr.ext e2) (hy.ext e2) fun w4 e4 => ⟨kp1 e4 (by omega), ?_⟩
  by_cases ok : ¬ OkH rank ways
  · rw [show (chkF rank ways != 0) = true by simpa using (chkF_no ok).1, cond_true]
    exact no _ (e2.trans e4)
  rw [Classical.not_not] at ok
  rw [chkF_ok ok, bne_self_eq_false, cond_false]
  refine LoopT.gh (γ := Nat) (fun i (st : Int × Unit) w' => st.1 = i ∧ i ≤ ways.length ∧ Ext w w' ∧ ∀ j (hj : j < ways.length), j < i → yW ways[j] ≤ 1125899906842624) (fun i => ways.length - i) 0 ⟨rfl, Nat.zero_le _, e2.trans e4, fun j hj h => by omega⟩ ?_
  rintro i ⟨x, _⟩ w7 ⟨hx, hi, e7, hb⟩ J1 hJ1
  simp only at hx; subst hx
  dsimp only
  rw [Bool.cond_decide]
  by_cases hc : (i : Int) < (sy.len : Int)
  · rw [if_pos hc]
    have hi' : i < ways.length := by omega
    refine way_idx (hy.ext e7) hi' fun a ha _ _ a2 _ _ => ⟨yW ways[i], ?_, ?_⟩
    · obtain ⟨b, o, sp⟩ := a
      simp only at ha; subst ha
      rw [addm] at a2 ⊢; rw [addm]; exact a2
    rw [Bool.cond_decide]
    by_cases hw : yW ways[i] > 1125899906842624
    · rw [if_pos hw]; exact no _ e7
    · rw [if_neg hw]
      refine hJ1 (i + 1) _ _ ⟨wsucc (m := 2 ^ 40) (by omega) (by omega), by omega, e7, fun j hj hji => ?_⟩ (by omega)
      by_cases e : j = i
      · subst e; omega
      · exact hb j hj (by omega)
  · rw [if_neg hc]
    refine hk true w7 e7 fun _ => ⟨⟨ok, by omega, fun y hy' => ?_⟩, by omega, by omega⟩
    obtain ⟨j, hj, rfl⟩ := List.getElem_of_mem hy'
    exact hb j hj (by omega)

end
end Go.Sh

/- What ways stand in for a place. -/
set_option maxRecDepth 100000
namespace Go.Sh
open Go.RowKit

section
variable {w w' : World} {n : Nat} {sI sL sO : SV} {inn lost : Nat → Int} {L : List Wy}
end
end Go.Sh

/- A way is put; a place is taken. -/
set_option maxRecDepth 100000
namespace Go.Sh
open Go.RowKit

section
variable {w w' : World} {n : Nat} {sI sL sO : SV} {inn lost : Nat → Int} {L : List Wy}

end
end Go.Sh

/- The reference hierarchy of a map. -/
set_option maxRecDepth 100000
namespace Go.Sh
open Go.RowKit

section
variable {E : Nat → Nat → Int → Prop} {arcs : List (Int × Int × Int)} {n k : Nat} {B : Int} {L H : List Wy} {r : Nat → Int}
end

end Go.Sh

/- The reference hierarchy of a map: its walk. -/
set_option maxRecDepth 100000
namespace Go.Sh
open Go.RowKit

section
variable {w : World} {n : Nat} {arcs : List Arc}
end
end Go.Sh

/- HierOfMaps. -/
set_option maxRecDepth 100000
namespace Go.Sh
open Go.RowKit

section
variable {w : World}
end
end Go.Sh

/- The reference's table: arc by arc, till nothing is nearer. -/
set_option maxRecDepth 100000
namespace Go.Sh
open Go.RowKit

section
variable {w : World} {N : Int} {s : SV} {arcs : List Arc}

end
end Go.Sh

/- UnpackOpens, UnpackHalves, UnpackWays. -/
set_option maxRecDepth 100000
namespace Go.Sh
open Go.RowKit

section
variable {w : World} {rank : List Int} {ways : List Wy} {sr sy : SV}
theorem UnpackHalves_ok {K : Bool → World → Prop} (hr : View RI w sr rank) (hy : View RW w sy ways) (hk : ∀ w', Ext w w' → K true w') : sh_postroadlaw13_UnpackHalves sr sy K w := by
  unfold sh_postroadlaw13_UnpackHalves
  intro b1 w2 e2 g1 g1'
  have z2 := e2.size
  have lr := hr.len; have ly := hy.len
  have kn : ∀ {wa}, w2.heap.size ≤ wa.heap.size → Ext w wa → sh_postroadlaw13_known (fun t w8 => Keeps [b1] wa w8 ∧ K t w8) wa := fun {wa} hz ea =>
    known13_ok fun w6 e6 => ⟨kp1 e6 (by omega), hk w6 (ea.trans e6)⟩
  refine Fit_ok (hr.ext e2) (hy.ext e2) fun b w4 e4 hb => ⟨kp1 e4 (by omega), ?_⟩
  have z4 := e4.size
  have e04 := e2.trans e4
  cases b with
  | false => rw [Bool.not_false, cond_true]; exact kn (by omega) e04
  | true =>
  rw [Bool.not_true, cond_false]
  obtain ⟨fit, hn, hm⟩ := hb rfl
  refine HNew_ok (hr.ext e04) (hy.ext e04) (by omega) (by omega) (fun _ p w8 F e8 hH _ => ⟨kp1 e8 (by omega), ?_⟩) fun hno => absurd fit.ok hno
  have z8 := e8.size
  have e08 := e04.trans e8
  refine Join.cut (fun _ w' => Ext w8 w') (fun J hJ => ?_) fun _ w34 e34 => kn (by have := e34.size; omega) (e08.trans e34)
  refine LoopT.gh (γ := Nat) (fun i (st : Int × Unit) w' => st.1 = i ∧ i ≤ ways.length ∧ Ext w8 w') (fun i => ways.length - i) 0 ⟨rfl, by omega, .refl _⟩ ?_
  rintro i ⟨x, _⟩ w12 ⟨hx, hi, e12⟩ J1 hJ1
  simp only at hx; subst hx
  dsimp only
  have z12 := e12.size
  rw [Bool.cond_decide]
  by_cases hc : (i : Int) < (sy.len : Int)
  · rw [if_pos hc]
    have hil : i < ways.length := by omega
    refine Join.cut (fun _ w' => Ext w8 w') (fun J2 hJ2 => ?_) fun _ w41 e41 => hJ1 (i + 1) _ _ ⟨wsucc (m := 2 ^ 40) (by omega) (by omega), by omega, e41⟩ (by omega)
    refine Open_ok (hH.ext e12) hn fun s14 w15 e15 o14 _ => ⟨kp1 e15 (by omega), ?_⟩
    have z15 := e15.size
    have e815 := e12.trans e15
    obtain ⟨l, d, s, hO, hd⟩ := Opn.ex fit.ok hil
    have hO' := hO
    rw [opnF_of hO] at o14
    cases hO with
    | arc _ hm =>
      refine HHalves_ok (hH.ext e815) (fun j hj hjl hne => ?_) fun _ w19 e19 => ⟨kp1 e19 (by omega), ?_⟩
      · have : i = j := by omega
        subst this; exact absurd hm hne
      have z19 := e19.size
      rw [Bool.not_false, cond_true]
      refine way_idx (hy.ext (e08.trans (e815.trans e19))) hil fun q hq _ _ _ _ q4 => ⟨yA ways[i], ?_, ?_⟩
      · rw [add_add _ hq] at q4 ⊢; rw [addm]; exact q4
      intro b22 w23 e23 g22 hB
      have z23 := e23.size
      refine sameI_ok ((o14.ext e19).ext e23).view (own_one hB).view (by simp) fun w25 e25 => ⟨kp1 e25 (by omega), ?_⟩
      rw [Bool.not_true, cond_false]
      exact hJ2 _ _ ((e815.trans e19).trans (e23.trans e25))
    | @mid _ a b l1 l2 d1 d2 s1 s2 _ hm ha hb h1 h2 =>
      refine HHalves_ok (hH.ext e815) (fun j hj hjl hne w19 e19 => ⟨kp1 e19 (by omega), ?_⟩) fun hno => absurd (hno i rfl hil) hm
      have : i = j := by omega
      subst this
      have z19 := e19.size
      rw [ha, hb, gN_some, gN_some]
      simp only [Option.isSome_some, Bool.and_self, Bool.not_true, cond_false]
      have e819 := e815.trans e19
      have p1 := opn_len fit.ok hn (a : Int); have p2 := opn_len fit.ok hn (b : Int)
      rw [opnF_of h1] at p1; rw [opnF_of h2] at p2
      refine Open_ok (k := (a : Int)) (hH.ext e819) hn fun s26 w27 e27 o26 f26 => ⟨kp1 e27 (by omega), ?_⟩
      have z27 := e27.size
      rw [opnF_of h1] at o26
      refine Open_ok (k := (b : Int)) (hH.ext (e819.trans e27)) hn fun s28 w29 e29 o28 f28 => ⟨kp1 e29 (by omega), ?_⟩
      have z29 := e29.size
      rw [opnF_of h2] at o28
      refine Own.app (R := RI) (o26.ext e29) o28.view (by omega) (by omega) fun s30 w31 c31 _ o30 => ⟨kc1 c31 (by omega) fun hj => by have := f26 _ hj; omega, ?_⟩
      have z31 := c31.size
      have e1531 : Ext w19 w31 := ext_chg (e27.trans e29) c31 f26
      have e831 := e819.trans e1531
      refine sameI_ok ((o14.ext e19).ext e1531).view o30.view (by simp only [List.length_append]; omega) fun w33 e33 => ⟨kp1 e33 (by omega), ?_⟩
      have z33 := e33.size
      rw [Bool.not_true, cond_false]
      have e833 := e831.trans e33
      refine Deep_ok (k := (i : Int)) (hH.ext e833) fun w35 e35 => ⟨kp1 e35 (by omega), ?_⟩
      have z35 := e35.size
      refine Deep_ok (k := (a : Int)) (hH.ext (e833.trans e35)) fun w37 e37 => ⟨kp1 e37 (by omega), ?_⟩
      have z37 := e37.size
      refine Deep_ok (k := (b : Int)) (hH.ext ((e833.trans e35).trans e37)) fun w39 e39 => ⟨kp1 e39 (by omega), ?_⟩
      rw [deepF_of hO', deepF_of h1, deepF_of h2, maxI, w64 (by omega) (by omega), show (1 : Int) + ((max d1 d2 : Nat) : Int) = ((1 + max d1 d2 : Nat) : Int) by omega, bne_self_eq_false, cond_false]
      exact hJ2 _ _ (((e833.trans e35).trans e37).trans e39)
  · rw [if_neg hc]; exact hJ _ _ e12

end
end Go.Sh

/- The shallow definitions are what the code asks; printed by gen.py of these sessions. -/
set_option maxRecDepth 100000
set_option linter.unusedVariables false
namespace Go.Sh
open Go.Proofs
theorem mixed_Try : Try.prog.follows .mixedOrders = true := by kernel_rfl
noncomputable def cx_0 : Cx := Cx.none Try.prog
theorem cx_0.ok : CxOk cx_0 := CxOk.none _
def sh_postroadref10_At.plan : Plan := (.seq .o (.seq (.seq .o (.block (.loop [.slot 5 (.int .i64)] [] (.seq (.seq .o (.cond .o .o)) (.seq (.block (.seq .o (.cond (.seq .o .o) .o))) .o))))) (.seq .o .o)))
theorem sh_postroadref10_At.is (CV : CVT) (h0_Rank : SV) (h0_Ways : SV) (rank0 : Int) (w : World) (R : Value → World → Prop) : sh_postroadref10_At h0_Rank h0_Ways rank0 (fun r0 w' => R (.int .i64 r0) w') w = denF (cx_0.with CV) Try.f56 sh_postroadref10_At.plan [.v (.agg #[(.slice h0_Rank.a h0_Rank.len h0_Rank.cap), (.slice h0_Ways.a h0_Ways.len h0_Ways.cap)]), .v (.int .i64 rank0)] w R := by kernel_rfl
theorem sh_postroadref10_At.calls (CV : CVT) (h0_Rank : SV) (h0_Ways : SV) (rank0 : Int) (hcv : CVOk Try.prog CV) {w : World} {R : Ending → World → Prop} (h : sh_postroadref10_At h0_Rank h0_Ways rank0 (fun r0 w' => R (.returned (.int .i64 r0)) w') w) : Calls Try.prog 56 #[(.agg #[(.slice h0_Rank.a h0_Rank.len h0_Rank.cap), (.slice h0_Ways.a h0_Ways.len h0_Ways.cap)]), (.int .i64 rank0)] w R :=
  calls_is (cx := cx_0.with CV) mixed_Try (cx_0.ok.with CV) hcv Try.func56 sh_postroadref10_At.plan (xs := [.v (.agg #[(.slice h0_Rank.a h0_Rank.len h0_Rank.cap), (.slice h0_Ways.a h0_Ways.len h0_Ways.cap)]), .v (.int .i64 rank0)]) ((args_cons _ (args_cons _ args_nil))) (by kernel_rfl) (sh_postroadref10_At.is CV h0_Rank h0_Ways rank0 w (fun v w' => R (.returned v) w')) h
def sh_postroadref10_At.o : CVT → List X → (Value → World → Prop) → World → Prop
  | CV, [.v (.agg ⟨[.slice h0_Rank_a h0_Rank_l h0_Rank_c, .slice h0_Ways_a h0_Ways_l h0_Ways_c]⟩), .v (.int .i64 rank0)], K, w => sh_postroadref10_At ⟨h0_Rank_a, h0_Rank_l, h0_Rank_c⟩ ⟨h0_Ways_a, h0_Ways_l, h0_Ways_c⟩ rank0 (fun r0 w' => K (.int .i64 r0) w') w
  | _, _, _, _ => False
def sh_postroadref10_At.q : CVT → List X → World → (Value → Prop) → Prop
  | CV, [.v (.agg ⟨[.slice h0_Rank_a h0_Rank_l h0_Rank_c, .slice h0_Ways_a h0_Ways_l h0_Ways_c]⟩), .v (.int .i64 rank0)], w, K => Quiet (Int) (fun r => (.int .i64 r)) (fun K1 w' => sh_postroadref10_At ⟨h0_Rank_a, h0_Rank_l, h0_Rank_c⟩ ⟨h0_Ways_a, h0_Ways_l, h0_Ways_c⟩ rank0 (fun r0 w'' => K1 r0 w'') w') w (fun r => K (.int .i64 r))
  | _, _, _, _ => False
noncomputable def cx_postroadref10_At : Cx := Cx.add Try.prog cx_0 56 sh_postroadref10_At.o sh_postroadref10_At.q
theorem cx_postroadref10_At.ok : CxOk cx_postroadref10_At := by
  refine CxOk.add cx_0.ok rfl (fun CV hcv xs K w hx h => ?_) (fun CV hcv xs K w hx h => ?_)
  · unfold sh_postroadref10_At.o at h; split at h
    · rename_i h0_Rank_a h0_Rank_l h0_Rank_c h0_Ways_a h0_Ways_l h0_Ways_c rank0; exact sh_postroadref10_At.calls CV ⟨h0_Rank_a, h0_Rank_l, h0_Rank_c⟩ ⟨h0_Ways_a, h0_Ways_l, h0_Ways_c⟩ rank0 hcv h
    · exact h.elim
  · unfold sh_postroadref10_At.q at h; split at h
    · rename_i h0_Rank_a h0_Rank_l h0_Rank_c h0_Ways_a h0_Ways_l h0_Ways_c rank0; obtain ⟨r, h1, h2⟩ := h; exact ⟨_, h2, fun w' e => sh_postroadref10_At.calls CV ⟨h0_Rank_a, h0_Rank_l, h0_Rank_c⟩ ⟨h0_Ways_a, h0_Ways_l, h0_Ways_c⟩ rank0 hcv (h1 w' e)⟩
    · exact h.elim
def sh_postroadref10_place.plan : Plan := (.seq .o (.seq .o .o))
theorem sh_postroadref10_place.is (CV : CVT) (h0_Rank : SV) (h0_Ways : SV) (v0 : Int) (w : World) (R : Value → World → Prop) : sh_postroadref10_place h0_Rank h0_Ways v0 (fun r0 w' => R (.bool r0) w') w = denF (cx_postroadref10_At.with CV) Try.f86 sh_postroadref10_place.plan [.v (.agg #[(.slice h0_Rank.a h0_Rank.len h0_Rank.cap), (.slice h0_Ways.a h0_Ways.len h0_Ways.cap)]), .v (.int .i64 v0)] w R := by kernel_rfl
theorem sh_postroadref10_place.calls (CV : CVT) (h0_Rank : SV) (h0_Ways : SV) (v0 : Int) (hcv : CVOk Try.prog CV) {w : World} {R : Ending → World → Prop} (h : sh_postroadref10_place h0_Rank h0_Ways v0 (fun r0 w' => R (.returned (.bool r0)) w') w) : Calls Try.prog 86 #[(.agg #[(.slice h0_Rank.a h0_Rank.len h0_Rank.cap), (.slice h0_Ways.a h0_Ways.len h0_Ways.cap)]), (.int .i64 v0)] w R :=
  calls_is (cx := cx_postroadref10_At.with CV) mixed_Try (cx_postroadref10_At.ok.with CV) hcv Try.func86 sh_postroadref10_place.plan (xs := [.v (.agg #[(.slice h0_Rank.a h0_Rank.len h0_Rank.cap), (.slice h0_Ways.a h0_Ways.len h0_Ways.cap)]), .v (.int .i64 v0)]) ((args_cons _ (args_cons _ args_nil))) (by kernel_rfl) (sh_postroadref10_place.is CV h0_Rank h0_Ways v0 w (fun v w' => R (.returned v) w')) h
def sh_postroadref10_place.o : CVT → List X → (Value → World → Prop) → World → Prop
  | CV, [.v (.agg ⟨[.slice h0_Rank_a h0_Rank_l h0_Rank_c, .slice h0_Ways_a h0_Ways_l h0_Ways_c]⟩), .v (.int .i64 v0)], K, w => sh_postroadref10_place ⟨h0_Rank_a, h0_Rank_l, h0_Rank_c⟩ ⟨h0_Ways_a, h0_Ways_l, h0_Ways_c⟩ v0 (fun r0 w' => K (.bool r0) w') w
  | _, _, _, _ => False
def sh_postroadref10_place.q : CVT → List X → World → (Value → Prop) → Prop
  | CV, [.v (.agg ⟨[.slice h0_Rank_a h0_Rank_l h0_Rank_c, .slice h0_Ways_a h0_Ways_l h0_Ways_c]⟩), .v (.int .i64 v0)], w, K => Quiet (Bool) (fun r => (.bool r)) (fun K1 w' => sh_postroadref10_place ⟨h0_Rank_a, h0_Rank_l, h0_Rank_c⟩ ⟨h0_Ways_a, h0_Ways_l, h0_Ways_c⟩ v0 (fun r0 w'' => K1 r0 w'') w') w (fun r => K (.bool r))
  | _, _, _, _ => False
noncomputable def cx_postroadref10_place : Cx := Cx.add Try.prog cx_postroadref10_At 86 sh_postroadref10_place.o sh_postroadref10_place.q
theorem cx_postroadref10_place.ok : CxOk cx_postroadref10_place := by
  refine CxOk.add cx_postroadref10_At.ok rfl (fun CV hcv xs K w hx h => ?_) (fun CV hcv xs K w hx h => ?_)
  · unfold sh_postroadref10_place.o at h; split at h
    · rename_i h0_Rank_a h0_Rank_l h0_Rank_c h0_Ways_a h0_Ways_l h0_Ways_c v0; exact sh_postroadref10_place.calls CV ⟨h0_Rank_a, h0_Rank_l, h0_Rank_c⟩ ⟨h0_Ways_a, h0_Ways_l, h0_Ways_c⟩ v0 hcv h
    · exact h.elim
  · unfold sh_postroadref10_place.q at h; split at h
    · rename_i h0_Rank_a h0_Rank_l h0_Rank_c h0_Ways_a h0_Ways_l h0_Ways_c v0; obtain ⟨r, h1, h2⟩ := h; exact ⟨_, h2, fun w' e => sh_postroadref10_place.calls CV ⟨h0_Rank_a, h0_Rank_l, h0_Rank_c⟩ ⟨h0_Ways_a, h0_Ways_l, h0_Ways_c⟩ v0 hcv (h1 w' e)⟩
    · exact h.elim
def sh_postroadref10_Find.plan : Plan := (.seq .o (.seq (.seq .o (.block (.loop [.slot 7 (.int .i64)] [] (.seq (.seq .o (.cond .o .o)) (.join [] [] (.block (.seq .o (.cond (.seq .o .o) .o))) .o))))) (.seq .o .o)))
theorem sh_postroadref10_Find.is (CV : CVT) (h0_Rank : SV) (h0_Ways : SV) (u0 : Int) (v0 : Int) (w : World) (R : Value → World → Prop) : sh_postroadref10_Find h0_Rank h0_Ways u0 v0 (fun r0 w' => R (.int .i64 r0) w') w = denF (cx_postroadref10_place.with CV) Try.f63 sh_postroadref10_Find.plan [.v (.agg #[(.slice h0_Rank.a h0_Rank.len h0_Rank.cap), (.slice h0_Ways.a h0_Ways.len h0_Ways.cap)]), .v (.int .i64 u0), .v (.int .i64 v0)] w R := by kernel_rfl
theorem sh_postroadref10_Find.calls (CV : CVT) (h0_Rank : SV) (h0_Ways : SV) (u0 : Int) (v0 : Int) (hcv : CVOk Try.prog CV) {w : World} {R : Ending → World → Prop} (h : sh_postroadref10_Find h0_Rank h0_Ways u0 v0 (fun r0 w' => R (.returned (.int .i64 r0)) w') w) : Calls Try.prog 63 #[(.agg #[(.slice h0_Rank.a h0_Rank.len h0_Rank.cap), (.slice h0_Ways.a h0_Ways.len h0_Ways.cap)]), (.int .i64 u0), (.int .i64 v0)] w R :=
  calls_is (cx := cx_postroadref10_place.with CV) mixed_Try (cx_postroadref10_place.ok.with CV) hcv Try.func63 sh_postroadref10_Find.plan (xs := [.v (.agg #[(.slice h0_Rank.a h0_Rank.len h0_Rank.cap), (.slice h0_Ways.a h0_Ways.len h0_Ways.cap)]), .v (.int .i64 u0), .v (.int .i64 v0)]) ((args_cons _ (args_cons _ (args_cons _ args_nil)))) (by kernel_rfl) (sh_postroadref10_Find.is CV h0_Rank h0_Ways u0 v0 w (fun v w' => R (.returned v) w')) h
def sh_postroadref10_Find.o : CVT → List X → (Value → World → Prop) → World → Prop
  | CV, [.v (.agg ⟨[.slice h0_Rank_a h0_Rank_l h0_Rank_c, .slice h0_Ways_a h0_Ways_l h0_Ways_c]⟩), .v (.int .i64 u0), .v (.int .i64 v0)], K, w => sh_postroadref10_Find ⟨h0_Rank_a, h0_Rank_l, h0_Rank_c⟩ ⟨h0_Ways_a, h0_Ways_l, h0_Ways_c⟩ u0 v0 (fun r0 w' => K (.int .i64 r0) w') w
  | _, _, _, _ => False
def sh_postroadref10_Find.q : CVT → List X → World → (Value → Prop) → Prop
  | CV, [.v (.agg ⟨[.slice h0_Rank_a h0_Rank_l h0_Rank_c, .slice h0_Ways_a h0_Ways_l h0_Ways_c]⟩), .v (.int .i64 u0), .v (.int .i64 v0)], w, K => Quiet (Int) (fun r => (.int .i64 r)) (fun K1 w' => sh_postroadref10_Find ⟨h0_Rank_a, h0_Rank_l, h0_Rank_c⟩ ⟨h0_Ways_a, h0_Ways_l, h0_Ways_c⟩ u0 v0 (fun r0 w'' => K1 r0 w'') w') w (fun r => K (.int .i64 r))
  | _, _, _, _ => False
noncomputable def cx_postroadref10_Find : Cx := Cx.add Try.prog cx_postroadref10_place 63 sh_postroadref10_Find.o sh_postroadref10_Find.q
theorem cx_postroadref10_Find.ok : CxOk cx_postroadref10_Find := by
  refine CxOk.add cx_postroadref10_place.ok rfl (fun CV hcv xs K w hx h => ?_) (fun CV hcv xs K w hx h => ?_)
  · unfold sh_postroadref10_Find.o at h; split at h
    · rename_i h0_Rank_a h0_Rank_l h0_Rank_c h0_Ways_a h0_Ways_l h0_Ways_c u0 v0; exact sh_postroadref10_Find.calls CV ⟨h0_Rank_a, h0_Rank_l, h0_Rank_c⟩ ⟨h0_Ways_a, h0_Ways_l, h0_Ways_c⟩ u0 v0 hcv h
    · exact h.elim
  · unfold sh_postroadref10_Find.q at h; split at h
    · rename_i h0_Rank_a h0_Rank_l h0_Rank_c h0_Ways_a h0_Ways_l h0_Ways_c u0 v0; obtain ⟨r, h1, h2⟩ := h; exact ⟨_, h2, fun w' e => sh_postroadref10_Find.calls CV ⟨h0_Rank_a, h0_Rank_l, h0_Rank_c⟩ ⟨h0_Ways_a, h0_Ways_l, h0_Ways_c⟩ u0 v0 hcv (h1 w' e)⟩
    · exact h.elim
def sh_postroadref10_right.plan : Plan := (.seq .o (.seq .o (.seq (.seq .o (.cond (.seq .o .o) .o)) (.seq (.seq .o (.cond (.seq .o .o) .o)) (.seq (.seq (.draw [] [.pure, .pure, .loc, .pure, .pure, .loc, .pure, .pure, .loc, .quiet, .pure, .pure, .pure, .pure, .loc, .pure, .pure, .loc, .pure, .quiet, .pure, .loc, .pure, .loc, .pure, .quiet, .pure, .pure, .pure, .pure, .loc, .pure, .pure, .loc, .pure, .quiet, .pure, .loc, .pure, .loc, .pure, .quiet, .pure, .pure] [0, 1, 2, 3, 4, 5, 6, 7, 8, 9, 10, 11, 12, 13, 14, 15, 16, 17, 18, 19, 20, 21, 22, 23, 24, 25, 26, 27, 28, 29, 30, 31, 32, 33, 34, 35, 36, 37, 38, 39, 40, 41, 42, 43]) (.cond (.seq .o .o) .o)) (.seq .o (.seq .o (.seq (.draw [] [.pure, .pure, .pure, .pure, .pure, .pure, .pure, .pure, .loc, .pure, .pure, .pure, .pure, .quiet, .pure, .loc, .pure, .pure, .pure, .pure, .quiet, .pure, .pure, .pure, .loc, .pure, .pure, .pure] [0, 1, 2, 3, 4, 5, 6, 7, 8, 9, 10, 11, 12, 13, 14, 15, 16, 17, 18, 19, 20, 21, 22, 23, 24, 25, 26, 27]) .o))))))))
theorem sh_postroadref10_right.is (CV : CVT) (h0_Rank : SV) (h0_Ways : SV) (i0 : Int) (w : World) (R : Value → World → Prop) : sh_postroadref10_right h0_Rank h0_Ways i0 (fun r0 w' => R (.bool r0) w') w = denF (cx_postroadref10_Find.with CV) Try.f57 sh_postroadref10_right.plan [.v (.agg #[(.slice h0_Rank.a h0_Rank.len h0_Rank.cap), (.slice h0_Ways.a h0_Ways.len h0_Ways.cap)]), .v (.int .i64 i0)] w R := by kernel_rfl
theorem sh_postroadref10_right.calls (CV : CVT) (h0_Rank : SV) (h0_Ways : SV) (i0 : Int) (hcv : CVOk Try.prog CV) {w : World} {R : Ending → World → Prop} (h : sh_postroadref10_right h0_Rank h0_Ways i0 (fun r0 w' => R (.returned (.bool r0)) w') w) : Calls Try.prog 57 #[(.agg #[(.slice h0_Rank.a h0_Rank.len h0_Rank.cap), (.slice h0_Ways.a h0_Ways.len h0_Ways.cap)]), (.int .i64 i0)] w R :=
  calls_is (cx := cx_postroadref10_Find.with CV) mixed_Try (cx_postroadref10_Find.ok.with CV) hcv Try.func57 sh_postroadref10_right.plan (xs := [.v (.agg #[(.slice h0_Rank.a h0_Rank.len h0_Rank.cap), (.slice h0_Ways.a h0_Ways.len h0_Ways.cap)]), .v (.int .i64 i0)]) ((args_cons _ (args_cons _ args_nil))) (by kernel_rfl) (sh_postroadref10_right.is CV h0_Rank h0_Ways i0 w (fun v w' => R (.returned v) w')) h
def sh_postroadref10_right.o : CVT → List X → (Value → World → Prop) → World → Prop
  | CV, [.v (.agg ⟨[.slice h0_Rank_a h0_Rank_l h0_Rank_c, .slice h0_Ways_a h0_Ways_l h0_Ways_c]⟩), .v (.int .i64 i0)], K, w => sh_postroadref10_right ⟨h0_Rank_a, h0_Rank_l, h0_Rank_c⟩ ⟨h0_Ways_a, h0_Ways_l, h0_Ways_c⟩ i0 (fun r0 w' => K (.bool r0) w') w
  | _, _, _, _ => False
def sh_postroadref10_right.q : CVT → List X → World → (Value → Prop) → Prop
  | CV, [.v (.agg ⟨[.slice h0_Rank_a h0_Rank_l h0_Rank_c, .slice h0_Ways_a h0_Ways_l h0_Ways_c]⟩), .v (.int .i64 i0)], w, K => Quiet (Bool) (fun r => (.bool r)) (fun K1 w' => sh_postroadref10_right ⟨h0_Rank_a, h0_Rank_l, h0_Rank_c⟩ ⟨h0_Ways_a, h0_Ways_l, h0_Ways_c⟩ i0 (fun r0 w'' => K1 r0 w'') w') w (fun r => K (.bool r))
  | _, _, _, _ => False
noncomputable def cx_postroadref10_right : Cx := Cx.add Try.prog cx_postroadref10_Find 57 sh_postroadref10_right.o sh_postroadref10_right.q
theorem cx_postroadref10_right.ok : CxOk cx_postroadref10_right := by
  refine CxOk.add cx_postroadref10_Find.ok rfl (fun CV hcv xs K w hx h => ?_) (fun CV hcv xs K w hx h => ?_)
  · unfold sh_postroadref10_right.o at h; split at h
    · rename_i h0_Rank_a h0_Rank_l h0_Rank_c h0_Ways_a h0_Ways_l h0_Ways_c i0; exact sh_postroadref10_right.calls CV ⟨h0_Rank_a, h0_Rank_l, h0_Rank_c⟩ ⟨h0_Ways_a, h0_Ways_l, h0_Ways_c⟩ i0 hcv h
    · exact h.elim
  · unfold sh_postroadref10_right.q at h; split at h
    · rename_i h0_Rank_a h0_Rank_l h0_Rank_c h0_Ways_a h0_Ways_l h0_Ways_c i0; obtain ⟨r, h1, h2⟩ := h; exact ⟨_, h2, fun w' e => sh_postroadref10_right.calls CV ⟨h0_Rank_a, h0_Rank_l, h0_Rank_c⟩ ⟨h0_Ways_a, h0_Ways_l, h0_Ways_c⟩ i0 hcv (h1 w' e)⟩
    · exact h.elim
def sh_postroadref10_Check.plan : Plan := (.seq .o (.seq (.seq .o (.cond (.seq .o .o) .o)) (.join [] [] (.seq .o (.block (.loop [.slot 3 (.int .i64)] [] (.seq (.seq .o (.cond .o .o)) (.seq (.block (.seq .o (.cond (.seq .o .o) .o))) .o))))) (.seq (.seq .o (.block (.loop [.slot 4 (.int .i64)] [] (.seq (.seq .o (.cond .o .o)) (.seq (.block (.seq .o (.cond (.seq .o .o) .o))) .o))))) (.seq .o .o)))))
theorem sh_postroadref10_Check.is (CV : CVT) (h0_Rank : SV) (h0_Ways : SV) (w : World) (R : Value → World → Prop) : sh_postroadref10_Check h0_Rank h0_Ways (fun r0 w' => R (.int .i64 r0) w') w = denF (cx_postroadref10_right.with CV) Try.f33 sh_postroadref10_Check.plan [.v (.agg #[(.slice h0_Rank.a h0_Rank.len h0_Rank.cap), (.slice h0_Ways.a h0_Ways.len h0_Ways.cap)])] w R := by kernel_rfl
theorem sh_postroadref10_Check.calls (CV : CVT) (h0_Rank : SV) (h0_Ways : SV) (hcv : CVOk Try.prog CV) {w : World} {R : Ending → World → Prop} (h : sh_postroadref10_Check h0_Rank h0_Ways (fun r0 w' => R (.returned (.int .i64 r0)) w') w) : Calls Try.prog 33 #[(.agg #[(.slice h0_Rank.a h0_Rank.len h0_Rank.cap), (.slice h0_Ways.a h0_Ways.len h0_Ways.cap)])] w R :=
  calls_is (cx := cx_postroadref10_right.with CV) mixed_Try (cx_postroadref10_right.ok.with CV) hcv Try.func33 sh_postroadref10_Check.plan (xs := [.v (.agg #[(.slice h0_Rank.a h0_Rank.len h0_Rank.cap), (.slice h0_Ways.a h0_Ways.len h0_Ways.cap)])]) ((args_cons _ args_nil)) (by kernel_rfl) (sh_postroadref10_Check.is CV h0_Rank h0_Ways w (fun v w' => R (.returned v) w')) h
def sh_postroadref10_Check.o : CVT → List X → (Value → World → Prop) → World → Prop
  | CV, [.v (.agg ⟨[.slice h0_Rank_a h0_Rank_l h0_Rank_c, .slice h0_Ways_a h0_Ways_l h0_Ways_c]⟩)], K, w => sh_postroadref10_Check ⟨h0_Rank_a, h0_Rank_l, h0_Rank_c⟩ ⟨h0_Ways_a, h0_Ways_l, h0_Ways_c⟩ (fun r0 w' => K (.int .i64 r0) w') w
  | _, _, _, _ => False
def sh_postroadref10_Check.q : CVT → List X → World → (Value → Prop) → Prop
  | CV, [.v (.agg ⟨[.slice h0_Rank_a h0_Rank_l h0_Rank_c, .slice h0_Ways_a h0_Ways_l h0_Ways_c]⟩)], w, K => Quiet (Int) (fun r => (.int .i64 r)) (fun K1 w' => sh_postroadref10_Check ⟨h0_Rank_a, h0_Rank_l, h0_Rank_c⟩ ⟨h0_Ways_a, h0_Ways_l, h0_Ways_c⟩ (fun r0 w'' => K1 r0 w'') w') w (fun r => K (.int .i64 r))
  | _, _, _, _ => False
noncomputable def cx_postroadref10_Check : Cx := Cx.add Try.prog cx_postroadref10_right 33 sh_postroadref10_Check.o sh_postroadref10_Check.q
theorem cx_postroadref10_Check.ok : CxOk cx_postroadref10_Check := by
  refine CxOk.add cx_postroadref10_right.ok rfl (fun CV hcv xs K w hx h => ?_) (fun CV hcv xs K w hx h => ?_)
  · unfold sh_postroadref10_Check.o at h; split at h
    · rename_i h0_Rank_a h0_Rank_l h0_Rank_c h0_Ways_a h0_Ways_l h0_Ways_c; exact sh_postroadref10_Check.calls CV ⟨h0_Rank_a, h0_Rank_l, h0_Rank_c⟩ ⟨h0_Ways_a, h0_Ways_l, h0_Ways_c⟩ hcv h
    · exact h.elim
  · unfold sh_postroadref10_Check.q at h; split at h
    · rename_i h0_Rank_a h0_Rank_l h0_Rank_c h0_Ways_a h0_Ways_l h0_Ways_c; obtain ⟨r, h1, h2⟩ := h; exact ⟨_, h2, fun w' e => sh_postroadref10_Check.calls CV ⟨h0_Rank_a, h0_Rank_l, h0_Rank_c⟩ ⟨h0_Ways_a, h0_Ways_l, h0_Ways_c⟩ hcv (h1 w' e)⟩
    · exact h.elim
def sh_postroadref11_Fit.plan : Plan := (.seq .o (.seq (.seq .o (.cond (.seq .o .o) .o)) (.seq (.seq .o (.block (.loop [.slot 3 (.int .i64)] [] (.seq (.seq .o (.cond .o .o)) (.seq (.block (.seq .o (.cond (.seq .o .o) .o))) .o))))) (.seq .o .o))))
theorem sh_postroadref11_Fit.is (CV : CVT) (h0_Rank : SV) (h0_Ways : SV) (w : World) (R : Value → World → Prop) : sh_postroadref11_Fit h0_Rank h0_Ways (fun r0 w' => R (.bool r0) w') w = denF (cx_postroadref10_Check.with CV) Try.f10 sh_postroadref11_Fit.plan [.v (.agg #[(.slice h0_Rank.a h0_Rank.len h0_Rank.cap), (.slice h0_Ways.a h0_Ways.len h0_Ways.cap)])] w R := by kernel_rfl
theorem sh_postroadref11_Fit.calls (CV : CVT) (h0_Rank : SV) (h0_Ways : SV) (hcv : CVOk Try.prog CV) {w : World} {R : Ending → World → Prop} (h : sh_postroadref11_Fit h0_Rank h0_Ways (fun r0 w' => R (.returned (.bool r0)) w') w) : Calls Try.prog 10 #[(.agg #[(.slice h0_Rank.a h0_Rank.len h0_Rank.cap), (.slice h0_Ways.a h0_Ways.len h0_Ways.cap)])] w R :=
  calls_is (cx := cx_postroadref10_Check.with CV) mixed_Try (cx_postroadref10_Check.ok.with CV) hcv Try.func10 sh_postroadref11_Fit.plan (xs := [.v (.agg #[(.slice h0_Rank.a h0_Rank.len h0_Rank.cap), (.slice h0_Ways.a h0_Ways.len h0_Ways.cap)])]) ((args_cons _ args_nil)) (by kernel_rfl) (sh_postroadref11_Fit.is CV h0_Rank h0_Ways w (fun v w' => R (.returned v) w')) h
def sh_postroadref11_Fit.o : CVT → List X → (Value → World → Prop) → World → Prop
  | CV, [.v (.agg ⟨[.slice h0_Rank_a h0_Rank_l h0_Rank_c, .slice h0_Ways_a h0_Ways_l h0_Ways_c]⟩)], K, w => sh_postroadref11_Fit ⟨h0_Rank_a, h0_Rank_l, h0_Rank_c⟩ ⟨h0_Ways_a, h0_Ways_l, h0_Ways_c⟩ (fun r0 w' => K (.bool r0) w') w
  | _, _, _, _ => False
def sh_postroadref11_Fit.q : CVT → List X → World → (Value → Prop) → Prop
  | CV, [.v (.agg ⟨[.slice h0_Rank_a h0_Rank_l h0_Rank_c, .slice h0_Ways_a h0_Ways_l h0_Ways_c]⟩)], w, K => Quiet (Bool) (fun r => (.bool r)) (fun K1 w' => sh_postroadref11_Fit ⟨h0_Rank_a, h0_Rank_l, h0_Rank_c⟩ ⟨h0_Ways_a, h0_Ways_l, h0_Ways_c⟩ (fun r0 w'' => K1 r0 w'') w') w (fun r => K (.bool r))
  | _, _, _, _ => False
noncomputable def cx_postroadref11_Fit : Cx := Cx.add Try.prog cx_postroadref10_Check 10 sh_postroadref11_Fit.o sh_postroadref11_Fit.q
theorem cx_postroadref11_Fit.ok : CxOk cx_postroadref11_Fit := by
  refine CxOk.add cx_postroadref10_Check.ok rfl (fun CV hcv xs K w hx h => ?_) (fun CV hcv xs K w hx h => ?_)
  · unfold sh_postroadref11_Fit.o at h; split at h
    · rename_i h0_Rank_a h0_Rank_l h0_Rank_c h0_Ways_a h0_Ways_l h0_Ways_c; exact sh_postroadref11_Fit.calls CV ⟨h0_Rank_a, h0_Rank_l, h0_Rank_c⟩ ⟨h0_Ways_a, h0_Ways_l, h0_Ways_c⟩ hcv h
    · exact h.elim
  · unfold sh_postroadref11_Fit.q at h; split at h
    · rename_i h0_Rank_a h0_Rank_l h0_Rank_c h0_Ways_a h0_Ways_l h0_Ways_c; obtain ⟨r, h1, h2⟩ := h; exact ⟨_, h2, fun w' e => sh_postroadref11_Fit.calls CV ⟨h0_Rank_a, h0_Rank_l, h0_Rank_c⟩ ⟨h0_Ways_a, h0_Ways_l, h0_Ways_c⟩ hcv (h1 w' e)⟩
    · exact h.elim
def sh_hier_placed.plan : Plan := (.seq .o (.seq .o (.join [] [] (.seq .o (.block (.loop [.slot 13 (.int .i64)] [] (.seq .o (.seq (.cond .o .o) (.seq (.block (.seq .o .o)) .o)))))) (.join [] [] (.seq .o (.block (.loop [.slot 22 (.int .i64)] [] (.seq .o (.seq (.cond .o .o) (.seq (.block (.seq .o (.seq (.seq .o (.cond (.seq .o .o) .o)) .o))) .o)))))) (.seq .o .o)))))
theorem sh_hier_placed.is (CV : CVT) (rank0 : SV) (w : World) (R : Value → World → Prop) : sh_hier_placed rank0 (fun r0 r1 w' => R (.tuple #[(.slice r0.a r0.len r0.cap), (.bool r1)]) w') w = denF (cx_postroadref11_Fit.with CV) Try.f58 sh_hier_placed.plan [.v (.slice rank0.a rank0.len rank0.cap)] w R := by kernel_rfl
theorem sh_hier_placed.calls (CV : CVT) (rank0 : SV) (hcv : CVOk Try.prog CV) {w : World} {R : Ending → World → Prop} (h : sh_hier_placed rank0 (fun r0 r1 w' => R (.returned (.tuple #[(.slice r0.a r0.len r0.cap), (.bool r1)])) w') w) : Calls Try.prog 58 #[(.slice rank0.a rank0.len rank0.cap)] w R :=
  calls_is (cx := cx_postroadref11_Fit.with CV) mixed_Try (cx_postroadref11_Fit.ok.with CV) hcv Try.func58 sh_hier_placed.plan (xs := [.v (.slice rank0.a rank0.len rank0.cap)]) ((args_cons _ args_nil)) (by kernel_rfl) (sh_hier_placed.is CV rank0 w (fun v w' => R (.returned v) w')) h
def sh_hier_placed.o : CVT → List X → (Value → World → Prop) → World → Prop
  | CV, [.v (.slice rank0_a rank0_l rank0_c)], K, w => sh_hier_placed ⟨rank0_a, rank0_l, rank0_c⟩ (fun r0 r1 w' => K (.tuple #[(.slice r0.a r0.len r0.cap), (.bool r1)]) w') w
  | _, _, _, _ => False
def sh_hier_placed.q : CVT → List X → World → (Value → Prop) → Prop
  | CV, [.v (.slice rank0_a rank0_l rank0_c)], w, K => Quiet (SV × Bool) (fun r => (.tuple #[(.slice r.1.a r.1.len r.1.cap), (.bool r.2)])) (fun K1 w' => sh_hier_placed ⟨rank0_a, rank0_l, rank0_c⟩ (fun r0 r1 w'' => K1 (r0, r1) w'') w') w (fun r => K (.tuple #[(.slice r.1.a r.1.len r.1.cap), (.bool r.2)]))
  | _, _, _, _ => False
noncomputable def cx_hier_placed : Cx := Cx.add Try.prog cx_postroadref11_Fit 58 sh_hier_placed.o sh_hier_placed.q
theorem cx_hier_placed.ok : CxOk cx_hier_placed := by
  refine CxOk.add cx_postroadref11_Fit.ok rfl (fun CV hcv xs K w hx h => ?_) (fun CV hcv xs K w hx h => ?_)
  · unfold sh_hier_placed.o at h; split at h
    · rename_i rank0_a rank0_l rank0_c; exact sh_hier_placed.calls CV ⟨rank0_a, rank0_l, rank0_c⟩ hcv h
    · exact h.elim
  · unfold sh_hier_placed.q at h; split at h
    · rename_i rank0_a rank0_l rank0_c; obtain ⟨r, h1, h2⟩ := h; exact ⟨_, h2, fun w' e => sh_hier_placed.calls CV ⟨rank0_a, rank0_l, rank0_c⟩ hcv (h1 w' e)⟩
    · exact h.elim
def sh_hier_found.plan : Plan := (.seq .o (.seq .o (.seq .o (.join [] [] (.seq .o (.block (.loop [.slot 17 (.int .i64)] [] (.seq .o (.seq (.cond .o .o) (.seq (.block (.seq .o (.join [] [] (.seq .o (.block (.seq (.seq .o (.cond .o (.seq .o (.cond .o (.seq .o (.cond .o (.seq .o (.cond .o .o)))))))) (.cond (.seq .o .o) .o)))) .o))) .o)))))) (.seq .o .o)))))
theorem sh_hier_found.is (CV : CVT) (h0_Rank : SV) (h0_Ways : SV) (w : World) (R : Value → World → Prop) : sh_hier_found h0_Rank h0_Ways (fun r0 r1 w' => R (.tuple #[(.map r0), (.bool r1)]) w') w = denF (cx_hier_placed.with CV) Try.f59 sh_hier_found.plan [.v (.agg #[(.slice h0_Rank.a h0_Rank.len h0_Rank.cap), (.slice h0_Ways.a h0_Ways.len h0_Ways.cap)])] w R := by kernel_rfl
theorem sh_hier_found.calls (CV : CVT) (h0_Rank : SV) (h0_Ways : SV) (hcv : CVOk Try.prog CV) {w : World} {R : Ending → World → Prop} (h : sh_hier_found h0_Rank h0_Ways (fun r0 r1 w' => R (.returned (.tuple #[(.map r0), (.bool r1)])) w') w) : Calls Try.prog 59 #[(.agg #[(.slice h0_Rank.a h0_Rank.len h0_Rank.cap), (.slice h0_Ways.a h0_Ways.len h0_Ways.cap)])] w R :=
  calls_is (cx := cx_hier_placed.with CV) mixed_Try (cx_hier_placed.ok.with CV) hcv Try.func59 sh_hier_found.plan (xs := [.v (.agg #[(.slice h0_Rank.a h0_Rank.len h0_Rank.cap), (.slice h0_Ways.a h0_Ways.len h0_Ways.cap)])]) ((args_cons _ args_nil)) (by kernel_rfl) (sh_hier_found.is CV h0_Rank h0_Ways w (fun v w' => R (.returned v) w')) h
def sh_hier_found.o : CVT → List X → (Value → World → Prop) → World → Prop
  | CV, [.v (.agg ⟨[.slice h0_Rank_a h0_Rank_l h0_Rank_c, .slice h0_Ways_a h0_Ways_l h0_Ways_c]⟩)], K, w => sh_hier_found ⟨h0_Rank_a, h0_Rank_l, h0_Rank_c⟩ ⟨h0_Ways_a, h0_Ways_l, h0_Ways_c⟩ (fun r0 r1 w' => K (.tuple #[(.map r0), (.bool r1)]) w') w
  | _, _, _, _ => False
def sh_hier_found.q : CVT → List X → World → (Value → Prop) → Prop
  | CV, [.v (.agg ⟨[.slice h0_Rank_a h0_Rank_l h0_Rank_c, .slice h0_Ways_a h0_Ways_l h0_Ways_c]⟩)], w, K => Quiet ((Option Nat) × Bool) (fun r => (.tuple #[(.map r.1), (.bool r.2)])) (fun K1 w' => sh_hier_found ⟨h0_Rank_a, h0_Rank_l, h0_Rank_c⟩ ⟨h0_Ways_a, h0_Ways_l, h0_Ways_c⟩ (fun r0 r1 w'' => K1 (r0, r1) w'') w') w (fun r => K (.tuple #[(.map r.1), (.bool r.2)]))
  | _, _, _, _ => False
noncomputable def cx_hier_found : Cx := Cx.add Try.prog cx_hier_placed 59 sh_hier_found.o sh_hier_found.q
theorem cx_hier_found.ok : CxOk cx_hier_found := by
  refine CxOk.add cx_hier_placed.ok rfl (fun CV hcv xs K w hx h => ?_) (fun CV hcv xs K w hx h => ?_)
  · unfold sh_hier_found.o at h; split at h
    · rename_i h0_Rank_a h0_Rank_l h0_Rank_c h0_Ways_a h0_Ways_l h0_Ways_c; exact sh_hier_found.calls CV ⟨h0_Rank_a, h0_Rank_l, h0_Rank_c⟩ ⟨h0_Ways_a, h0_Ways_l, h0_Ways_c⟩ hcv h
    · exact h.elim
  · unfold sh_hier_found.q at h; split at h
    · rename_i h0_Rank_a h0_Rank_l h0_Rank_c h0_Ways_a h0_Ways_l h0_Ways_c; obtain ⟨r, h1, h2⟩ := h; exact ⟨_, h2, fun w' e => sh_hier_found.calls CV ⟨h0_Rank_a, h0_Rank_l, h0_Rank_c⟩ ⟨h0_Ways_a, h0_Ways_l, h0_Ways_c⟩ hcv (h1 w' e)⟩
    · exact h.elim
def sh_hier_halves.plan : Plan := (.seq .o (.seq .o (.seq .o (.seq .o .o))))
theorem sh_hier_halves.is (CV : CVT) (h0_Rank : SV) (h0_Ways : SV) (find0 : Option Nat) (w_0_From : Int) (w_0_To : Int) (w_0_Way_W : Int) (w_0_Way_Mid : Int) (w_0_Way_Arc : Int) (w : World) (R : Value → World → Prop) : sh_hier_halves h0_Rank h0_Ways find0 w_0_From w_0_To w_0_Way_W w_0_Way_Mid w_0_Way_Arc (fun r0 r1 r2 w' => R (.tuple #[(.int .i64 r0), (.int .i64 r1), (.bool r2)]) w') w = denF (cx_hier_found.with CV) Try.f42 sh_hier_halves.plan [.v (.agg #[(.slice h0_Rank.a h0_Rank.len h0_Rank.cap), (.slice h0_Ways.a h0_Ways.len h0_Ways.cap)]), .v (.map find0), .v (.agg #[(.int .i64 w_0_From), (.int .i64 w_0_To), (.int .i64 w_0_Way_W), (.int .i64 w_0_Way_Mid), (.int .i64 w_0_Way_Arc)])] w R := by kernel_rfl
theorem sh_hier_halves.calls (CV : CVT) (h0_Rank : SV) (h0_Ways : SV) (find0 : Option Nat) (w_0_From : Int) (w_0_To : Int) (w_0_Way_W : Int) (w_0_Way_Mid : Int) (w_0_Way_Arc : Int) (hcv : CVOk Try.prog CV) {w : World} {R : Ending → World → Prop} (h : sh_hier_halves h0_Rank h0_Ways find0 w_0_From w_0_To w_0_Way_W w_0_Way_Mid w_0_Way_Arc (fun r0 r1 r2 w' => R (.returned (.tuple #[(.int .i64 r0), (.int .i64 r1), (.bool r2)])) w') w) : Calls Try.prog 42 #[(.agg #[(.slice h0_Rank.a h0_Rank.len h0_Rank.cap), (.slice h0_Ways.a h0_Ways.len h0_Ways.cap)]), (.map find0), (.agg #[(.int .i64 w_0_From), (.int .i64 w_0_To), (.int .i64 w_0_Way_W), (.int .i64 w_0_Way_Mid), (.int .i64 w_0_Way_Arc)])] w R :=
  calls_is (cx := cx_hier_found.with CV) mixed_Try (cx_hier_found.ok.with CV) hcv Try.func42 sh_hier_halves.plan (xs := [.v (.agg #[(.slice h0_Rank.a h0_Rank.len h0_Rank.cap), (.slice h0_Ways.a h0_Ways.len h0_Ways.cap)]), .v (.map find0), .v (.agg #[(.int .i64 w_0_From), (.int .i64 w_0_To), (.int .i64 w_0_Way_W), (.int .i64 w_0_Way_Mid), (.int .i64 w_0_Way_Arc)])]) ((args_cons _ (args_cons _ (args_cons _ args_nil)))) (by kernel_rfl) (sh_hier_halves.is CV h0_Rank h0_Ways find0 w_0_From w_0_To w_0_Way_W w_0_Way_Mid w_0_Way_Arc w (fun v w' => R (.returned v) w')) h
def sh_hier_halves.o : CVT → List X → (Value → World → Prop) → World → Prop
  | CV, [.v (.agg ⟨[.slice h0_Rank_a h0_Rank_l h0_Rank_c, .slice h0_Ways_a h0_Ways_l h0_Ways_c]⟩), .v (.map find0), .v (.agg ⟨[.int .i64 w_0_From, .int .i64 w_0_To, .int .i64 w_0_Way_W, .int .i64 w_0_Way_Mid, .int .i64 w_0_Way_Arc]⟩)], K, w => sh_hier_halves ⟨h0_Rank_a, h0_Rank_l, h0_Rank_c⟩ ⟨h0_Ways_a, h0_Ways_l, h0_Ways_c⟩ find0 w_0_From w_0_To w_0_Way_W w_0_Way_Mid w_0_Way_Arc (fun r0 r1 r2 w' => K (.tuple #[(.int .i64 r0), (.int .i64 r1), (.bool r2)]) w') w
  | _, _, _, _ => False
def sh_hier_halves.q : CVT → List X → World → (Value → Prop) → Prop
  | CV, [.v (.agg ⟨[.slice h0_Rank_a h0_Rank_l h0_Rank_c, .slice h0_Ways_a h0_Ways_l h0_Ways_c]⟩), .v (.map find0), .v (.agg ⟨[.int .i64 w_0_From, .int .i64 w_0_To, .int .i64 w_0_Way_W, .int .i64 w_0_Way_Mid, .int .i64 w_0_Way_Arc]⟩)], w, K => Quiet (Int × Int × Bool) (fun r => (.tuple #[(.int .i64 r.1), (.int .i64 r.2.1), (.bool r.2.2)])) (fun K1 w' => sh_hier_halves ⟨h0_Rank_a, h0_Rank_l, h0_Rank_c⟩ ⟨h0_Ways_a, h0_Ways_l, h0_Ways_c⟩ find0 w_0_From w_0_To w_0_Way_W w_0_Way_Mid w_0_Way_Arc (fun r0 r1 r2 w'' => K1 (r0, r1, r2) w'') w') w (fun r => K (.tuple #[(.int .i64 r.1), (.int .i64 r.2.1), (.bool r.2.2)]))
  | _, _, _, _ => False
noncomputable def cx_hier_halves : Cx := Cx.add Try.prog cx_hier_found 42 sh_hier_halves.o sh_hier_halves.q
theorem cx_hier_halves.ok : CxOk cx_hier_halves := by
  refine CxOk.add cx_hier_found.ok rfl (fun CV hcv xs K w hx h => ?_) (fun CV hcv xs K w hx h => ?_)
  · unfold sh_hier_halves.o at h; split at h
    · rename_i h0_Rank_a h0_Rank_l h0_Rank_c h0_Ways_a h0_Ways_l h0_Ways_c find0 w_0_From w_0_To w_0_Way_W w_0_Way_Mid w_0_Way_Arc; exact sh_hier_halves.calls CV ⟨h0_Rank_a, h0_Rank_l, h0_Rank_c⟩ ⟨h0_Ways_a, h0_Ways_l, h0_Ways_c⟩ find0 w_0_From w_0_To w_0_Way_W w_0_Way_Mid w_0_Way_Arc hcv h
    · exact h.elim
  · unfold sh_hier_halves.q at h; split at h
    · rename_i h0_Rank_a h0_Rank_l h0_Rank_c h0_Ways_a h0_Ways_l h0_Ways_c find0 w_0_From w_0_To w_0_Way_W w_0_Way_Mid w_0_Way_Arc; obtain ⟨r, h1, h2⟩ := h; exact ⟨_, h2, fun w' e => sh_hier_halves.calls CV ⟨h0_Rank_a, h0_Rank_l, h0_Rank_c⟩ ⟨h0_Ways_a, h0_Ways_l, h0_Ways_c⟩ find0 w_0_From w_0_To w_0_Way_W w_0_Way_Mid w_0_Way_Arc hcv (h1 w' e)⟩
    · exact h.elim
def sh_hier_right.plan : Plan := (.seq .o (.seq (.seq .o (.cond (.seq .o .o) .o)) (.seq (.seq (.draw [] [.pure, .pure, .loc, .pure, .pure, .pure, .pure, .loc, .pure, .pure, .pure, .pure, .pure, .loc, .pure, .loc, .pure, .pure, .pure, .pure, .pure, .loc, .pure, .pure, .loc, .pure, .quiet, .pure, .loc, .pure, .loc, .pure, .quiet, .pure, .loc, .pure, .loc, .pure, .quiet, .pure, .pure, .pure] [0, 1, 2, 3, 4, 5, 6, 7, 8, 9, 10, 11, 12, 13, 14, 15, 16, 17, 18, 19, 20, 21, 22, 23, 24, 25, 26, 27, 28, 29, 30, 31, 32, 33, 34, 35, 36, 37, 38, 39, 40, 41]) (.cond (.seq .o .o) .o)) (.seq .o (.seq (.draw [] [.pure, .pure, .pure, .loc, .pure, .pure, .pure, .pure, .quiet, .pure, .loc, .pure, .pure, .pure, .pure, .quiet, .pure, .pure, .pure, .loc, .pure, .pure, .pure] [0, 1, 2, 3, 4, 5, 6, 7, 8, 9, 10, 11, 12, 13, 14, 15, 16, 17, 18, 19, 20, 21, 22]) .o)))))
theorem sh_hier_right.is (CV : CVT) (h0_Rank : SV) (h0_Ways : SV) (find0 : Option Nat) (w_0_From : Int) (w_0_To : Int) (w_0_Way_W : Int) (w_0_Way_Mid : Int) (w_0_Way_Arc : Int) (w : World) (R : Value → World → Prop) : sh_hier_right h0_Rank h0_Ways find0 w_0_From w_0_To w_0_Way_W w_0_Way_Mid w_0_Way_Arc (fun r0 w' => R (.bool r0) w') w = denF (cx_hier_halves.with CV) Try.f60 sh_hier_right.plan [.v (.agg #[(.slice h0_Rank.a h0_Rank.len h0_Rank.cap), (.slice h0_Ways.a h0_Ways.len h0_Ways.cap)]), .v (.map find0), .v (.agg #[(.int .i64 w_0_From), (.int .i64 w_0_To), (.int .i64 w_0_Way_W), (.int .i64 w_0_Way_Mid), (.int .i64 w_0_Way_Arc)])] w R := by kernel_rfl
theorem sh_hier_right.calls (CV : CVT) (h0_Rank : SV) (h0_Ways : SV) (find0 : Option Nat) (w_0_From : Int) (w_0_To : Int) (w_0_Way_W : Int) (w_0_Way_Mid : Int) (w_0_Way_Arc : Int) (hcv : CVOk Try.prog CV) {w : World} {R : Ending → World → Prop} (h : sh_hier_right h0_Rank h0_Ways find0 w_0_From w_0_To w_0_Way_W w_0_Way_Mid w_0_Way_Arc (fun r0 w' => R (.returned (.bool r0)) w') w) : Calls Try.prog 60 #[(.agg #[(.slice h0_Rank.a h0_Rank.len h0_Rank.cap), (.slice h0_Ways.a h0_Ways.len h0_Ways.cap)]), (.map find0), (.agg #[(.int .i64 w_0_From), (.int .i64 w_0_To), (.int .i64 w_0_Way_W), (.int .i64 w_0_Way_Mid), (.int .i64 w_0_Way_Arc)])] w R :=
  calls_is (cx := cx_hier_halves.with CV) mixed_Try (cx_hier_halves.ok.with CV) hcv Try.func60 sh_hier_right.plan (xs := [.v (.agg #[(.slice h0_Rank.a h0_Rank.len h0_Rank.cap), (.slice h0_Ways.a h0_Ways.len h0_Ways.cap)]), .v (.map find0), .v (.agg #[(.int .i64 w_0_From), (.int .i64 w_0_To), (.int .i64 w_0_Way_W), (.int .i64 w_0_Way_Mid), (.int .i64 w_0_Way_Arc)])]) ((args_cons _ (args_cons _ (args_cons _ args_nil)))) (by kernel_rfl) (sh_hier_right.is CV h0_Rank h0_Ways find0 w_0_From w_0_To w_0_Way_W w_0_Way_Mid w_0_Way_Arc w (fun v w' => R (.returned v) w')) h
def sh_hier_right.o : CVT → List X → (Value → World → Prop) → World → Prop
  | CV, [.v (.agg ⟨[.slice h0_Rank_a h0_Rank_l h0_Rank_c, .slice h0_Ways_a h0_Ways_l h0_Ways_c]⟩), .v (.map find0), .v (.agg ⟨[.int .i64 w_0_From, .int .i64 w_0_To, .int .i64 w_0_Way_W, .int .i64 w_0_Way_Mid, .int .i64 w_0_Way_Arc]⟩)], K, w => sh_hier_right ⟨h0_Rank_a, h0_Rank_l, h0_Rank_c⟩ ⟨h0_Ways_a, h0_Ways_l, h0_Ways_c⟩ find0 w_0_From w_0_To w_0_Way_W w_0_Way_Mid w_0_Way_Arc (fun r0 w' => K (.bool r0) w') w
  | _, _, _, _ => False
def sh_hier_right.q : CVT → List X → World → (Value → Prop) → Prop
  | CV, [.v (.agg ⟨[.slice h0_Rank_a h0_Rank_l h0_Rank_c, .slice h0_Ways_a h0_Ways_l h0_Ways_c]⟩), .v (.map find0), .v (.agg ⟨[.int .i64 w_0_From, .int .i64 w_0_To, .int .i64 w_0_Way_W, .int .i64 w_0_Way_Mid, .int .i64 w_0_Way_Arc]⟩)], w, K => Quiet (Bool) (fun r => (.bool r)) (fun K1 w' => sh_hier_right ⟨h0_Rank_a, h0_Rank_l, h0_Rank_c⟩ ⟨h0_Ways_a, h0_Ways_l, h0_Ways_c⟩ find0 w_0_From w_0_To w_0_Way_W w_0_Way_Mid w_0_Way_Arc (fun r0 w'' => K1 r0 w'') w') w (fun r => K (.bool r))
  | _, _, _, _ => False
noncomputable def cx_hier_right : Cx := Cx.add Try.prog cx_hier_halves 60 sh_hier_right.o sh_hier_right.q
theorem cx_hier_right.ok : CxOk cx_hier_right := by
  refine CxOk.add cx_hier_halves.ok rfl (fun CV hcv xs K w hx h => ?_) (fun CV hcv xs K w hx h => ?_)
  · unfold sh_hier_right.o at h; split at h
    · rename_i h0_Rank_a h0_Rank_l h0_Rank_c h0_Ways_a h0_Ways_l h0_Ways_c find0 w_0_From w_0_To w_0_Way_W w_0_Way_Mid w_0_Way_Arc; exact sh_hier_right.calls CV ⟨h0_Rank_a, h0_Rank_l, h0_Rank_c⟩ ⟨h0_Ways_a, h0_Ways_l, h0_Ways_c⟩ find0 w_0_From w_0_To w_0_Way_W w_0_Way_Mid w_0_Way_Arc hcv h
    · exact h.elim
  · unfold sh_hier_right.q at h; split at h
    · rename_i h0_Rank_a h0_Rank_l h0_Rank_c h0_Ways_a h0_Ways_l h0_Ways_c find0 w_0_From w_0_To w_0_Way_W w_0_Way_Mid w_0_Way_Arc; obtain ⟨r, h1, h2⟩ := h; exact ⟨_, h2, fun w' e => sh_hier_right.calls CV ⟨h0_Rank_a, h0_Rank_l, h0_Rank_c⟩ ⟨h0_Ways_a, h0_Ways_l, h0_Ways_c⟩ find0 w_0_From w_0_To w_0_Way_W w_0_Way_Mid w_0_Way_Arc hcv (h1 w' e)⟩
    · exact h.elim
def sh_hier_check.plan : Plan := (.seq .o (.seq (.seq .o (.cond (.seq .o .o) .o)) (.seq .o (.seq .o (.seq (.seq .o (.cond (.seq .o .o) .o)) (.join [] [] (.seq .o (.block (.loop [.slot 40 (.int .i64)] [] (.seq .o (.seq (.cond .o .o) (.seq (.block (.seq .o (.seq .o (.cond (.seq .o .o) .o)))) .o)))))) (.seq .o .o)))))))
theorem sh_hier_check.is (CV : CVT) (h0_Rank : SV) (h0_Ways : SV) (w : World) (R : Value → World → Prop) : sh_hier_check h0_Rank h0_Ways (fun r0 r1 w' => R (.tuple #[(.pointer r0), (.int .i64 r1)]) w') w = denF (cx_hier_right.with CV) Try.f34 sh_hier_check.plan [.v (.agg #[(.slice h0_Rank.a h0_Rank.len h0_Rank.cap), (.slice h0_Ways.a h0_Ways.len h0_Ways.cap)])] w R := by kernel_rfl
theorem sh_hier_check.calls (CV : CVT) (h0_Rank : SV) (h0_Ways : SV) (hcv : CVOk Try.prog CV) {w : World} {R : Ending → World → Prop} (h : sh_hier_check h0_Rank h0_Ways (fun r0 r1 w' => R (.returned (.tuple #[(.pointer r0), (.int .i64 r1)])) w') w) : Calls Try.prog 34 #[(.agg #[(.slice h0_Rank.a h0_Rank.len h0_Rank.cap), (.slice h0_Ways.a h0_Ways.len h0_Ways.cap)])] w R :=
  calls_is (cx := cx_hier_right.with CV) mixed_Try (cx_hier_right.ok.with CV) hcv Try.func34 sh_hier_check.plan (xs := [.v (.agg #[(.slice h0_Rank.a h0_Rank.len h0_Rank.cap), (.slice h0_Ways.a h0_Ways.len h0_Ways.cap)])]) ((args_cons _ args_nil)) (by kernel_rfl) (sh_hier_check.is CV h0_Rank h0_Ways w (fun v w' => R (.returned v) w')) h
def sh_hier_check.o : CVT → List X → (Value → World → Prop) → World → Prop
  | CV, [.v (.agg ⟨[.slice h0_Rank_a h0_Rank_l h0_Rank_c, .slice h0_Ways_a h0_Ways_l h0_Ways_c]⟩)], K, w => sh_hier_check ⟨h0_Rank_a, h0_Rank_l, h0_Rank_c⟩ ⟨h0_Ways_a, h0_Ways_l, h0_Ways_c⟩ (fun r0 r1 w' => K (.tuple #[(.pointer r0), (.int .i64 r1)]) w') w
  | _, _, _, _ => False
def sh_hier_check.q : CVT → List X → World → (Value → Prop) → Prop
  | CV, [.v (.agg ⟨[.slice h0_Rank_a h0_Rank_l h0_Rank_c, .slice h0_Ways_a h0_Ways_l h0_Ways_c]⟩)], w, K => Quiet ((Option Addr) × Int) (fun r => (.tuple #[(.pointer r.1), (.int .i64 r.2)])) (fun K1 w' => sh_hier_check ⟨h0_Rank_a, h0_Rank_l, h0_Rank_c⟩ ⟨h0_Ways_a, h0_Ways_l, h0_Ways_c⟩ (fun r0 r1 w'' => K1 (r0, r1) w'') w') w (fun r => K (.tuple #[(.pointer r.1), (.int .i64 r.2)]))
  | _, _, _, _ => False
noncomputable def cx_hier_check : Cx := Cx.add Try.prog cx_hier_right 34 sh_hier_check.o sh_hier_check.q
theorem cx_hier_check.ok : CxOk cx_hier_check := by
  refine CxOk.add cx_hier_right.ok rfl (fun CV hcv xs K w hx h => ?_) (fun CV hcv xs K w hx h => ?_)
  · unfold sh_hier_check.o at h; split at h
    · rename_i h0_Rank_a h0_Rank_l h0_Rank_c h0_Ways_a h0_Ways_l h0_Ways_c; exact sh_hier_check.calls CV ⟨h0_Rank_a, h0_Rank_l, h0_Rank_c⟩ ⟨h0_Ways_a, h0_Ways_l, h0_Ways_c⟩ hcv h
    · exact h.elim
  · unfold sh_hier_check.q at h; split at h
    · rename_i h0_Rank_a h0_Rank_l h0_Rank_c h0_Ways_a h0_Ways_l h0_Ways_c; obtain ⟨r, h1, h2⟩ := h; exact ⟨_, h2, fun w' e => sh_hier_check.calls CV ⟨h0_Rank_a, h0_Rank_l, h0_Rank_c⟩ ⟨h0_Ways_a, h0_Ways_l, h0_Ways_c⟩ hcv (h1 w' e)⟩
    · exact h.elim
def sh_hier_put.plan : Plan := (.seq .o (.scope (.seq .o (.seq .o (.join [.slot 5 (.int .i64)] [] (.block (.loop [.slot 5 (.int .i64)] [] (.seq (.seq .o (.cond .o .o)) (.seq (.block (.seq (.draw [] [.pure, .pure, .pure, .pure, .pure, .quiet, .pure, .loc, .pure] [0, 1, 2, 3, 4, 5, 6, 7, 8]) (.cond .o .o))) .o)))) (.seq .o (.seq (.draw [] [.pure, .pure, .pure, .pure, .pure, .pure, .pure, .big] [0, 1, 2, 3, 4, 5, 6, 7]) (.seq .o (.seq .o .o)))))))))
theorem sh_hier_put.is (CV : CVT) (l0 : SV) (e0_V : Int) (e0_W : Int) (e0_Arc : Int) (w : World) (R : Value → World → Prop) : sh_hier_put l0 e0_V e0_W e0_Arc (fun r0 w' => R (.slice r0.a r0.len r0.cap) w') w = denF (cx_hier_check.with CV) Try.f35 sh_hier_put.plan [.v (.slice l0.a l0.len l0.cap), .v (.agg #[(.int .i64 e0_V), (.int .i64 e0_W), (.int .i64 e0_Arc)])] w R := by kernel_rfl
theorem sh_hier_put.calls (CV : CVT) (l0 : SV) (e0_V : Int) (e0_W : Int) (e0_Arc : Int) (hcv : CVOk Try.prog CV) {w : World} {R : Ending → World → Prop} (h : sh_hier_put l0 e0_V e0_W e0_Arc (fun r0 w' => R (.returned (.slice r0.a r0.len r0.cap)) w') w) : Calls Try.prog 35 #[(.slice l0.a l0.len l0.cap), (.agg #[(.int .i64 e0_V), (.int .i64 e0_W), (.int .i64 e0_Arc)])] w R :=
  calls_is (cx := cx_hier_check.with CV) mixed_Try (cx_hier_check.ok.with CV) hcv Try.func35 sh_hier_put.plan (xs := [.v (.slice l0.a l0.len l0.cap), .v (.agg #[(.int .i64 e0_V), (.int .i64 e0_W), (.int .i64 e0_Arc)])]) ((args_cons _ (args_cons _ args_nil))) (by kernel_rfl) (sh_hier_put.is CV l0 e0_V e0_W e0_Arc w (fun v w' => R (.returned v) w')) h
def sh_hier_put.o : CVT → List X → (Value → World → Prop) → World → Prop
  | CV, [.v (.slice l0_a l0_l l0_c), .v (.agg ⟨[.int .i64 e0_V, .int .i64 e0_W, .int .i64 e0_Arc]⟩)], K, w => sh_hier_put ⟨l0_a, l0_l, l0_c⟩ e0_V e0_W e0_Arc (fun r0 w' => K (.slice r0.a r0.len r0.cap) w') w
  | _, _, _, _ => False
def sh_hier_put.q : CVT → List X → World → (Value → Prop) → Prop
  | CV, [.v (.slice l0_a l0_l l0_c), .v (.agg ⟨[.int .i64 e0_V, .int .i64 e0_W, .int .i64 e0_Arc]⟩)], w, K => Quiet (SV) (fun r => (.slice r.a r.len r.cap)) (fun K1 w' => sh_hier_put ⟨l0_a, l0_l, l0_c⟩ e0_V e0_W e0_Arc (fun r0 w'' => K1 r0 w'') w') w (fun r => K (.slice r.a r.len r.cap))
  | _, _, _, _ => False
noncomputable def cx_hier_put : Cx := Cx.add Try.prog cx_hier_check 35 sh_hier_put.o sh_hier_put.q
theorem cx_hier_put.ok : CxOk cx_hier_put := by
  refine CxOk.add cx_hier_check.ok rfl (fun CV hcv xs K w hx h => ?_) (fun CV hcv xs K w hx h => ?_)
  · unfold sh_hier_put.o at h; split at h
    · rename_i l0_a l0_l l0_c e0_V e0_W e0_Arc; exact sh_hier_put.calls CV ⟨l0_a, l0_l, l0_c⟩ e0_V e0_W e0_Arc hcv h
    · exact h.elim
  · unfold sh_hier_put.q at h; split at h
    · rename_i l0_a l0_l l0_c e0_V e0_W e0_Arc; obtain ⟨r, h1, h2⟩ := h; exact ⟨_, h2, fun w' e => sh_hier_put.calls CV ⟨l0_a, l0_l, l0_c⟩ e0_V e0_W e0_Arc hcv (h1 w' e)⟩
    · exact h.elim
def sh_hier_New.plan : Plan := (.seq .o (.seq .o (.seq .o (.seq .o (.seq (.seq .o (.cond (.seq .o .o) .o)) (.seq (.draw [] [.pure, .pure, .pure, .loc, .pure, .new, .pure, .rd, .pure, .alc, .pure, .pure, .bigz, .pure, .pure, .big] [0, 1, 2, 3, 4, 6, 7, 8, 5, 10, 11, 12, 9, 13, 14, 15]) (.seq (.seq .o (.block (.loop [.slot 39 (.int .i64)] [] (.seq .o (.seq (.cond .o .o) (.seq (.block (.seq .o (.seq (.draw [] [.pure, .loc, .pure, .loc, .pure, .quiet, .pure, .loc, .pure, .loc, .pure, .quiet, .pure] [0, 1, 2, 3, 4, 5, 6, 7, 8, 9, 10, 11, 12]) (.cond (.draw [] [.pure, .pure, .pure, .rd, .pure, .rd, .pure, .pure, .pure, .quiet, .pure, .loc, .pure, .quiet, .pure, .loc, .pure, .pure, .loc, .pure, .pure, .big, .pure, .big] [0, 1, 2, 3, 4, 5, 6, 7, 8, 9, 10, 11, 12, 13, 14, 15, 16, 17, 18, 19, 20, 21, 22, 23]) (.draw [] [.pure, .pure, .pure, .rd, .pure, .rd, .pure, .pure, .pure, .quiet, .pure, .loc, .pure, .quiet, .pure, .loc, .pure, .pure, .loc, .pure, .pure, .big, .pure, .big] [0, 1, 2, 3, 4, 5, 6, 7, 8, 9, 10, 11, 12, 13, 14, 15, 16, 17, 18, 19, 20, 21, 22, 23]))))) .o)))))) (.seq .o .o))))))))
theorem sh_hier_New.is (CV : CVT) (h0_Rank : SV) (h0_Ways : SV) (w : World) (R : Value → World → Prop) : sh_hier_New h0_Rank h0_Ways (fun r0 w' => R (.pointer r0) w') w = denF (cx_hier_put.with CV) Try.f12 sh_hier_New.plan [.v (.agg #[(.slice h0_Rank.a h0_Rank.len h0_Rank.cap), (.slice h0_Ways.a h0_Ways.len h0_Ways.cap)])] w R := by kernel_rfl
theorem sh_hier_New.calls (CV : CVT) (h0_Rank : SV) (h0_Ways : SV) (hcv : CVOk Try.prog CV) {w : World} {R : Ending → World → Prop} (h : sh_hier_New h0_Rank h0_Ways (fun r0 w' => R (.returned (.pointer r0)) w') w) : Calls Try.prog 12 #[(.agg #[(.slice h0_Rank.a h0_Rank.len h0_Rank.cap), (.slice h0_Ways.a h0_Ways.len h0_Ways.cap)])] w R :=
  calls_is (cx := cx_hier_put.with CV) mixed_Try (cx_hier_put.ok.with CV) hcv Try.func12 sh_hier_New.plan (xs := [.v (.agg #[(.slice h0_Rank.a h0_Rank.len h0_Rank.cap), (.slice h0_Ways.a h0_Ways.len h0_Ways.cap)])]) ((args_cons _ args_nil)) (by kernel_rfl) (sh_hier_New.is CV h0_Rank h0_Ways w (fun v w' => R (.returned v) w')) h
def sh_hier_New.o : CVT → List X → (Value → World → Prop) → World → Prop
  | CV, [.v (.agg ⟨[.slice h0_Rank_a h0_Rank_l h0_Rank_c, .slice h0_Ways_a h0_Ways_l h0_Ways_c]⟩)], K, w => sh_hier_New ⟨h0_Rank_a, h0_Rank_l, h0_Rank_c⟩ ⟨h0_Ways_a, h0_Ways_l, h0_Ways_c⟩ (fun r0 w' => K (.pointer r0) w') w
  | _, _, _, _ => False
def sh_hier_New.q : CVT → List X → World → (Value → Prop) → Prop
  | CV, [.v (.agg ⟨[.slice h0_Rank_a h0_Rank_l h0_Rank_c, .slice h0_Ways_a h0_Ways_l h0_Ways_c]⟩)], w, K => Quiet ((Option Addr)) (fun r => (.pointer r)) (fun K1 w' => sh_hier_New ⟨h0_Rank_a, h0_Rank_l, h0_Rank_c⟩ ⟨h0_Ways_a, h0_Ways_l, h0_Ways_c⟩ (fun r0 w'' => K1 r0 w'') w') w (fun r => K (.pointer r))
  | _, _, _, _ => False
noncomputable def cx_hier_New : Cx := Cx.add Try.prog cx_hier_put 12 sh_hier_New.o sh_hier_New.q
theorem cx_hier_New.ok : CxOk cx_hier_New := by
  refine CxOk.add cx_hier_put.ok rfl (fun CV hcv xs K w hx h => ?_) (fun CV hcv xs K w hx h => ?_)
  · unfold sh_hier_New.o at h; split at h
    · rename_i h0_Rank_a h0_Rank_l h0_Rank_c h0_Ways_a h0_Ways_l h0_Ways_c; exact sh_hier_New.calls CV ⟨h0_Rank_a, h0_Rank_l, h0_Rank_c⟩ ⟨h0_Ways_a, h0_Ways_l, h0_Ways_c⟩ hcv h
    · exact h.elim
  · unfold sh_hier_New.q at h; split at h
    · rename_i h0_Rank_a h0_Rank_l h0_Rank_c h0_Ways_a h0_Ways_l h0_Ways_c; obtain ⟨r, h1, h2⟩ := h; exact ⟨_, h2, fun w' e => sh_hier_New.calls CV ⟨h0_Rank_a, h0_Rank_l, h0_Rank_c⟩ ⟨h0_Ways_a, h0_Ways_l, h0_Ways_c⟩ hcv (h1 w' e)⟩
    · exact h.elim
def sh_slices_Clone_int_int.plan : Plan := (.seq .o (.seq (.seq .o (.cond (.seq .o .o) .o)) (.seq .o .o)))
theorem sh_slices_Clone_int_int.is (CV : CVT) (s0 : SV) (w : World) (R : Value → World → Prop) : sh_slices_Clone_int_int s0 (fun r0 w' => R (.slice r0.a r0.len r0.cap) w') w = denF (cx_hier_New.with CV) Try.f61 sh_slices_Clone_int_int.plan [.v (.slice s0.a s0.len s0.cap)] w R := by kernel_rfl
theorem sh_slices_Clone_int_int.calls (CV : CVT) (s0 : SV) (hcv : CVOk Try.prog CV) {w : World} {R : Ending → World → Prop} (h : sh_slices_Clone_int_int s0 (fun r0 w' => R (.returned (.slice r0.a r0.len r0.cap)) w') w) : Calls Try.prog 61 #[(.slice s0.a s0.len s0.cap)] w R :=
  calls_is (cx := cx_hier_New.with CV) mixed_Try (cx_hier_New.ok.with CV) hcv Try.func61 sh_slices_Clone_int_int.plan (xs := [.v (.slice s0.a s0.len s0.cap)]) ((args_cons _ args_nil)) (by kernel_rfl) (sh_slices_Clone_int_int.is CV s0 w (fun v w' => R (.returned v) w')) h
def sh_slices_Clone_int_int.o : CVT → List X → (Value → World → Prop) → World → Prop
  | CV, [.v (.slice s0_a s0_l s0_c)], K, w => sh_slices_Clone_int_int ⟨s0_a, s0_l, s0_c⟩ (fun r0 w' => K (.slice r0.a r0.len r0.cap) w') w
  | _, _, _, _ => False
def sh_slices_Clone_int_int.q : CVT → List X → World → (Value → Prop) → Prop
  | CV, [.v (.slice s0_a s0_l s0_c)], w, K => Quiet (SV) (fun r => (.slice r.a r.len r.cap)) (fun K1 w' => sh_slices_Clone_int_int ⟨s0_a, s0_l, s0_c⟩ (fun r0 w'' => K1 r0 w'') w') w (fun r => K (.slice r.a r.len r.cap))
  | _, _, _, _ => False
noncomputable def cx_slices_Clone_int_int : Cx := Cx.add Try.prog cx_hier_New 61 sh_slices_Clone_int_int.o sh_slices_Clone_int_int.q
theorem cx_slices_Clone_int_int.ok : CxOk cx_slices_Clone_int_int := by
  refine CxOk.add cx_hier_New.ok rfl (fun CV hcv xs K w hx h => ?_) (fun CV hcv xs K w hx h => ?_)
  · unfold sh_slices_Clone_int_int.o at h; split at h
    · rename_i s0_a s0_l s0_c; exact sh_slices_Clone_int_int.calls CV ⟨s0_a, s0_l, s0_c⟩ hcv h
    · exact h.elim
  · unfold sh_slices_Clone_int_int.q at h; split at h
    · rename_i s0_a s0_l s0_c; obtain ⟨r, h1, h2⟩ := h; exact ⟨_, h2, fun w' e => sh_slices_Clone_int_int.calls CV ⟨s0_a, s0_l, s0_c⟩ hcv (h1 w' e)⟩
    · exact h.elim
def sh_slices_Reverse_int_int.plan : Plan := (.seq .o (.block (.loop [.slot 2 (.int .i64), .slot 3 (.int .i64)] [] (.seq (.seq .o (.cond .o .o)) (.seq (.block (.draw [] [.pure, .pure, .pure, .pure, .pure, .pure, .pure, .quiet, .pure, .pure, .pure, .quiet, .pure, .big, .pure, .big] [0, 1, 2, 3, 4, 5, 6, 7, 8, 9, 10, 11, 12, 13, 14, 15])) .o)))))
theorem sh_slices_Reverse_int_int.is (CV : CVT) (s0 : SV) (w : World) (R : Value → World → Prop) : sh_slices_Reverse_int_int s0 (fun w' => R (.tuple #[]) w') w = denF (cx_slices_Clone_int_int.with CV) Try.f62 sh_slices_Reverse_int_int.plan [.v (.slice s0.a s0.len s0.cap)] w R := by kernel_rfl
theorem sh_slices_Reverse_int_int.calls (CV : CVT) (s0 : SV) (hcv : CVOk Try.prog CV) {w : World} {R : Ending → World → Prop} (h : sh_slices_Reverse_int_int s0 (fun w' => R (.returned (.tuple #[])) w') w) : Calls Try.prog 62 #[(.slice s0.a s0.len s0.cap)] w R :=
  calls_is (cx := cx_slices_Clone_int_int.with CV) mixed_Try (cx_slices_Clone_int_int.ok.with CV) hcv Try.func62 sh_slices_Reverse_int_int.plan (xs := [.v (.slice s0.a s0.len s0.cap)]) ((args_cons _ args_nil)) (by kernel_rfl) (sh_slices_Reverse_int_int.is CV s0 w (fun v w' => R (.returned v) w')) h
def sh_slices_Reverse_int_int.o : CVT → List X → (Value → World → Prop) → World → Prop
  | CV, [.v (.slice s0_a s0_l s0_c)], K, w => sh_slices_Reverse_int_int ⟨s0_a, s0_l, s0_c⟩ (fun w' => K (.tuple #[]) w') w
  | _, _, _, _ => False
def sh_slices_Reverse_int_int.q : CVT → List X → World → (Value → Prop) → Prop
  | CV, [.v (.slice s0_a s0_l s0_c)], w, K => Quiet (Unit) (fun r => (.tuple #[])) (fun K1 w' => sh_slices_Reverse_int_int ⟨s0_a, s0_l, s0_c⟩ (fun w'' => K1 () w'') w') w (fun r => K (.tuple #[]))
  | _, _, _, _ => False
noncomputable def cx_slices_Reverse_int_int : Cx := Cx.add Try.prog cx_slices_Clone_int_int 62 sh_slices_Reverse_int_int.o sh_slices_Reverse_int_int.q
theorem cx_slices_Reverse_int_int.ok : CxOk cx_slices_Reverse_int_int := by
  refine CxOk.add cx_slices_Clone_int_int.ok rfl (fun CV hcv xs K w hx h => ?_) (fun CV hcv xs K w hx h => ?_)
  · unfold sh_slices_Reverse_int_int.o at h; split at h
    · rename_i s0_a s0_l s0_c; exact sh_slices_Reverse_int_int.calls CV ⟨s0_a, s0_l, s0_c⟩ hcv h
    · exact h.elim
  · unfold sh_slices_Reverse_int_int.q at h; split at h
    · rename_i s0_a s0_l s0_c; obtain ⟨r, h1, h2⟩ := h; exact ⟨_, h2, fun w' e => sh_slices_Reverse_int_int.calls CV ⟨s0_a, s0_l, s0_c⟩ hcv (h1 w' e)⟩
    · exact h.elim
def sh_hier_Hier_Way.plan : Plan := (.seq .o (.seq (.seq .o (.cond (.seq .o .o) .o)) (.seq .o .o)))
theorem sh_hier_Hier_Way.is (CV : CVT) (h0 : Option Addr) (k0 : Int) (w : World) (R : Value → World → Prop) : sh_hier_Hier_Way h0 k0 (fun r0 r1 r2 r3 r4 r5 w' => R (.tuple #[(.agg #[(.int .i64 r0), (.int .i64 r1), (.int .i64 r2), (.int .i64 r3), (.int .i64 r4)]), (.bool r5)]) w') w = denF (cx_slices_Reverse_int_int.with CV) Try.f24 sh_hier_Hier_Way.plan [.v (.pointer h0), .v (.int .i64 k0)] w R := by kernel_rfl
theorem sh_hier_Hier_Way.calls (CV : CVT) (h0 : Option Addr) (k0 : Int) (hcv : CVOk Try.prog CV) {w : World} {R : Ending → World → Prop} (h : sh_hier_Hier_Way h0 k0 (fun r0 r1 r2 r3 r4 r5 w' => R (.returned (.tuple #[(.agg #[(.int .i64 r0), (.int .i64 r1), (.int .i64 r2), (.int .i64 r3), (.int .i64 r4)]), (.bool r5)])) w') w) : Calls Try.prog 24 #[(.pointer h0), (.int .i64 k0)] w R :=
  calls_is (cx := cx_slices_Reverse_int_int.with CV) mixed_Try (cx_slices_Reverse_int_int.ok.with CV) hcv Try.func24 sh_hier_Hier_Way.plan (xs := [.v (.pointer h0), .v (.int .i64 k0)]) ((args_cons _ (args_cons _ args_nil))) (by kernel_rfl) (sh_hier_Hier_Way.is CV h0 k0 w (fun v w' => R (.returned v) w')) h
def sh_hier_Hier_Way.o : CVT → List X → (Value → World → Prop) → World → Prop
  | CV, [.v (.pointer h0), .v (.int .i64 k0)], K, w => sh_hier_Hier_Way h0 k0 (fun r0 r1 r2 r3 r4 r5 w' => K (.tuple #[(.agg #[(.int .i64 r0), (.int .i64 r1), (.int .i64 r2), (.int .i64 r3), (.int .i64 r4)]), (.bool r5)]) w') w
  | _, _, _, _ => False
def sh_hier_Hier_Way.q : CVT → List X → World → (Value → Prop) → Prop
  | CV, [.v (.pointer h0), .v (.int .i64 k0)], w, K => Quiet (Int × Int × Int × Int × Int × Bool) (fun r => (.tuple #[(.agg #[(.int .i64 r.1), (.int .i64 r.2.1), (.int .i64 r.2.2.1), (.int .i64 r.2.2.2.1), (.int .i64 r.2.2.2.2.1)]), (.bool r.2.2.2.2.2)])) (fun K1 w' => sh_hier_Hier_Way h0 k0 (fun r0 r1 r2 r3 r4 r5 w'' => K1 (r0, r1, r2, r3, r4, r5) w'') w') w (fun r => K (.tuple #[(.agg #[(.int .i64 r.1), (.int .i64 r.2.1), (.int .i64 r.2.2.1), (.int .i64 r.2.2.2.1), (.int .i64 r.2.2.2.2.1)]), (.bool r.2.2.2.2.2)]))
  | _, _, _, _ => False
noncomputable def cx_hier_Hier_Way : Cx := Cx.add Try.prog cx_slices_Reverse_int_int 24 sh_hier_Hier_Way.o sh_hier_Hier_Way.q
theorem cx_hier_Hier_Way.ok : CxOk cx_hier_Hier_Way := by
  refine CxOk.add cx_slices_Reverse_int_int.ok rfl (fun CV hcv xs K w hx h => ?_) (fun CV hcv xs K w hx h => ?_)
  · unfold sh_hier_Hier_Way.o at h; split at h
    · rename_i h0 k0; exact sh_hier_Hier_Way.calls CV h0 k0 hcv h
    · exact h.elim
  · unfold sh_hier_Hier_Way.q at h; split at h
    · rename_i h0 k0; obtain ⟨r, h1, h2⟩ := h; exact ⟨_, h2, fun w' e => sh_hier_Hier_Way.calls CV h0 k0 hcv (h1 w' e)⟩
    · exact h.elim
def sh_hier_Hier_Halves.plan : Plan := (.seq .o (.seq .o (.seq (.seq .o (.cond (.seq .o .o) .o)) (.seq (.draw [] [.pure, .pure, .pure, .quiet, .pure, .pure, .pure, .quiet, .loc, .quiet, .pure, .pure, .pure, .pure, .pure, .pure] [0, 1, 2, 3, 4, 5, 6, 7, 8, 9, 10, 11, 12, 13, 14, 15]) .o))))
theorem sh_hier_Hier_Halves.is (CV : CVT) (h0 : Option Addr) (k0 : Int) (w : World) (R : Value → World → Prop) : sh_hier_Hier_Halves h0 k0 (fun r0 r1 r2 w' => R (.tuple #[(.int .i64 r0), (.int .i64 r1), (.bool r2)]) w') w = denF (cx_hier_Hier_Way.with CV) Try.f21 sh_hier_Hier_Halves.plan [.v (.pointer h0), .v (.int .i64 k0)] w R := by kernel_rfl
theorem sh_hier_Hier_Halves.calls (CV : CVT) (h0 : Option Addr) (k0 : Int) (hcv : CVOk Try.prog CV) {w : World} {R : Ending → World → Prop} (h : sh_hier_Hier_Halves h0 k0 (fun r0 r1 r2 w' => R (.returned (.tuple #[(.int .i64 r0), (.int .i64 r1), (.bool r2)])) w') w) : Calls Try.prog 21 #[(.pointer h0), (.int .i64 k0)] w R :=
  calls_is (cx := cx_hier_Hier_Way.with CV) mixed_Try (cx_hier_Hier_Way.ok.with CV) hcv Try.func21 sh_hier_Hier_Halves.plan (xs := [.v (.pointer h0), .v (.int .i64 k0)]) ((args_cons _ (args_cons _ args_nil))) (by kernel_rfl) (sh_hier_Hier_Halves.is CV h0 k0 w (fun v w' => R (.returned v) w')) h
def sh_hier_Hier_Halves.o : CVT → List X → (Value → World → Prop) → World → Prop
  | CV, [.v (.pointer h0), .v (.int .i64 k0)], K, w => sh_hier_Hier_Halves h0 k0 (fun r0 r1 r2 w' => K (.tuple #[(.int .i64 r0), (.int .i64 r1), (.bool r2)]) w') w
  | _, _, _, _ => False
def sh_hier_Hier_Halves.q : CVT → List X → World → (Value → Prop) → Prop
  | CV, [.v (.pointer h0), .v (.int .i64 k0)], w, K => Quiet (Int × Int × Bool) (fun r => (.tuple #[(.int .i64 r.1), (.int .i64 r.2.1), (.bool r.2.2)])) (fun K1 w' => sh_hier_Hier_Halves h0 k0 (fun r0 r1 r2 w'' => K1 (r0, r1, r2) w'') w') w (fun r => K (.tuple #[(.int .i64 r.1), (.int .i64 r.2.1), (.bool r.2.2)]))
  | _, _, _, _ => False
noncomputable def cx_hier_Hier_Halves : Cx := Cx.add Try.prog cx_hier_Hier_Way 21 sh_hier_Hier_Halves.o sh_hier_Hier_Halves.q
theorem cx_hier_Hier_Halves.ok : CxOk cx_hier_Hier_Halves := by
  refine CxOk.add cx_hier_Hier_Way.ok rfl (fun CV hcv xs K w hx h => ?_) (fun CV hcv xs K w hx h => ?_)
  · unfold sh_hier_Hier_Halves.o at h; split at h
    · rename_i h0 k0; exact sh_hier_Hier_Halves.calls CV h0 k0 hcv h
    · exact h.elim
  · unfold sh_hier_Hier_Halves.q at h; split at h
    · rename_i h0 k0; obtain ⟨r, h1, h2⟩ := h; exact ⟨_, h2, fun w' e => sh_hier_Hier_Halves.calls CV h0 k0 hcv (h1 w' e)⟩
    · exact h.elim
def sh_unpack_open.plan : Plan := (.seq .o (.scope (.seq .o (.seq .o (.seq .o (.seq .o (.seq (.block (.loop [.slot 5 .slice, .slot 6 .slice] [] (.seq (.seq .o (.cond .o .o)) (.block (.seq .o (.seq .o (.seq (.seq .o (.seq .o (.cond (.seq .o .o) .o))) (.seq .o (.seq .o (.cond .o .o)))))))))) (.seq .o .o))))))))
theorem sh_unpack_open.is (CV : CVT) (h0 : Option Addr) (l0 : SV) (w : World) (R : Value → World → Prop) : sh_unpack_open h0 l0 (fun r0 w' => R (.slice r0.a r0.len r0.cap) w') w = denF (cx_hier_Hier_Halves.with CV) Try.f36 sh_unpack_open.plan [.v (.pointer h0), .v (.slice l0.a l0.len l0.cap)] w R := by kernel_rfl
theorem sh_unpack_open.calls (CV : CVT) (h0 : Option Addr) (l0 : SV) (hcv : CVOk Try.prog CV) {w : World} {R : Ending → World → Prop} (h : sh_unpack_open h0 l0 (fun r0 w' => R (.returned (.slice r0.a r0.len r0.cap)) w') w) : Calls Try.prog 36 #[(.pointer h0), (.slice l0.a l0.len l0.cap)] w R :=
  calls_is (cx := cx_hier_Hier_Halves.with CV) mixed_Try (cx_hier_Hier_Halves.ok.with CV) hcv Try.func36 sh_unpack_open.plan (xs := [.v (.pointer h0), .v (.slice l0.a l0.len l0.cap)]) ((args_cons _ (args_cons _ args_nil))) (by kernel_rfl) (sh_unpack_open.is CV h0 l0 w (fun v w' => R (.returned v) w')) h
def sh_unpack_open.o : CVT → List X → (Value → World → Prop) → World → Prop
  | CV, [.v (.pointer h0), .v (.slice l0_a l0_l l0_c)], K, w => sh_unpack_open h0 ⟨l0_a, l0_l, l0_c⟩ (fun r0 w' => K (.slice r0.a r0.len r0.cap) w') w
  | _, _, _, _ => False
def sh_unpack_open.q : CVT → List X → World → (Value → Prop) → Prop
  | CV, [.v (.pointer h0), .v (.slice l0_a l0_l l0_c)], w, K => Quiet (SV) (fun r => (.slice r.a r.len r.cap)) (fun K1 w' => sh_unpack_open h0 ⟨l0_a, l0_l, l0_c⟩ (fun r0 w'' => K1 r0 w'') w') w (fun r => K (.slice r.a r.len r.cap))
  | _, _, _, _ => False
noncomputable def cx_unpack_open : Cx := Cx.add Try.prog cx_hier_Hier_Halves 36 sh_unpack_open.o sh_unpack_open.q
theorem cx_unpack_open.ok : CxOk cx_unpack_open := by
  refine CxOk.add cx_hier_Hier_Halves.ok rfl (fun CV hcv xs K w hx h => ?_) (fun CV hcv xs K w hx h => ?_)
  · unfold sh_unpack_open.o at h; split at h
    · rename_i h0 l0_a l0_l l0_c; exact sh_unpack_open.calls CV h0 ⟨l0_a, l0_l, l0_c⟩ hcv h
    · exact h.elim
  · unfold sh_unpack_open.q at h; split at h
    · rename_i h0 l0_a l0_l l0_c; obtain ⟨r, h1, h2⟩ := h; exact ⟨_, h2, fun w' e => sh_unpack_open.calls CV h0 ⟨l0_a, l0_l, l0_c⟩ hcv (h1 w' e)⟩
    · exact h.elim
def sh_unpack_Open.plan : Plan := (.seq .o (.seq .o .o))
theorem sh_unpack_Open.is (CV : CVT) (h0 : Option Addr) (k0 : Int) (w : World) (R : Value → World → Prop) : sh_unpack_Open h0 k0 (fun r0 w' => R (.slice r0.a r0.len r0.cap) w') w = denF (cx_unpack_open.with CV) Try.f14 sh_unpack_Open.plan [.v (.pointer h0), .v (.int .i64 k0)] w R := by kernel_rfl
theorem sh_unpack_Open.calls (CV : CVT) (h0 : Option Addr) (k0 : Int) (hcv : CVOk Try.prog CV) {w : World} {R : Ending → World → Prop} (h : sh_unpack_Open h0 k0 (fun r0 w' => R (.returned (.slice r0.a r0.len r0.cap)) w') w) : Calls Try.prog 14 #[(.pointer h0), (.int .i64 k0)] w R :=
  calls_is (cx := cx_unpack_open.with CV) mixed_Try (cx_unpack_open.ok.with CV) hcv Try.func14 sh_unpack_Open.plan (xs := [.v (.pointer h0), .v (.int .i64 k0)]) ((args_cons _ (args_cons _ args_nil))) (by kernel_rfl) (sh_unpack_Open.is CV h0 k0 w (fun v w' => R (.returned v) w')) h
def sh_unpack_Open.o : CVT → List X → (Value → World → Prop) → World → Prop
  | CV, [.v (.pointer h0), .v (.int .i64 k0)], K, w => sh_unpack_Open h0 k0 (fun r0 w' => K (.slice r0.a r0.len r0.cap) w') w
  | _, _, _, _ => False
def sh_unpack_Open.q : CVT → List X → World → (Value → Prop) → Prop
  | CV, [.v (.pointer h0), .v (.int .i64 k0)], w, K => Quiet (SV) (fun r => (.slice r.a r.len r.cap)) (fun K1 w' => sh_unpack_Open h0 k0 (fun r0 w'' => K1 r0 w'') w') w (fun r => K (.slice r.a r.len r.cap))
  | _, _, _, _ => False
noncomputable def cx_unpack_Open : Cx := Cx.add Try.prog cx_unpack_open 14 sh_unpack_Open.o sh_unpack_Open.q
theorem cx_unpack_Open.ok : CxOk cx_unpack_Open := by
  refine CxOk.add cx_unpack_open.ok rfl (fun CV hcv xs K w hx h => ?_) (fun CV hcv xs K w hx h => ?_)
  · unfold sh_unpack_Open.o at h; split at h
    · rename_i h0 k0; exact sh_unpack_Open.calls CV h0 k0 hcv h
    · exact h.elim
  · unfold sh_unpack_Open.q at h; split at h
    · rename_i h0 k0; obtain ⟨r, h1, h2⟩ := h; exact ⟨_, h2, fun w' e => sh_unpack_Open.calls CV h0 k0 hcv (h1 w' e)⟩
    · exact h.elim
def sh_postroadref00_SameInts.plan : Plan := (.seq .o (.seq (.seq .o (.cond (.seq .o .o) .o)) (.seq (.seq .o (.block (.loop [.slot 5 (.int .i64)] [] (.seq (.seq .o (.cond .o .o)) (.seq (.block (.seq (.draw [] [.pure, .pure, .pure, .quiet, .pure, .pure, .pure, .quiet, .pure] [0, 1, 2, 3, 4, 5, 6, 7, 8]) (.cond (.seq .o .o) .o))) .o))))) (.seq .o .o))))
theorem sh_postroadref00_SameInts.is (CV : CVT) (a0 : SV) (b0 : SV) (w : World) (R : Value → World → Prop) : sh_postroadref00_SameInts a0 b0 (fun r0 w' => R (.bool r0) w') w = denF (cx_unpack_Open.with CV) Try.f13 sh_postroadref00_SameInts.plan [.v (.slice a0.a a0.len a0.cap), .v (.slice b0.a b0.len b0.cap)] w R := by kernel_rfl
theorem sh_postroadref00_SameInts.calls (CV : CVT) (a0 : SV) (b0 : SV) (hcv : CVOk Try.prog CV) {w : World} {R : Ending → World → Prop} (h : sh_postroadref00_SameInts a0 b0 (fun r0 w' => R (.returned (.bool r0)) w') w) : Calls Try.prog 13 #[(.slice a0.a a0.len a0.cap), (.slice b0.a b0.len b0.cap)] w R :=
  calls_is (cx := cx_unpack_Open.with CV) mixed_Try (cx_unpack_Open.ok.with CV) hcv Try.func13 sh_postroadref00_SameInts.plan (xs := [.v (.slice a0.a a0.len a0.cap), .v (.slice b0.a b0.len b0.cap)]) ((args_cons _ (args_cons _ args_nil))) (by kernel_rfl) (sh_postroadref00_SameInts.is CV a0 b0 w (fun v w' => R (.returned v) w')) h
def sh_postroadref00_SameInts.o : CVT → List X → (Value → World → Prop) → World → Prop
  | CV, [.v (.slice a0_a a0_l a0_c), .v (.slice b0_a b0_l b0_c)], K, w => sh_postroadref00_SameInts ⟨a0_a, a0_l, a0_c⟩ ⟨b0_a, b0_l, b0_c⟩ (fun r0 w' => K (.bool r0) w') w
  | _, _, _, _ => False
def sh_postroadref00_SameInts.q : CVT → List X → World → (Value → Prop) → Prop
  | CV, [.v (.slice a0_a a0_l a0_c), .v (.slice b0_a b0_l b0_c)], w, K => Quiet (Bool) (fun r => (.bool r)) (fun K1 w' => sh_postroadref00_SameInts ⟨a0_a, a0_l, a0_c⟩ ⟨b0_a, b0_l, b0_c⟩ (fun r0 w'' => K1 r0 w'') w') w (fun r => K (.bool r))
  | _, _, _, _ => False
noncomputable def cx_postroadref00_SameInts : Cx := Cx.add Try.prog cx_unpack_Open 13 sh_postroadref00_SameInts.o sh_postroadref00_SameInts.q
theorem cx_postroadref00_SameInts.ok : CxOk cx_postroadref00_SameInts := by
  refine CxOk.add cx_unpack_Open.ok rfl (fun CV hcv xs K w hx h => ?_) (fun CV hcv xs K w hx h => ?_)
  · unfold sh_postroadref00_SameInts.o at h; split at h
    · rename_i a0_a a0_l a0_c b0_a b0_l b0_c; exact sh_postroadref00_SameInts.calls CV ⟨a0_a, a0_l, a0_c⟩ ⟨b0_a, b0_l, b0_c⟩ hcv h
    · exact h.elim
  · unfold sh_postroadref00_SameInts.q at h; split at h
    · rename_i a0_a a0_l a0_c b0_a b0_l b0_c; obtain ⟨r, h1, h2⟩ := h; exact ⟨_, h2, fun w' e => sh_postroadref00_SameInts.calls CV ⟨a0_a, a0_l, a0_c⟩ ⟨b0_a, b0_l, b0_c⟩ hcv (h1 w' e)⟩
    · exact h.elim
def sh_unpack_Deep.plan : Plan := (.seq .o (.seq (.seq .o (.seq .o (.cond (.seq .o .o) .o))) (.seq .o (.seq (.seq .o (.cond (.seq .o .o) .o)) (.seq .o .o)))))
def sh_unpack_Deep.or (rec_ : Option Addr → Int → (Int → World → Prop) → World → Prop) : CVT → List X → (Value → World → Prop) → World → Prop
  | _, [.v (.pointer h0), .v (.int .i64 k0)], K, w => rec_ h0 k0 (fun r0 w' => K (.int .i64 r0) w') w
  | _, _, _, _ => False
def sh_unpack_Deep.qr (rec_ : Option Addr → Int → (Int → World → Prop) → World → Prop) : CVT → List X → World → (Value → Prop) → Prop
  | _, [.v (.pointer h0), .v (.int .i64 k0)], w, K => Quiet (Int) (fun r => (.int .i64 r)) (fun K1 w' => rec_ h0 k0 (fun r0 w'' => K1 r0 w'') w') w (fun r => K (.int .i64 r))
  | _, _, _, _ => False
noncomputable def cx_unpack_Deep.r (rec_ : Option Addr → Int → (Int → World → Prop) → World → Prop) : Cx := Cx.add Try.prog cx_postroadref00_SameInts 16 (sh_unpack_Deep.or rec_) (sh_unpack_Deep.qr rec_)
theorem sh_unpack_Deep.is (rec_ : Option Addr → Int → (Int → World → Prop) → World → Prop) (CV : CVT) (h0 : Option Addr) (k0 : Int) (w : World) (R : Value → World → Prop) : sh_unpack_Deep.step rec_ h0 k0 (fun r0 w' => R (.int .i64 r0) w') w = denF ((cx_unpack_Deep.r rec_).with CV) Try.f16 sh_unpack_Deep.plan [.v (.pointer h0), .v (.int .i64 k0)] w R := by kernel_rfl
theorem cx_unpack_Deep.rok (rec_ : Option Addr → Int → (Int → World → Prop) → World → Prop) (hr : ∀ (h0 : Option Addr) (k0 : Int) (w : World) (R : Ending → World → Prop), rec_ h0 k0 (fun r0 w' => R (.returned (.int .i64 r0)) w') w → Calls Try.prog 16 #[(.pointer h0), (.int .i64 k0)] w R) : CxOk (cx_unpack_Deep.r rec_) := by
  refine CxOk.add cx_postroadref00_SameInts.ok rfl (fun CV hcv xs K w hx h => ?_) (fun CV hcv xs K w hx h => ?_)
  · unfold sh_unpack_Deep.or at h; split at h
    · rename_i h0 k0; exact hr h0 k0 _ _ h
    · exact h.elim
  · unfold sh_unpack_Deep.qr at h; split at h
    · rename_i h0 k0; obtain ⟨r, h1, h2⟩ := h; exact ⟨_, h2, fun w' e => hr h0 k0 _ _ (h1 w' e)⟩
    · exact h.elim
theorem sh_unpack_Deep.calls_n : ∀ n : Nat, ∀ (h0 : Option Addr) (k0 : Int) (w : World) (R : Ending → World → Prop), sh_unpack_Deep.n n h0 k0 (fun r0 w' => R (.returned (.int .i64 r0)) w') w → Calls Try.prog 16 #[(.pointer h0), (.int .i64 k0)] w R
  | 0 => fun _ _ _ _ h => h.elim
  | n + 1 => fun h0 k0 w _ h => calls_is (cx := (cx_unpack_Deep.r (sh_unpack_Deep.n n)).with noCV) mixed_Try ((cx_unpack_Deep.rok _ (sh_unpack_Deep.calls_n n)).with noCV) (noCV_ok _) Try.func16 sh_unpack_Deep.plan (xs := [.v (.pointer h0), .v (.int .i64 k0)]) ((args_cons _ (args_cons _ args_nil))) (by kernel_rfl) (sh_unpack_Deep.is (sh_unpack_Deep.n n) noCV h0 k0 w _) h
theorem sh_unpack_Deep.calls (CV : CVT) (h0 : Option Addr) (k0 : Int) (_ : CVOk Try.prog CV) {w : World} {R : Ending → World → Prop} (h : sh_unpack_Deep h0 k0 (fun r0 w' => R (.returned (.int .i64 r0)) w') w) : Calls Try.prog 16 #[(.pointer h0), (.int .i64 k0)] w R := by
  obtain ⟨n, h⟩ := h; exact sh_unpack_Deep.calls_n n h0 k0 _ _ h
def sh_unpack_Deep.o : CVT → List X → (Value → World → Prop) → World → Prop
  | CV, [.v (.pointer h0), .v (.int .i64 k0)], K, w => sh_unpack_Deep h0 k0 (fun r0 w' => K (.int .i64 r0) w') w
  | _, _, _, _ => False
def sh_unpack_Deep.q : CVT → List X → World → (Value → Prop) → Prop
  | CV, [.v (.pointer h0), .v (.int .i64 k0)], w, K => Quiet (Int) (fun r => (.int .i64 r)) (fun K1 w' => sh_unpack_Deep h0 k0 (fun r0 w'' => K1 r0 w'') w') w (fun r => K (.int .i64 r))
  | _, _, _, _ => False
noncomputable def cx_unpack_Deep : Cx := Cx.add Try.prog cx_postroadref00_SameInts 16 sh_unpack_Deep.o sh_unpack_Deep.q
theorem cx_unpack_Deep.ok : CxOk cx_unpack_Deep := by
  refine CxOk.add cx_postroadref00_SameInts.ok rfl (fun CV hcv xs K w hx h => ?_) (fun CV hcv xs K w hx h => ?_)
  · unfold sh_unpack_Deep.o at h; split at h
    · rename_i h0 k0; exact sh_unpack_Deep.calls CV h0 k0 hcv h
    · exact h.elim
  · unfold sh_unpack_Deep.q at h; split at h
    · rename_i h0 k0; obtain ⟨r, h1, h2⟩ := h; exact ⟨_, h2, fun w' e => sh_unpack_Deep.calls CV h0 k0 hcv (h1 w' e)⟩
    · exact h.elim
def sh_postroadlaw13_known.plan : Plan := (.seq .o (.seq .o (.seq .o .o)))
theorem sh_postroadlaw13_known.is (CV : CVT) (w : World) (R : Value → World → Prop) : sh_postroadlaw13_known  (fun r0 w' => R (.bool r0) w') w = denF (cx_unpack_Deep.with CV) Try.f11 sh_postroadlaw13_known.plan [] w R := by kernel_rfl
theorem sh_postroadlaw13_known.calls (CV : CVT) (hcv : CVOk Try.prog CV) {w : World} {R : Ending → World → Prop} (h : sh_postroadlaw13_known  (fun r0 w' => R (.returned (.bool r0)) w') w) : Calls Try.prog 11 #[] w R :=
  calls_is (cx := cx_unpack_Deep.with CV) mixed_Try (cx_unpack_Deep.ok.with CV) hcv Try.func11 sh_postroadlaw13_known.plan (xs := []) (args_nil) (by kernel_rfl) (sh_postroadlaw13_known.is CV w (fun v w' => R (.returned v) w')) h
def sh_postroadlaw13_known.o : CVT → List X → (Value → World → Prop) → World → Prop
  | CV, [], K, w => sh_postroadlaw13_known  (fun r0 w' => K (.bool r0) w') w
  | _, _, _, _ => False
def sh_postroadlaw13_known.q : CVT → List X → World → (Value → Prop) → Prop
  | CV, [], w, K => Quiet (Bool) (fun r => (.bool r)) (fun K1 w' => sh_postroadlaw13_known  (fun r0 w'' => K1 r0 w'') w') w (fun r => K (.bool r))
  | _, _, _, _ => False
noncomputable def cx_postroadlaw13_known : Cx := Cx.add Try.prog cx_unpack_Deep 11 sh_postroadlaw13_known.o sh_postroadlaw13_known.q
theorem cx_postroadlaw13_known.ok : CxOk cx_postroadlaw13_known := by
  refine CxOk.add cx_unpack_Deep.ok rfl (fun CV hcv xs K w hx h => ?_) (fun CV hcv xs K w hx h => ?_)
  · unfold sh_postroadlaw13_known.o at h; split at h
    · exact sh_postroadlaw13_known.calls CV hcv h
    · exact h.elim
  · unfold sh_postroadlaw13_known.q at h; split at h
    · obtain ⟨r, h1, h2⟩ := h; exact ⟨_, h2, fun w' e => sh_postroadlaw13_known.calls CV hcv (h1 w' e)⟩
    · exact h.elim
def sh_postroadref10_Halves.plan : Plan := (.seq .o (.seq (.seq .o (.cond (.seq .o .o) .o)) (.seq .o (.seq (.draw [] [.loc, .pure, .loc, .pure, .pure, .loc, .quiet, .loc, .pure, .pure, .loc, .pure, .loc, .quiet, .pure, .pure, .pure] [0, 1, 2, 3, 4, 5, 6, 7, 8, 9, 10, 11, 12, 13, 14, 15, 16]) .o))))
theorem sh_postroadref10_Halves.is (CV : CVT) (h0_Rank : SV) (h0_Ways : SV) (k0 : Int) (w : World) (R : Value → World → Prop) : sh_postroadref10_Halves h0_Rank h0_Ways k0 (fun r0 r1 r2 w' => R (.tuple #[(.int .i64 r0), (.int .i64 r1), (.bool r2)]) w') w = denF (cx_postroadlaw13_known.with CV) Try.f37 sh_postroadref10_Halves.plan [.v (.agg #[(.slice h0_Rank.a h0_Rank.len h0_Rank.cap), (.slice h0_Ways.a h0_Ways.len h0_Ways.cap)]), .v (.int .i64 k0)] w R := by kernel_rfl
theorem sh_postroadref10_Halves.calls (CV : CVT) (h0_Rank : SV) (h0_Ways : SV) (k0 : Int) (hcv : CVOk Try.prog CV) {w : World} {R : Ending → World → Prop} (h : sh_postroadref10_Halves h0_Rank h0_Ways k0 (fun r0 r1 r2 w' => R (.returned (.tuple #[(.int .i64 r0), (.int .i64 r1), (.bool r2)])) w') w) : Calls Try.prog 37 #[(.agg #[(.slice h0_Rank.a h0_Rank.len h0_Rank.cap), (.slice h0_Ways.a h0_Ways.len h0_Ways.cap)]), (.int .i64 k0)] w R :=
  calls_is (cx := cx_postroadlaw13_known.with CV) mixed_Try (cx_postroadlaw13_known.ok.with CV) hcv Try.func37 sh_postroadref10_Halves.plan (xs := [.v (.agg #[(.slice h0_Rank.a h0_Rank.len h0_Rank.cap), (.slice h0_Ways.a h0_Ways.len h0_Ways.cap)]), .v (.int .i64 k0)]) ((args_cons _ (args_cons _ args_nil))) (by kernel_rfl) (sh_postroadref10_Halves.is CV h0_Rank h0_Ways k0 w (fun v w' => R (.returned v) w')) h
def sh_postroadref10_Halves.o : CVT → List X → (Value → World → Prop) → World → Prop
  | CV, [.v (.agg ⟨[.slice h0_Rank_a h0_Rank_l h0_Rank_c, .slice h0_Ways_a h0_Ways_l h0_Ways_c]⟩), .v (.int .i64 k0)], K, w => sh_postroadref10_Halves ⟨h0_Rank_a, h0_Rank_l, h0_Rank_c⟩ ⟨h0_Ways_a, h0_Ways_l, h0_Ways_c⟩ k0 (fun r0 r1 r2 w' => K (.tuple #[(.int .i64 r0), (.int .i64 r1), (.bool r2)]) w') w
  | _, _, _, _ => False
def sh_postroadref10_Halves.q : CVT → List X → World → (Value → Prop) → Prop
  | CV, [.v (.agg ⟨[.slice h0_Rank_a h0_Rank_l h0_Rank_c, .slice h0_Ways_a h0_Ways_l h0_Ways_c]⟩), .v (.int .i64 k0)], w, K => Quiet (Int × Int × Bool) (fun r => (.tuple #[(.int .i64 r.1), (.int .i64 r.2.1), (.bool r.2.2)])) (fun K1 w' => sh_postroadref10_Halves ⟨h0_Rank_a, h0_Rank_l, h0_Rank_c⟩ ⟨h0_Ways_a, h0_Ways_l, h0_Ways_c⟩ k0 (fun r0 r1 r2 w'' => K1 (r0, r1, r2) w'') w') w (fun r => K (.tuple #[(.int .i64 r.1), (.int .i64 r.2.1), (.bool r.2.2)]))
  | _, _, _, _ => False
noncomputable def cx_postroadref10_Halves : Cx := Cx.add Try.prog cx_postroadlaw13_known 37 sh_postroadref10_Halves.o sh_postroadref10_Halves.q
theorem cx_postroadref10_Halves.ok : CxOk cx_postroadref10_Halves := by
  refine CxOk.add cx_postroadlaw13_known.ok rfl (fun CV hcv xs K w hx h => ?_) (fun CV hcv xs K w hx h => ?_)
  · unfold sh_postroadref10_Halves.o at h; split at h
    · rename_i h0_Rank_a h0_Rank_l h0_Rank_c h0_Ways_a h0_Ways_l h0_Ways_c k0; exact sh_postroadref10_Halves.calls CV ⟨h0_Rank_a, h0_Rank_l, h0_Rank_c⟩ ⟨h0_Ways_a, h0_Ways_l, h0_Ways_c⟩ k0 hcv h
    · exact h.elim
  · unfold sh_postroadref10_Halves.q at h; split at h
    · rename_i h0_Rank_a h0_Rank_l h0_Rank_c h0_Ways_a h0_Ways_l h0_Ways_c k0; obtain ⟨r, h1, h2⟩ := h; exact ⟨_, h2, fun w' e => sh_postroadref10_Halves.calls CV ⟨h0_Rank_a, h0_Rank_l, h0_Rank_c⟩ ⟨h0_Ways_a, h0_Ways_l, h0_Ways_c⟩ k0 hcv (h1 w' e)⟩
    · exact h.elim
def sh_postroadref13_Open.plan : Plan := (.seq .o (.seq (.seq .o (.cond (.seq .o .o) .o)) (.seq .o (.seq (.seq .o (.cond (.seq .o .o) .o)) (.seq .o (.seq .o .o))))))
def sh_postroadref13_Open.or (rec_ : SV → SV → Int → (SV → World → Prop) → World → Prop) : CVT → List X → (Value → World → Prop) → World → Prop
  | _, [.v (.agg ⟨[.slice h0_Rank_a h0_Rank_l h0_Rank_c, .slice h0_Ways_a h0_Ways_l h0_Ways_c]⟩), .v (.int .i64 k0)], K, w => rec_ ⟨h0_Rank_a, h0_Rank_l, h0_Rank_c⟩ ⟨h0_Ways_a, h0_Ways_l, h0_Ways_c⟩ k0 (fun r0 w' => K (.slice r0.a r0.len r0.cap) w') w
  | _, _, _, _ => False
def sh_postroadref13_Open.qr (rec_ : SV → SV → Int → (SV → World → Prop) → World → Prop) : CVT → List X → World → (Value → Prop) → Prop
  | _, [.v (.agg ⟨[.slice h0_Rank_a h0_Rank_l h0_Rank_c, .slice h0_Ways_a h0_Ways_l h0_Ways_c]⟩), .v (.int .i64 k0)], w, K => Quiet (SV) (fun r => (.slice r.a r.len r.cap)) (fun K1 w' => rec_ ⟨h0_Rank_a, h0_Rank_l, h0_Rank_c⟩ ⟨h0_Ways_a, h0_Ways_l, h0_Ways_c⟩ k0 (fun r0 w'' => K1 r0 w'') w') w (fun r => K (.slice r.a r.len r.cap))
  | _, _, _, _ => False
noncomputable def cx_postroadref13_Open.r (rec_ : SV → SV → Int → (SV → World → Prop) → World → Prop) : Cx := Cx.add Try.prog cx_postroadref10_Halves 15 (sh_postroadref13_Open.or rec_) (sh_postroadref13_Open.qr rec_)
theorem sh_postroadref13_Open.is (rec_ : SV → SV → Int → (SV → World → Prop) → World → Prop) (CV : CVT) (h0_Rank : SV) (h0_Ways : SV) (k0 : Int) (w : World) (R : Value → World → Prop) : sh_postroadref13_Open.step rec_ h0_Rank h0_Ways k0 (fun r0 w' => R (.slice r0.a r0.len r0.cap) w') w = denF ((cx_postroadref13_Open.r rec_).with CV) Try.f15 sh_postroadref13_Open.plan [.v (.agg #[(.slice h0_Rank.a h0_Rank.len h0_Rank.cap), (.slice h0_Ways.a h0_Ways.len h0_Ways.cap)]), .v (.int .i64 k0)] w R := by kernel_rfl
theorem cx_postroadref13_Open.rok (rec_ : SV → SV → Int → (SV → World → Prop) → World → Prop) (hr : ∀ (h0_Rank : SV) (h0_Ways : SV) (k0 : Int) (w : World) (R : Ending → World → Prop), rec_ h0_Rank h0_Ways k0 (fun r0 w' => R (.returned (.slice r0.a r0.len r0.cap)) w') w → Calls Try.prog 15 #[(.agg #[(.slice h0_Rank.a h0_Rank.len h0_Rank.cap), (.slice h0_Ways.a h0_Ways.len h0_Ways.cap)]), (.int .i64 k0)] w R) : CxOk (cx_postroadref13_Open.r rec_) := by
  refine CxOk.add cx_postroadref10_Halves.ok rfl (fun CV hcv xs K w hx h => ?_) (fun CV hcv xs K w hx h => ?_)
  · unfold sh_postroadref13_Open.or at h; split at h
    · rename_i h0_Rank_a h0_Rank_l h0_Rank_c h0_Ways_a h0_Ways_l h0_Ways_c k0; exact hr ⟨h0_Rank_a, h0_Rank_l, h0_Rank_c⟩ ⟨h0_Ways_a, h0_Ways_l, h0_Ways_c⟩ k0 _ _ h
    · exact h.elim
  · unfold sh_postroadref13_Open.qr at h; split at h
    · rename_i h0_Rank_a h0_Rank_l h0_Rank_c h0_Ways_a h0_Ways_l h0_Ways_c k0; obtain ⟨r, h1, h2⟩ := h; exact ⟨_, h2, fun w' e => hr ⟨h0_Rank_a, h0_Rank_l, h0_Rank_c⟩ ⟨h0_Ways_a, h0_Ways_l, h0_Ways_c⟩ k0 _ _ (h1 w' e)⟩
    · exact h.elim
theorem sh_postroadref13_Open.calls_n : ∀ n : Nat, ∀ (h0_Rank : SV) (h0_Ways : SV) (k0 : Int) (w : World) (R : Ending → World → Prop), sh_postroadref13_Open.n n h0_Rank h0_Ways k0 (fun r0 w' => R (.returned (.slice r0.a r0.len r0.cap)) w') w → Calls Try.prog 15 #[(.agg #[(.slice h0_Rank.a h0_Rank.len h0_Rank.cap), (.slice h0_Ways.a h0_Ways.len h0_Ways.cap)]), (.int .i64 k0)] w R
  | 0 => fun _ _ _ _ _ h => h.elim
  | n + 1 => fun h0_Rank h0_Ways k0 w _ h => calls_is (cx := (cx_postroadref13_Open.r (sh_postroadref13_Open.n n)).with noCV) mixed_Try ((cx_postroadref13_Open.rok _ (sh_postroadref13_Open.calls_n n)).with noCV) (noCV_ok _) Try.func15 sh_postroadref13_Open.plan (xs := [.v (.agg #[(.slice h0_Rank.a h0_Rank.len h0_Rank.cap), (.slice h0_Ways.a h0_Ways.len h0_Ways.cap)]), .v (.int .i64 k0)]) ((args_cons _ (args_cons _ args_nil))) (by kernel_rfl) (sh_postroadref13_Open.is (sh_postroadref13_Open.n n) noCV h0_Rank h0_Ways k0 w _) h
theorem sh_postroadref13_Open.calls (CV : CVT) (h0_Rank : SV) (h0_Ways : SV) (k0 : Int) (_ : CVOk Try.prog CV) {w : World} {R : Ending → World → Prop} (h : sh_postroadref13_Open h0_Rank h0_Ways k0 (fun r0 w' => R (.returned (.slice r0.a r0.len r0.cap)) w') w) : Calls Try.prog 15 #[(.agg #[(.slice h0_Rank.a h0_Rank.len h0_Rank.cap), (.slice h0_Ways.a h0_Ways.len h0_Ways.cap)]), (.int .i64 k0)] w R := by
  obtain ⟨n, h⟩ := h; exact sh_postroadref13_Open.calls_n n h0_Rank h0_Ways k0 _ _ h
def sh_postroadref13_Open.o : CVT → List X → (Value → World → Prop) → World → Prop
  | CV, [.v (.agg ⟨[.slice h0_Rank_a h0_Rank_l h0_Rank_c, .slice h0_Ways_a h0_Ways_l h0_Ways_c]⟩), .v (.int .i64 k0)], K, w => sh_postroadref13_Open ⟨h0_Rank_a, h0_Rank_l, h0_Rank_c⟩ ⟨h0_Ways_a, h0_Ways_l, h0_Ways_c⟩ k0 (fun r0 w' => K (.slice r0.a r0.len r0.cap) w') w
  | _, _, _, _ => False
def sh_postroadref13_Open.q : CVT → List X → World → (Value → Prop) → Prop
  | CV, [.v (.agg ⟨[.slice h0_Rank_a h0_Rank_l h0_Rank_c, .slice h0_Ways_a h0_Ways_l h0_Ways_c]⟩), .v (.int .i64 k0)], w, K => Quiet (SV) (fun r => (.slice r.a r.len r.cap)) (fun K1 w' => sh_postroadref13_Open ⟨h0_Rank_a, h0_Rank_l, h0_Rank_c⟩ ⟨h0_Ways_a, h0_Ways_l, h0_Ways_c⟩ k0 (fun r0 w'' => K1 r0 w'') w') w (fun r => K (.slice r.a r.len r.cap))
  | _, _, _, _ => False
noncomputable def cx_postroadref13_Open : Cx := Cx.add Try.prog cx_postroadref10_Halves 15 sh_postroadref13_Open.o sh_postroadref13_Open.q
theorem cx_postroadref13_Open.ok : CxOk cx_postroadref13_Open := by
  refine CxOk.add cx_postroadref10_Halves.ok rfl (fun CV hcv xs K w hx h => ?_) (fun CV hcv xs K w hx h => ?_)
  · unfold sh_postroadref13_Open.o at h; split at h
    · rename_i h0_Rank_a h0_Rank_l h0_Rank_c h0_Ways_a h0_Ways_l h0_Ways_c k0; exact sh_postroadref13_Open.calls CV ⟨h0_Rank_a, h0_Rank_l, h0_Rank_c⟩ ⟨h0_Ways_a, h0_Ways_l, h0_Ways_c⟩ k0 hcv h
    · exact h.elim
  · unfold sh_postroadref13_Open.q at h; split at h
    · rename_i h0_Rank_a h0_Rank_l h0_Rank_c h0_Ways_a h0_Ways_l h0_Ways_c k0; obtain ⟨r, h1, h2⟩ := h; exact ⟨_, h2, fun w' e => sh_postroadref13_Open.calls CV ⟨h0_Rank_a, h0_Rank_l, h0_Rank_c⟩ ⟨h0_Ways_a, h0_Ways_l, h0_Ways_c⟩ k0 hcv (h1 w' e)⟩
    · exact h.elim
def sh_postroadref13_Deep.plan : Plan := (.seq .o (.seq (.seq .o (.cond (.seq .o .o) .o)) (.seq .o (.seq (.seq .o (.cond (.seq .o .o) .o)) (.seq (.draw [] [.loc, .pure, .quiet, .loc, .pure, .quiet, .pure, .pure, .pure] [0, 1, 2, 3, 4, 5, 6, 7, 8]) .o)))))
def sh_postroadref13_Deep.or (rec_ : SV → SV → Int → (Int → World → Prop) → World → Prop) : CVT → List X → (Value → World → Prop) → World → Prop
  | _, [.v (.agg ⟨[.slice h0_Rank_a h0_Rank_l h0_Rank_c, .slice h0_Ways_a h0_Ways_l h0_Ways_c]⟩), .v (.int .i64 k0)], K, w => rec_ ⟨h0_Rank_a, h0_Rank_l, h0_Rank_c⟩ ⟨h0_Ways_a, h0_Ways_l, h0_Ways_c⟩ k0 (fun r0 w' => K (.int .i64 r0) w') w
  | _, _, _, _ => False
def sh_postroadref13_Deep.qr (rec_ : SV → SV → Int → (Int → World → Prop) → World → Prop) : CVT → List X → World → (Value → Prop) → Prop
  | _, [.v (.agg ⟨[.slice h0_Rank_a h0_Rank_l h0_Rank_c, .slice h0_Ways_a h0_Ways_l h0_Ways_c]⟩), .v (.int .i64 k0)], w, K => Quiet (Int) (fun r => (.int .i64 r)) (fun K1 w' => rec_ ⟨h0_Rank_a, h0_Rank_l, h0_Rank_c⟩ ⟨h0_Ways_a, h0_Ways_l, h0_Ways_c⟩ k0 (fun r0 w'' => K1 r0 w'') w') w (fun r => K (.int .i64 r))
  | _, _, _, _ => False
noncomputable def cx_postroadref13_Deep.r (rec_ : SV → SV → Int → (Int → World → Prop) → World → Prop) : Cx := Cx.add Try.prog cx_postroadref13_Open 17 (sh_postroadref13_Deep.or rec_) (sh_postroadref13_Deep.qr rec_)
theorem sh_postroadref13_Deep.is (rec_ : SV → SV → Int → (Int → World → Prop) → World → Prop) (CV : CVT) (h0_Rank : SV) (h0_Ways : SV) (k0 : Int) (w : World) (R : Value → World → Prop) : sh_postroadref13_Deep.step rec_ h0_Rank h0_Ways k0 (fun r0 w' => R (.int .i64 r0) w') w = denF ((cx_postroadref13_Deep.r rec_).with CV) Try.f17 sh_postroadref13_Deep.plan [.v (.agg #[(.slice h0_Rank.a h0_Rank.len h0_Rank.cap), (.slice h0_Ways.a h0_Ways.len h0_Ways.cap)]), .v (.int .i64 k0)] w R := by kernel_rfl
theorem cx_postroadref13_Deep.rok (rec_ : SV → SV → Int → (Int → World → Prop) → World → Prop) (hr : ∀ (h0_Rank : SV) (h0_Ways : SV) (k0 : Int) (w : World) (R : Ending → World → Prop), rec_ h0_Rank h0_Ways k0 (fun r0 w' => R (.returned (.int .i64 r0)) w') w → Calls Try.prog 17 #[(.agg #[(.slice h0_Rank.a h0_Rank.len h0_Rank.cap), (.slice h0_Ways.a h0_Ways.len h0_Ways.cap)]), (.int .i64 k0)] w R) : CxOk (cx_postroadref13_Deep.r rec_) := by
  refine CxOk.add cx_postroadref13_Open.ok rfl (fun CV hcv xs K w hx h => ?_) (fun CV hcv xs K w hx h => ?_)
  · unfold sh_postroadref13_Deep.or at h; split at h
    · rename_i h0_Rank_a h0_Rank_l h0_Rank_c h0_Ways_a h0_Ways_l h0_Ways_c k0; exact hr ⟨h0_Rank_a, h0_Rank_l, h0_Rank_c⟩ ⟨h0_Ways_a, h0_Ways_l, h0_Ways_c⟩ k0 _ _ h
    · exact h.elim
  · unfold sh_postroadref13_Deep.qr at h; split at h
    · rename_i h0_Rank_a h0_Rank_l h0_Rank_c h0_Ways_a h0_Ways_l h0_Ways_c k0; obtain ⟨r, h1, h2⟩ := h; exact ⟨_, h2, fun w' e => hr ⟨h0_Rank_a, h0_Rank_l, h0_Rank_c⟩ ⟨h0_Ways_a, h0_Ways_l, h0_Ways_c⟩ k0 _ _ (h1 w' e)⟩
    · exact h.elim
theorem sh_postroadref13_Deep.calls_n : ∀ n : Nat, ∀ (h0_Rank : SV) (h0_Ways : SV) (k0 : Int) (w : World) (R : Ending → World → Prop), sh_postroadref13_Deep.n n h0_Rank h0_Ways k0 (fun r0 w' => R (.returned (.int .i64 r0)) w') w → Calls Try.prog 17 #[(.agg #[(.slice h0_Rank.a h0_Rank.len h0_Rank.cap), (.slice h0_Ways.a h0_Ways.len h0_Ways.cap)]), (.int .i64 k0)] w R
  | 0 => fun _ _ _ _ _ h => h.elim
  | n + 1 => fun h0_Rank h0_Ways k0 w _ h => calls_is (cx := (cx_postroadref13_Deep.r (sh_postroadref13_Deep.n n)).with noCV) mixed_Try ((cx_postroadref13_Deep.rok _ (sh_postroadref13_Deep.calls_n n)).with noCV) (noCV_ok _) Try.func17 sh_postroadref13_Deep.plan (xs := [.v (.agg #[(.slice h0_Rank.a h0_Rank.len h0_Rank.cap), (.slice h0_Ways.a h0_Ways.len h0_Ways.cap)]), .v (.int .i64 k0)]) ((args_cons _ (args_cons _ args_nil))) (by kernel_rfl) (sh_postroadref13_Deep.is (sh_postroadref13_Deep.n n) noCV h0_Rank h0_Ways k0 w _) h
theorem sh_postroadref13_Deep.calls (CV : CVT) (h0_Rank : SV) (h0_Ways : SV) (k0 : Int) (_ : CVOk Try.prog CV) {w : World} {R : Ending → World → Prop} (h : sh_postroadref13_Deep h0_Rank h0_Ways k0 (fun r0 w' => R (.returned (.int .i64 r0)) w') w) : Calls Try.prog 17 #[(.agg #[(.slice h0_Rank.a h0_Rank.len h0_Rank.cap), (.slice h0_Ways.a h0_Ways.len h0_Ways.cap)]), (.int .i64 k0)] w R := by
  obtain ⟨n, h⟩ := h; exact sh_postroadref13_Deep.calls_n n h0_Rank h0_Ways k0 _ _ h
def sh_postroadref13_Deep.o : CVT → List X → (Value → World → Prop) → World → Prop
  | CV, [.v (.agg ⟨[.slice h0_Rank_a h0_Rank_l h0_Rank_c, .slice h0_Ways_a h0_Ways_l h0_Ways_c]⟩), .v (.int .i64 k0)], K, w => sh_postroadref13_Deep ⟨h0_Rank_a, h0_Rank_l, h0_Rank_c⟩ ⟨h0_Ways_a, h0_Ways_l, h0_Ways_c⟩ k0 (fun r0 w' => K (.int .i64 r0) w') w
  | _, _, _, _ => False
def sh_postroadref13_Deep.q : CVT → List X → World → (Value → Prop) → Prop
  | CV, [.v (.agg ⟨[.slice h0_Rank_a h0_Rank_l h0_Rank_c, .slice h0_Ways_a h0_Ways_l h0_Ways_c]⟩), .v (.int .i64 k0)], w, K => Quiet (Int) (fun r => (.int .i64 r)) (fun K1 w' => sh_postroadref13_Deep ⟨h0_Rank_a, h0_Rank_l, h0_Rank_c⟩ ⟨h0_Ways_a, h0_Ways_l, h0_Ways_c⟩ k0 (fun r0 w'' => K1 r0 w'') w') w (fun r => K (.int .i64 r))
  | _, _, _, _ => False
noncomputable def cx_postroadref13_Deep : Cx := Cx.add Try.prog cx_postroadref13_Open 17 sh_postroadref13_Deep.o sh_postroadref13_Deep.q
theorem cx_postroadref13_Deep.ok : CxOk cx_postroadref13_Deep := by
  refine CxOk.add cx_postroadref13_Open.ok rfl (fun CV hcv xs K w hx h => ?_) (fun CV hcv xs K w hx h => ?_)
  · unfold sh_postroadref13_Deep.o at h; split at h
    · rename_i h0_Rank_a h0_Rank_l h0_Rank_c h0_Ways_a h0_Ways_l h0_Ways_c k0; exact sh_postroadref13_Deep.calls CV ⟨h0_Rank_a, h0_Rank_l, h0_Rank_c⟩ ⟨h0_Ways_a, h0_Ways_l, h0_Ways_c⟩ k0 hcv h
    · exact h.elim
  · unfold sh_postroadref13_Deep.q at h; split at h
    · rename_i h0_Rank_a h0_Rank_l h0_Rank_c h0_Ways_a h0_Ways_l h0_Ways_c k0; obtain ⟨r, h1, h2⟩ := h; exact ⟨_, h2, fun w' e => sh_postroadref13_Deep.calls CV ⟨h0_Rank_a, h0_Rank_l, h0_Rank_c⟩ ⟨h0_Ways_a, h0_Ways_l, h0_Ways_c⟩ k0 hcv (h1 w' e)⟩
    · exact h.elim
def sh_postroadlaw13_UnpackOpens.plan : Plan := (.seq .o (.seq (.seq .o (.cond (.seq .o .o) .o)) (.seq .o (.join [] [] (.seq .o (.block (.loop [.slot 4 (.int .i64)] [] (.seq (.seq .o (.cond .o .o)) (.seq (.block (.seq (.draw [] [.pure, .pure, .big, .rd, .pure, .big, .quiet, .pure, .pure, .pure, .pure, .quiet, .loc, .pure, .quiet, .pure, .pure] [0, 1, 3, 4, 2, 5, 6, 7, 8, 9, 10, 11, 12, 13, 14, 15, 16]) (.cond (.seq .o .o) .o))) .o))))) (.seq .o .o)))))
theorem sh_postroadlaw13_UnpackOpens.is (CV : CVT) (h0_Rank : SV) (h0_Ways : SV) (w : World) (R : Value → World → Prop) : sh_postroadlaw13_UnpackOpens h0_Rank h0_Ways (fun r0 w' => R (.bool r0) w') w = denF (cx_postroadref13_Deep.with CV) Try.f3 sh_postroadlaw13_UnpackOpens.plan [.v (.agg #[(.slice h0_Rank.a h0_Rank.len h0_Rank.cap), (.slice h0_Ways.a h0_Ways.len h0_Ways.cap)])] w R := by kernel_rfl
theorem sh_postroadlaw13_UnpackOpens.calls (CV : CVT) (h0_Rank : SV) (h0_Ways : SV) (hcv : CVOk Try.prog CV) {w : World} {R : Ending → World → Prop} (h : sh_postroadlaw13_UnpackOpens h0_Rank h0_Ways (fun r0 w' => R (.returned (.bool r0)) w') w) : Calls Try.prog 3 #[(.agg #[(.slice h0_Rank.a h0_Rank.len h0_Rank.cap), (.slice h0_Ways.a h0_Ways.len h0_Ways.cap)])] w R :=
  calls_is (cx := cx_postroadref13_Deep.with CV) mixed_Try (cx_postroadref13_Deep.ok.with CV) hcv Try.func3 sh_postroadlaw13_UnpackOpens.plan (xs := [.v (.agg #[(.slice h0_Rank.a h0_Rank.len h0_Rank.cap), (.slice h0_Ways.a h0_Ways.len h0_Ways.cap)])]) ((args_cons _ args_nil)) (by kernel_rfl) (sh_postroadlaw13_UnpackOpens.is CV h0_Rank h0_Ways w (fun v w' => R (.returned v) w')) h
def sh_postroadlaw13_UnpackOpens.o : CVT → List X → (Value → World → Prop) → World → Prop
  | CV, [.v (.agg ⟨[.slice h0_Rank_a h0_Rank_l h0_Rank_c, .slice h0_Ways_a h0_Ways_l h0_Ways_c]⟩)], K, w => sh_postroadlaw13_UnpackOpens ⟨h0_Rank_a, h0_Rank_l, h0_Rank_c⟩ ⟨h0_Ways_a, h0_Ways_l, h0_Ways_c⟩ (fun r0 w' => K (.bool r0) w') w
  | _, _, _, _ => False
def sh_postroadlaw13_UnpackOpens.q : CVT → List X → World → (Value → Prop) → Prop
  | CV, [.v (.agg ⟨[.slice h0_Rank_a h0_Rank_l h0_Rank_c, .slice h0_Ways_a h0_Ways_l h0_Ways_c]⟩)], w, K => Quiet (Bool) (fun r => (.bool r)) (fun K1 w' => sh_postroadlaw13_UnpackOpens ⟨h0_Rank_a, h0_Rank_l, h0_Rank_c⟩ ⟨h0_Ways_a, h0_Ways_l, h0_Ways_c⟩ (fun r0 w'' => K1 r0 w'') w') w (fun r => K (.bool r))
  | _, _, _, _ => False
noncomputable def cx_postroadlaw13_UnpackOpens : Cx := Cx.add Try.prog cx_postroadref13_Deep 3 sh_postroadlaw13_UnpackOpens.o sh_postroadlaw13_UnpackOpens.q
theorem cx_postroadlaw13_UnpackOpens.ok : CxOk cx_postroadlaw13_UnpackOpens := by
  refine CxOk.add cx_postroadref13_Deep.ok rfl (fun CV hcv xs K w hx h => ?_) (fun CV hcv xs K w hx h => ?_)
  · unfold sh_postroadlaw13_UnpackOpens.o at h; split at h
    · rename_i h0_Rank_a h0_Rank_l h0_Rank_c h0_Ways_a h0_Ways_l h0_Ways_c; exact sh_postroadlaw13_UnpackOpens.calls CV ⟨h0_Rank_a, h0_Rank_l, h0_Rank_c⟩ ⟨h0_Ways_a, h0_Ways_l, h0_Ways_c⟩ hcv h
    · exact h.elim
  · unfold sh_postroadlaw13_UnpackOpens.q at h; split at h
    · rename_i h0_Rank_a h0_Rank_l h0_Rank_c h0_Ways_a h0_Ways_l h0_Ways_c; obtain ⟨r, h1, h2⟩ := h; exact ⟨_, h2, fun w' e => sh_postroadlaw13_UnpackOpens.calls CV ⟨h0_Rank_a, h0_Rank_l, h0_Rank_c⟩ ⟨h0_Ways_a, h0_Ways_l, h0_Ways_c⟩ hcv (h1 w' e)⟩
    · exact h.elim
def sh_postroadref06_part.plan : Plan := (.seq .o (.seq .o (.seq (.seq .o (.cond (.seq .o .o) .o)) (.seq .o .o))))
theorem sh_postroadref06_part.is (CV : CVT) (x0 : Int) (n0 : Int) (w : World) (R : Value → World → Prop) : sh_postroadref06_part x0 n0 (fun r0 w' => R (.int .i64 r0) w') w = denF (cx_postroadlaw13_UnpackOpens.with CV) Try.f64 sh_postroadref06_part.plan [.v (.int .i64 x0), .v (.int .i64 n0)] w R := by kernel_rfl
theorem sh_postroadref06_part.calls (CV : CVT) (x0 : Int) (n0 : Int) (hcv : CVOk Try.prog CV) {w : World} {R : Ending → World → Prop} (h : sh_postroadref06_part x0 n0 (fun r0 w' => R (.returned (.int .i64 r0)) w') w) : Calls Try.prog 64 #[(.int .i64 x0), (.int .i64 n0)] w R :=
  calls_is (cx := cx_postroadlaw13_UnpackOpens.with CV) mixed_Try (cx_postroadlaw13_UnpackOpens.ok.with CV) hcv Try.func64 sh_postroadref06_part.plan (xs := [.v (.int .i64 x0), .v (.int .i64 n0)]) ((args_cons _ (args_cons _ args_nil))) (by kernel_rfl) (sh_postroadref06_part.is CV x0 n0 w (fun v w' => R (.returned v) w')) h
def sh_postroadref06_part.o : CVT → List X → (Value → World → Prop) → World → Prop
  | CV, [.v (.int .i64 x0), .v (.int .i64 n0)], K, w => sh_postroadref06_part x0 n0 (fun r0 w' => K (.int .i64 r0) w') w
  | _, _, _, _ => False
def sh_postroadref06_part.q : CVT → List X → World → (Value → Prop) → Prop
  | CV, [.v (.int .i64 x0), .v (.int .i64 n0)], w, K => Quiet (Int) (fun r => (.int .i64 r)) (fun K1 w' => sh_postroadref06_part x0 n0 (fun r0 w'' => K1 r0 w'') w') w (fun r => K (.int .i64 r))
  | _, _, _, _ => False
noncomputable def cx_postroadref06_part : Cx := Cx.add Try.prog cx_postroadlaw13_UnpackOpens 64 sh_postroadref06_part.o sh_postroadref06_part.q
theorem cx_postroadref06_part.ok : CxOk cx_postroadref06_part := by
  refine CxOk.add cx_postroadlaw13_UnpackOpens.ok rfl (fun CV hcv xs K w hx h => ?_) (fun CV hcv xs K w hx h => ?_)
  · unfold sh_postroadref06_part.o at h; split at h
    · rename_i x0 n0; exact sh_postroadref06_part.calls CV x0 n0 hcv h
    · exact h.elim
  · unfold sh_postroadref06_part.q at h; split at h
    · rename_i x0 n0; obtain ⟨r, h1, h2⟩ := h; exact ⟨_, h2, fun w' e => sh_postroadref06_part.calls CV x0 n0 hcv (h1 w' e)⟩
    · exact h.elim
def sh_postroadref06_Of.plan : Plan := (.seq .o (.seq .o (.seq .o (.join [.box 5 [(.int .i64), .slice]] [] (.seq .o (.block (.loop [.slot 6 (.int .i64), .box 5 [(.int .i64), .slice]] [] (.seq (.seq .o (.cond .o .o)) (.seq (.block (.seq .o (.draw [] [.pure, .loc, .pure, .loc, .pure, .quiet, .pure, .loc, .pure, .quiet, .pure, .loc, .quiet, .pure, .new, .big, .pure, .big] [0, 1, 2, 3, 4, 5, 6, 7, 8, 9, 10, 11, 12, 13, 14, 15, 16, 17]))) .o))))) (.seq .o .o)))))
theorem sh_postroadref06_Of.is (CV : CVT) (n0 : Int) (arcs0 : SV) (w : World) (R : Value → World → Prop) : sh_postroadref06_Of n0 arcs0 (fun r0 r1 w' => R (.agg #[(.int .i64 r0), (.slice r1.a r1.len r1.cap)]) w') w = denF (cx_postroadref06_part.with CV) Try.f38 sh_postroadref06_Of.plan [.v (.int .i64 n0), .v (.slice arcs0.a arcs0.len arcs0.cap)] w R := by kernel_rfl
theorem sh_postroadref06_Of.calls (CV : CVT) (n0 : Int) (arcs0 : SV) (hcv : CVOk Try.prog CV) {w : World} {R : Ending → World → Prop} (h : sh_postroadref06_Of n0 arcs0 (fun r0 r1 w' => R (.returned (.agg #[(.int .i64 r0), (.slice r1.a r1.len r1.cap)])) w') w) : Calls Try.prog 38 #[(.int .i64 n0), (.slice arcs0.a arcs0.len arcs0.cap)] w R :=
  calls_is (cx := cx_postroadref06_part.with CV) mixed_Try (cx_postroadref06_part.ok.with CV) hcv Try.func38 sh_postroadref06_Of.plan (xs := [.v (.int .i64 n0), .v (.slice arcs0.a arcs0.len arcs0.cap)]) ((args_cons _ (args_cons _ args_nil))) (by kernel_rfl) (sh_postroadref06_Of.is CV n0 arcs0 w (fun v w' => R (.returned v) w')) h
def sh_postroadref06_Of.o : CVT → List X → (Value → World → Prop) → World → Prop
  | CV, [.v (.int .i64 n0), .v (.slice arcs0_a arcs0_l arcs0_c)], K, w => sh_postroadref06_Of n0 ⟨arcs0_a, arcs0_l, arcs0_c⟩ (fun r0 r1 w' => K (.agg #[(.int .i64 r0), (.slice r1.a r1.len r1.cap)]) w') w
  | _, _, _, _ => False
def sh_postroadref06_Of.q : CVT → List X → World → (Value → Prop) → Prop
  | CV, [.v (.int .i64 n0), .v (.slice arcs0_a arcs0_l arcs0_c)], w, K => Quiet (Int × SV) (fun r => (.agg #[(.int .i64 r.1), (.slice r.2.a r.2.len r.2.cap)])) (fun K1 w' => sh_postroadref06_Of n0 ⟨arcs0_a, arcs0_l, arcs0_c⟩ (fun r0 r1 w'' => K1 (r0, r1) w'') w') w (fun r => K (.agg #[(.int .i64 r.1), (.slice r.2.a r.2.len r.2.cap)]))
  | _, _, _, _ => False
noncomputable def cx_postroadref06_Of : Cx := Cx.add Try.prog cx_postroadref06_part 38 sh_postroadref06_Of.o sh_postroadref06_Of.q
theorem cx_postroadref06_Of.ok : CxOk cx_postroadref06_Of := by
  refine CxOk.add cx_postroadref06_part.ok rfl (fun CV hcv xs K w hx h => ?_) (fun CV hcv xs K w hx h => ?_)
  · unfold sh_postroadref06_Of.o at h; split at h
    · rename_i n0 arcs0_a arcs0_l arcs0_c; exact sh_postroadref06_Of.calls CV n0 ⟨arcs0_a, arcs0_l, arcs0_c⟩ hcv h
    · exact h.elim
  · unfold sh_postroadref06_Of.q at h; split at h
    · rename_i n0 arcs0_a arcs0_l arcs0_c; obtain ⟨r, h1, h2⟩ := h; exact ⟨_, h2, fun w' e => sh_postroadref06_Of.calls CV n0 ⟨arcs0_a, arcs0_l, arcs0_c⟩ hcv (h1 w' e)⟩
    · exact h.elim
def sh_postroadref07_Of.plan : Plan := (.seq .o (.seq .o .o))
theorem sh_postroadref07_Of.is (CV : CVT) (n0 : Int) (arcs0 : SV) (w : World) (R : Value → World → Prop) : sh_postroadref07_Of n0 arcs0 (fun r0 r1 w' => R (.agg #[(.int .i64 r0), (.slice r1.a r1.len r1.cap)]) w') w = denF (cx_postroadref06_Of.with CV) Try.f18 sh_postroadref07_Of.plan [.v (.int .i64 n0), .v (.slice arcs0.a arcs0.len arcs0.cap)] w R := by kernel_rfl
theorem sh_postroadref07_Of.calls (CV : CVT) (n0 : Int) (arcs0 : SV) (hcv : CVOk Try.prog CV) {w : World} {R : Ending → World → Prop} (h : sh_postroadref07_Of n0 arcs0 (fun r0 r1 w' => R (.returned (.agg #[(.int .i64 r0), (.slice r1.a r1.len r1.cap)])) w') w) : Calls Try.prog 18 #[(.int .i64 n0), (.slice arcs0.a arcs0.len arcs0.cap)] w R :=
  calls_is (cx := cx_postroadref06_Of.with CV) mixed_Try (cx_postroadref06_Of.ok.with CV) hcv Try.func18 sh_postroadref07_Of.plan (xs := [.v (.int .i64 n0), .v (.slice arcs0.a arcs0.len arcs0.cap)]) ((args_cons _ (args_cons _ args_nil))) (by kernel_rfl) (sh_postroadref07_Of.is CV n0 arcs0 w (fun v w' => R (.returned v) w')) h
def sh_postroadref07_Of.o : CVT → List X → (Value → World → Prop) → World → Prop
  | CV, [.v (.int .i64 n0), .v (.slice arcs0_a arcs0_l arcs0_c)], K, w => sh_postroadref07_Of n0 ⟨arcs0_a, arcs0_l, arcs0_c⟩ (fun r0 r1 w' => K (.agg #[(.int .i64 r0), (.slice r1.a r1.len r1.cap)]) w') w
  | _, _, _, _ => False
def sh_postroadref07_Of.q : CVT → List X → World → (Value → Prop) → Prop
  | CV, [.v (.int .i64 n0), .v (.slice arcs0_a arcs0_l arcs0_c)], w, K => Quiet (Int × SV) (fun r => (.agg #[(.int .i64 r.1), (.slice r.2.a r.2.len r.2.cap)])) (fun K1 w' => sh_postroadref07_Of n0 ⟨arcs0_a, arcs0_l, arcs0_c⟩ (fun r0 r1 w'' => K1 (r0, r1) w'') w') w (fun r => K (.agg #[(.int .i64 r.1), (.slice r.2.a r.2.len r.2.cap)]))
  | _, _, _, _ => False
noncomputable def cx_postroadref07_Of : Cx := Cx.add Try.prog cx_postroadref06_Of 18 sh_postroadref07_Of.o sh_postroadref07_Of.q
theorem cx_postroadref07_Of.ok : CxOk cx_postroadref07_Of := by
  refine CxOk.add cx_postroadref06_Of.ok rfl (fun CV hcv xs K w hx h => ?_) (fun CV hcv xs K w hx h => ?_)
  · unfold sh_postroadref07_Of.o at h; split at h
    · rename_i n0 arcs0_a arcs0_l arcs0_c; exact sh_postroadref07_Of.calls CV n0 ⟨arcs0_a, arcs0_l, arcs0_c⟩ hcv h
    · exact h.elim
  · unfold sh_postroadref07_Of.q at h; split at h
    · rename_i n0 arcs0_a arcs0_l arcs0_c; obtain ⟨r, h1, h2⟩ := h; exact ⟨_, h2, fun w' e => sh_postroadref07_Of.calls CV n0 ⟨arcs0_a, arcs0_l, arcs0_c⟩ hcv (h1 w' e)⟩
    · exact h.elim
def sh_postroadref05_Check.plan : Plan := (.seq .o (.seq (.seq .o (.cond (.seq .o .o) .o)) (.seq (.seq .o (.cond (.seq .o .o) .o)) (.seq (.seq .o (.block (.loop [.slot 3 (.int .i64)] [] (.seq (.seq .o (.cond .o .o)) (.seq (.block (.seq .o (.seq .o (.cond (.seq .o .o) .o)))) .o))))) (.seq .o .o)))))
theorem sh_postroadref05_Check.is (CV : CVT) (m0_N : Int) (m0_Arcs : SV) (w : World) (R : Value → World → Prop) : sh_postroadref05_Check m0_N m0_Arcs (fun r0 w' => R (.int .i64 r0) w') w = denF (cx_postroadref07_Of.with CV) Try.f41 sh_postroadref05_Check.plan [.v (.agg #[(.int .i64 m0_N), (.slice m0_Arcs.a m0_Arcs.len m0_Arcs.cap)])] w R := by kernel_rfl
theorem sh_postroadref05_Check.calls (CV : CVT) (m0_N : Int) (m0_Arcs : SV) (hcv : CVOk Try.prog CV) {w : World} {R : Ending → World → Prop} (h : sh_postroadref05_Check m0_N m0_Arcs (fun r0 w' => R (.returned (.int .i64 r0)) w') w) : Calls Try.prog 41 #[(.agg #[(.int .i64 m0_N), (.slice m0_Arcs.a m0_Arcs.len m0_Arcs.cap)])] w R :=
  calls_is (cx := cx_postroadref07_Of.with CV) mixed_Try (cx_postroadref07_Of.ok.with CV) hcv Try.func41 sh_postroadref05_Check.plan (xs := [.v (.agg #[(.int .i64 m0_N), (.slice m0_Arcs.a m0_Arcs.len m0_Arcs.cap)])]) ((args_cons _ args_nil)) (by kernel_rfl) (sh_postroadref05_Check.is CV m0_N m0_Arcs w (fun v w' => R (.returned v) w')) h
def sh_postroadref05_Check.o : CVT → List X → (Value → World → Prop) → World → Prop
  | CV, [.v (.agg ⟨[.int .i64 m0_N, .slice m0_Arcs_a m0_Arcs_l m0_Arcs_c]⟩)], K, w => sh_postroadref05_Check m0_N ⟨m0_Arcs_a, m0_Arcs_l, m0_Arcs_c⟩ (fun r0 w' => K (.int .i64 r0) w') w
  | _, _, _, _ => False
def sh_postroadref05_Check.q : CVT → List X → World → (Value → Prop) → Prop
  | CV, [.v (.agg ⟨[.int .i64 m0_N, .slice m0_Arcs_a m0_Arcs_l m0_Arcs_c]⟩)], w, K => Quiet (Int) (fun r => (.int .i64 r)) (fun K1 w' => sh_postroadref05_Check m0_N ⟨m0_Arcs_a, m0_Arcs_l, m0_Arcs_c⟩ (fun r0 w'' => K1 r0 w'') w') w (fun r => K (.int .i64 r))
  | _, _, _, _ => False
noncomputable def cx_postroadref05_Check : Cx := Cx.add Try.prog cx_postroadref07_Of 41 sh_postroadref05_Check.o sh_postroadref05_Check.q
theorem cx_postroadref05_Check.ok : CxOk cx_postroadref05_Check := by
  refine CxOk.add cx_postroadref07_Of.ok rfl (fun CV hcv xs K w hx h => ?_) (fun CV hcv xs K w hx h => ?_)
  · unfold sh_postroadref05_Check.o at h; split at h
    · rename_i m0_N m0_Arcs_a m0_Arcs_l m0_Arcs_c; exact sh_postroadref05_Check.calls CV m0_N ⟨m0_Arcs_a, m0_Arcs_l, m0_Arcs_c⟩ hcv h
    · exact h.elim
  · unfold sh_postroadref05_Check.q at h; split at h
    · rename_i m0_N m0_Arcs_a m0_Arcs_l m0_Arcs_c; obtain ⟨r, h1, h2⟩ := h; exact ⟨_, h2, fun w' e => sh_postroadref05_Check.calls CV m0_N ⟨m0_Arcs_a, m0_Arcs_l, m0_Arcs_c⟩ hcv (h1 w' e)⟩
    · exact h.elim
def sh_postroadref06_counts.plan : Plan := (.seq .o (.seq .o (.seq (.seq .o (.cond (.seq .o .o) .o)) (.seq (.seq .o (.block (.loop [.slot 6 (.int .i64)] [] (.seq (.seq .o (.cond .o .o)) (.join [] [] (.block (.seq .o (.seq .o (.cond (.seq .o .o) .o)))) .o))))) (.seq .o .o)))))
theorem sh_postroadref06_counts.is (CV : CVT) (m0_N : Int) (m0_Arcs : SV) (k0 : Int) (w : World) (R : Value → World → Prop) : sh_postroadref06_counts m0_N m0_Arcs k0 (fun r0 w' => R (.bool r0) w') w = denF (cx_postroadref05_Check.with CV) Try.f65 sh_postroadref06_counts.plan [.v (.agg #[(.int .i64 m0_N), (.slice m0_Arcs.a m0_Arcs.len m0_Arcs.cap)]), .v (.int .i64 k0)] w R := by kernel_rfl
theorem sh_postroadref06_counts.calls (CV : CVT) (m0_N : Int) (m0_Arcs : SV) (k0 : Int) (hcv : CVOk Try.prog CV) {w : World} {R : Ending → World → Prop} (h : sh_postroadref06_counts m0_N m0_Arcs k0 (fun r0 w' => R (.returned (.bool r0)) w') w) : Calls Try.prog 65 #[(.agg #[(.int .i64 m0_N), (.slice m0_Arcs.a m0_Arcs.len m0_Arcs.cap)]), (.int .i64 k0)] w R :=
  calls_is (cx := cx_postroadref05_Check.with CV) mixed_Try (cx_postroadref05_Check.ok.with CV) hcv Try.func65 sh_postroadref06_counts.plan (xs := [.v (.agg #[(.int .i64 m0_N), (.slice m0_Arcs.a m0_Arcs.len m0_Arcs.cap)]), .v (.int .i64 k0)]) ((args_cons _ (args_cons _ args_nil))) (by kernel_rfl) (sh_postroadref06_counts.is CV m0_N m0_Arcs k0 w (fun v w' => R (.returned v) w')) h
def sh_postroadref06_counts.o : CVT → List X → (Value → World → Prop) → World → Prop
  | CV, [.v (.agg ⟨[.int .i64 m0_N, .slice m0_Arcs_a m0_Arcs_l m0_Arcs_c]⟩), .v (.int .i64 k0)], K, w => sh_postroadref06_counts m0_N ⟨m0_Arcs_a, m0_Arcs_l, m0_Arcs_c⟩ k0 (fun r0 w' => K (.bool r0) w') w
  | _, _, _, _ => False
def sh_postroadref06_counts.q : CVT → List X → World → (Value → Prop) → Prop
  | CV, [.v (.agg ⟨[.int .i64 m0_N, .slice m0_Arcs_a m0_Arcs_l m0_Arcs_c]⟩), .v (.int .i64 k0)], w, K => Quiet (Bool) (fun r => (.bool r)) (fun K1 w' => sh_postroadref06_counts m0_N ⟨m0_Arcs_a, m0_Arcs_l, m0_Arcs_c⟩ k0 (fun r0 w'' => K1 r0 w'') w') w (fun r => K (.bool r))
  | _, _, _, _ => False
noncomputable def cx_postroadref06_counts : Cx := Cx.add Try.prog cx_postroadref05_Check 65 sh_postroadref06_counts.o sh_postroadref06_counts.q
theorem cx_postroadref06_counts.ok : CxOk cx_postroadref06_counts := by
  refine CxOk.add cx_postroadref05_Check.ok rfl (fun CV hcv xs K w hx h => ?_) (fun CV hcv xs K w hx h => ?_)
  · unfold sh_postroadref06_counts.o at h; split at h
    · rename_i m0_N m0_Arcs_a m0_Arcs_l m0_Arcs_c k0; exact sh_postroadref06_counts.calls CV m0_N ⟨m0_Arcs_a, m0_Arcs_l, m0_Arcs_c⟩ k0 hcv h
    · exact h.elim
  · unfold sh_postroadref06_counts.q at h; split at h
    · rename_i m0_N m0_Arcs_a m0_Arcs_l m0_Arcs_c k0; obtain ⟨r, h1, h2⟩ := h; exact ⟨_, h2, fun w' e => sh_postroadref06_counts.calls CV m0_N ⟨m0_Arcs_a, m0_Arcs_l, m0_Arcs_c⟩ k0 hcv (h1 w' e)⟩
    · exact h.elim
def sh_postroadref06_New.plan : Plan := (.seq .o (.seq (.seq .o (.cond (.seq .o .o) .o)) (.seq .o (.join [.box 4 [(.int .i64), .slice, .slice]] [] (.seq .o (.block (.loop [.slot 5 (.int .i64), .box 4 [(.int .i64), .slice, .slice]] [] (.seq (.seq .o (.cond .o .o)) (.seq (.block (.seq .o (.join [.slot 6 (.int .i64)] [] (.seq .o (.cond .o .o)) .o))) .o))))) (.seq .o .o)))))
theorem sh_postroadref06_New.is (CV : CVT) (m0_N : Int) (m0_Arcs : SV) (w : World) (R : Value → World → Prop) : sh_postroadref06_New m0_N m0_Arcs (fun r0 r1 r2 r3 w' => R (.tuple #[(.agg #[(.int .i64 r0), (.slice r1.a r1.len r1.cap), (.slice r2.a r2.len r2.cap)]), (.bool r3)]) w') w = denF (cx_postroadref06_counts.with CV) Try.f39 sh_postroadref06_New.plan [.v (.agg #[(.int .i64 m0_N), (.slice m0_Arcs.a m0_Arcs.len m0_Arcs.cap)])] w R := by kernel_rfl
theorem sh_postroadref06_New.calls (CV : CVT) (m0_N : Int) (m0_Arcs : SV) (hcv : CVOk Try.prog CV) {w : World} {R : Ending → World → Prop} (h : sh_postroadref06_New m0_N m0_Arcs (fun r0 r1 r2 r3 w' => R (.returned (.tuple #[(.agg #[(.int .i64 r0), (.slice r1.a r1.len r1.cap), (.slice r2.a r2.len r2.cap)]), (.bool r3)])) w') w) : Calls Try.prog 39 #[(.agg #[(.int .i64 m0_N), (.slice m0_Arcs.a m0_Arcs.len m0_Arcs.cap)])] w R :=
  calls_is (cx := cx_postroadref06_counts.with CV) mixed_Try (cx_postroadref06_counts.ok.with CV) hcv Try.func39 sh_postroadref06_New.plan (xs := [.v (.agg #[(.int .i64 m0_N), (.slice m0_Arcs.a m0_Arcs.len m0_Arcs.cap)])]) ((args_cons _ args_nil)) (by kernel_rfl) (sh_postroadref06_New.is CV m0_N m0_Arcs w (fun v w' => R (.returned v) w')) h
def sh_postroadref06_New.o : CVT → List X → (Value → World → Prop) → World → Prop
  | CV, [.v (.agg ⟨[.int .i64 m0_N, .slice m0_Arcs_a m0_Arcs_l m0_Arcs_c]⟩)], K, w => sh_postroadref06_New m0_N ⟨m0_Arcs_a, m0_Arcs_l, m0_Arcs_c⟩ (fun r0 r1 r2 r3 w' => K (.tuple #[(.agg #[(.int .i64 r0), (.slice r1.a r1.len r1.cap), (.slice r2.a r2.len r2.cap)]), (.bool r3)]) w') w
  | _, _, _, _ => False
def sh_postroadref06_New.q : CVT → List X → World → (Value → Prop) → Prop
  | CV, [.v (.agg ⟨[.int .i64 m0_N, .slice m0_Arcs_a m0_Arcs_l m0_Arcs_c]⟩)], w, K => Quiet (Int × SV × SV × Bool) (fun r => (.tuple #[(.agg #[(.int .i64 r.1), (.slice r.2.1.a r.2.1.len r.2.1.cap), (.slice r.2.2.1.a r.2.2.1.len r.2.2.1.cap)]), (.bool r.2.2.2)])) (fun K1 w' => sh_postroadref06_New m0_N ⟨m0_Arcs_a, m0_Arcs_l, m0_Arcs_c⟩ (fun r0 r1 r2 r3 w'' => K1 (r0, r1, r2, r3) w'') w') w (fun r => K (.tuple #[(.agg #[(.int .i64 r.1), (.slice r.2.1.a r.2.1.len r.2.1.cap), (.slice r.2.2.1.a r.2.2.1.len r.2.2.1.cap)]), (.bool r.2.2.2)]))
  | _, _, _, _ => False
noncomputable def cx_postroadref06_New : Cx := Cx.add Try.prog cx_postroadref06_counts 39 sh_postroadref06_New.o sh_postroadref06_New.q
theorem cx_postroadref06_New.ok : CxOk cx_postroadref06_New := by
  refine CxOk.add cx_postroadref06_counts.ok rfl (fun CV hcv xs K w hx h => ?_) (fun CV hcv xs K w hx h => ?_)
  · unfold sh_postroadref06_New.o at h; split at h
    · rename_i m0_N m0_Arcs_a m0_Arcs_l m0_Arcs_c; exact sh_postroadref06_New.calls CV m0_N ⟨m0_Arcs_a, m0_Arcs_l, m0_Arcs_c⟩ hcv h
    · exact h.elim
  · unfold sh_postroadref06_New.q at h; split at h
    · rename_i m0_N m0_Arcs_a m0_Arcs_l m0_Arcs_c; obtain ⟨r, h1, h2⟩ := h; exact ⟨_, h2, fun w' e => sh_postroadref06_New.calls CV m0_N ⟨m0_Arcs_a, m0_Arcs_l, m0_Arcs_c⟩ hcv (h1 w' e)⟩
    · exact h.elim
def sh_postroadref06_put.plan : Plan := (.seq .o (.seq .o (.join [.slot 5 (.int .i64)] [] (.block (.loop [.slot 5 (.int .i64)] [] (.seq (.seq (.draw [] [.pure, .pure, .pure, .pure, .pure, .pure, .pure, .pure, .pure, .quiet, .pure, .loc, .pure, .pure] [0, 1, 2, 3, 4, 5, 6, 7, 8, 9, 10, 11, 12, 13]) (.cond .o .o)) (.block .o)))) (.seq .o (.seq .o (.seq .o (.seq .o .o)))))))
theorem sh_postroadref06_put.is (CV : CVT) (l0 : SV) (e0_V : Int) (e0_W : Int) (e0_Arc : Int) (w : World) (R : Value → World → Prop) : sh_postroadref06_put l0 e0_V e0_W e0_Arc (fun r0 w' => R (.slice r0.a r0.len r0.cap) w') w = denF (cx_postroadref06_New.with CV) Try.f100 sh_postroadref06_put.plan [.v (.slice l0.a l0.len l0.cap), .v (.agg #[(.int .i64 e0_V), (.int .i64 e0_W), (.int .i64 e0_Arc)])] w R := by kernel_rfl
theorem sh_postroadref06_put.calls (CV : CVT) (l0 : SV) (e0_V : Int) (e0_W : Int) (e0_Arc : Int) (hcv : CVOk Try.prog CV) {w : World} {R : Ending → World → Prop} (h : sh_postroadref06_put l0 e0_V e0_W e0_Arc (fun r0 w' => R (.returned (.slice r0.a r0.len r0.cap)) w') w) : Calls Try.prog 100 #[(.slice l0.a l0.len l0.cap), (.agg #[(.int .i64 e0_V), (.int .i64 e0_W), (.int .i64 e0_Arc)])] w R :=
  calls_is (cx := cx_postroadref06_New.with CV) mixed_Try (cx_postroadref06_New.ok.with CV) hcv Try.func100 sh_postroadref06_put.plan (xs := [.v (.slice l0.a l0.len l0.cap), .v (.agg #[(.int .i64 e0_V), (.int .i64 e0_W), (.int .i64 e0_Arc)])]) ((args_cons _ (args_cons _ args_nil))) (by kernel_rfl) (sh_postroadref06_put.is CV l0 e0_V e0_W e0_Arc w (fun v w' => R (.returned v) w')) h
def sh_postroadref06_put.o : CVT → List X → (Value → World → Prop) → World → Prop
  | CV, [.v (.slice l0_a l0_l l0_c), .v (.agg ⟨[.int .i64 e0_V, .int .i64 e0_W, .int .i64 e0_Arc]⟩)], K, w => sh_postroadref06_put ⟨l0_a, l0_l, l0_c⟩ e0_V e0_W e0_Arc (fun r0 w' => K (.slice r0.a r0.len r0.cap) w') w
  | _, _, _, _ => False
def sh_postroadref06_put.q : CVT → List X → World → (Value → Prop) → Prop
  | CV, [.v (.slice l0_a l0_l l0_c), .v (.agg ⟨[.int .i64 e0_V, .int .i64 e0_W, .int .i64 e0_Arc]⟩)], w, K => Quiet (SV) (fun r => (.slice r.a r.len r.cap)) (fun K1 w' => sh_postroadref06_put ⟨l0_a, l0_l, l0_c⟩ e0_V e0_W e0_Arc (fun r0 w'' => K1 r0 w'') w') w (fun r => K (.slice r.a r.len r.cap))
  | _, _, _, _ => False
noncomputable def cx_postroadref06_put : Cx := Cx.add Try.prog cx_postroadref06_New 100 sh_postroadref06_put.o sh_postroadref06_put.q
theorem cx_postroadref06_put.ok : CxOk cx_postroadref06_put := by
  refine CxOk.add cx_postroadref06_New.ok rfl (fun CV hcv xs K w hx h => ?_) (fun CV hcv xs K w hx h => ?_)
  · unfold sh_postroadref06_put.o at h; split at h
    · rename_i l0_a l0_l l0_c e0_V e0_W e0_Arc; exact sh_postroadref06_put.calls CV ⟨l0_a, l0_l, l0_c⟩ e0_V e0_W e0_Arc hcv h
    · exact h.elim
  · unfold sh_postroadref06_put.q at h; split at h
    · rename_i l0_a l0_l l0_c e0_V e0_W e0_Arc; obtain ⟨r, h1, h2⟩ := h; exact ⟨_, h2, fun w' e => sh_postroadref06_put.calls CV ⟨l0_a, l0_l, l0_c⟩ e0_V e0_W e0_Arc hcv (h1 w' e)⟩
    · exact h.elim
def sh_postroadref06_Out.plan : Plan := (.seq .o (.seq .o (.seq (.seq .o (.block (.loop [.slot 5 .slice, .slot 6 (.int .i64)] [] (.seq (.seq .o (.cond .o .o)) (.join [.slot 5 .slice] [] (.block (.seq .o (.cond (.draw [] [.pure, .pure, .pure, .loc, .pure, .pure, .pure, .quiet, .pure, .pure, .loc, .pure, .pure, .pure, .quiet, .pure, .pure, .big, .pure] [0, 1, 2, 3, 4, 5, 6, 7, 8, 9, 10, 11, 12, 13, 14, 15, 16, 17, 18]) .o))) .o))))) (.seq .o .o))))
theorem sh_postroadref06_Out.is (CV : CVT) (g0_M_N : Int) (g0_M_Arcs : SV) (g0_Kept : SV) (v0 : Int) (w : World) (R : Value → World → Prop) : sh_postroadref06_Out g0_M_N g0_M_Arcs g0_Kept v0 (fun r0 w' => R (.slice r0.a r0.len r0.cap) w') w = denF (cx_postroadref06_put.with CV) Try.f87 sh_postroadref06_Out.plan [.v (.agg #[(.int .i64 g0_M_N), (.slice g0_M_Arcs.a g0_M_Arcs.len g0_M_Arcs.cap), (.slice g0_Kept.a g0_Kept.len g0_Kept.cap)]), .v (.int .i64 v0)] w R := by kernel_rfl
theorem sh_postroadref06_Out.calls (CV : CVT) (g0_M_N : Int) (g0_M_Arcs : SV) (g0_Kept : SV) (v0 : Int) (hcv : CVOk Try.prog CV) {w : World} {R : Ending → World → Prop} (h : sh_postroadref06_Out g0_M_N g0_M_Arcs g0_Kept v0 (fun r0 w' => R (.returned (.slice r0.a r0.len r0.cap)) w') w) : Calls Try.prog 87 #[(.agg #[(.int .i64 g0_M_N), (.slice g0_M_Arcs.a g0_M_Arcs.len g0_M_Arcs.cap), (.slice g0_Kept.a g0_Kept.len g0_Kept.cap)]), (.int .i64 v0)] w R :=
  calls_is (cx := cx_postroadref06_put.with CV) mixed_Try (cx_postroadref06_put.ok.with CV) hcv Try.func87 sh_postroadref06_Out.plan (xs := [.v (.agg #[(.int .i64 g0_M_N), (.slice g0_M_Arcs.a g0_M_Arcs.len g0_M_Arcs.cap), (.slice g0_Kept.a g0_Kept.len g0_Kept.cap)]), .v (.int .i64 v0)]) ((args_cons _ (args_cons _ args_nil))) (by kernel_rfl) (sh_postroadref06_Out.is CV g0_M_N g0_M_Arcs g0_Kept v0 w (fun v w' => R (.returned v) w')) h
def sh_postroadref06_Out.o : CVT → List X → (Value → World → Prop) → World → Prop
  | CV, [.v (.agg ⟨[.int .i64 g0_M_N, .slice g0_M_Arcs_a g0_M_Arcs_l g0_M_Arcs_c, .slice g0_Kept_a g0_Kept_l g0_Kept_c]⟩), .v (.int .i64 v0)], K, w => sh_postroadref06_Out g0_M_N ⟨g0_M_Arcs_a, g0_M_Arcs_l, g0_M_Arcs_c⟩ ⟨g0_Kept_a, g0_Kept_l, g0_Kept_c⟩ v0 (fun r0 w' => K (.slice r0.a r0.len r0.cap) w') w
  | _, _, _, _ => False
def sh_postroadref06_Out.q : CVT → List X → World → (Value → Prop) → Prop
  | CV, [.v (.agg ⟨[.int .i64 g0_M_N, .slice g0_M_Arcs_a g0_M_Arcs_l g0_M_Arcs_c, .slice g0_Kept_a g0_Kept_l g0_Kept_c]⟩), .v (.int .i64 v0)], w, K => Quiet (SV) (fun r => (.slice r.a r.len r.cap)) (fun K1 w' => sh_postroadref06_Out g0_M_N ⟨g0_M_Arcs_a, g0_M_Arcs_l, g0_M_Arcs_c⟩ ⟨g0_Kept_a, g0_Kept_l, g0_Kept_c⟩ v0 (fun r0 w'' => K1 r0 w'') w') w (fun r => K (.slice r.a r.len r.cap))
  | _, _, _, _ => False
noncomputable def cx_postroadref06_Out : Cx := Cx.add Try.prog cx_postroadref06_put 87 sh_postroadref06_Out.o sh_postroadref06_Out.q
theorem cx_postroadref06_Out.ok : CxOk cx_postroadref06_Out := by
  refine CxOk.add cx_postroadref06_put.ok rfl (fun CV hcv xs K w hx h => ?_) (fun CV hcv xs K w hx h => ?_)
  · unfold sh_postroadref06_Out.o at h; split at h
    · rename_i g0_M_N g0_M_Arcs_a g0_M_Arcs_l g0_M_Arcs_c g0_Kept_a g0_Kept_l g0_Kept_c v0; exact sh_postroadref06_Out.calls CV g0_M_N ⟨g0_M_Arcs_a, g0_M_Arcs_l, g0_M_Arcs_c⟩ ⟨g0_Kept_a, g0_Kept_l, g0_Kept_c⟩ v0 hcv h
    · exact h.elim
  · unfold sh_postroadref06_Out.q at h; split at h
    · rename_i g0_M_N g0_M_Arcs_a g0_M_Arcs_l g0_M_Arcs_c g0_Kept_a g0_Kept_l g0_Kept_c v0; obtain ⟨r, h1, h2⟩ := h; exact ⟨_, h2, fun w' e => sh_postroadref06_Out.calls CV g0_M_N ⟨g0_M_Arcs_a, g0_M_Arcs_l, g0_M_Arcs_c⟩ ⟨g0_Kept_a, g0_Kept_l, g0_Kept_c⟩ v0 hcv (h1 w' e)⟩
    · exact h.elim
def sh_postroadref08_New.plan : Plan := (.seq .o (.seq .o (.join [.box 3 [(.int .i64), .slice, .slice, .slice]] [] (.seq .o (.block (.loop [.slot 4 (.int .i64), .box 3 [(.int .i64), .slice, .slice, .slice]] [] (.seq (.seq .o (.cond .o .o)) (.join [.box 3 [(.int .i64), .slice, .slice, .slice]] [] (.block (.seq .o (.seq .o (.seq .o (.seq .o (.block (.loop [.slot 6 (.int .i64), .box 3 [(.int .i64), .slice, .slice, .slice]] [] (.seq (.seq .o (.cond .o .o)) (.seq (.block (.draw [] [.pure, .loc, .pure, .pure, .pure, .pure, .pure, .quiet, .pure, .pure, .pure, .pure, .quiet, .pure, .pure, .pure, .pure, .quiet, .pure, .pure, .new, .big, .pure, .big] [0, 1, 2, 3, 4, 5, 6, 7, 8, 9, 10, 11, 12, 13, 14, 15, 16, 17, 18, 19, 20, 21, 22, 23])) .o))))))))) .o))))) (.seq .o .o))))
theorem sh_postroadref08_New.is (CV : CVT) (g0_M_N : Int) (g0_M_Arcs : SV) (g0_Kept : SV) (w : World) (R : Value → World → Prop) : sh_postroadref08_New g0_M_N g0_M_Arcs g0_Kept (fun r0 r1 r2 r3 w' => R (.agg #[(.int .i64 r0), (.slice r1.a r1.len r1.cap), (.slice r2.a r2.len r2.cap), (.slice r3.a r3.len r3.cap)]) w') w = denF (cx_postroadref06_Out.with CV) Try.f66 sh_postroadref08_New.plan [.v (.agg #[(.int .i64 g0_M_N), (.slice g0_M_Arcs.a g0_M_Arcs.len g0_M_Arcs.cap), (.slice g0_Kept.a g0_Kept.len g0_Kept.cap)])] w R := by kernel_rfl
theorem sh_postroadref08_New.calls (CV : CVT) (g0_M_N : Int) (g0_M_Arcs : SV) (g0_Kept : SV) (hcv : CVOk Try.prog CV) {w : World} {R : Ending → World → Prop} (h : sh_postroadref08_New g0_M_N g0_M_Arcs g0_Kept (fun r0 r1 r2 r3 w' => R (.returned (.agg #[(.int .i64 r0), (.slice r1.a r1.len r1.cap), (.slice r2.a r2.len r2.cap), (.slice r3.a r3.len r3.cap)])) w') w) : Calls Try.prog 66 #[(.agg #[(.int .i64 g0_M_N), (.slice g0_M_Arcs.a g0_M_Arcs.len g0_M_Arcs.cap), (.slice g0_Kept.a g0_Kept.len g0_Kept.cap)])] w R :=
  calls_is (cx := cx_postroadref06_Out.with CV) mixed_Try (cx_postroadref06_Out.ok.with CV) hcv Try.func66 sh_postroadref08_New.plan (xs := [.v (.agg #[(.int .i64 g0_M_N), (.slice g0_M_Arcs.a g0_M_Arcs.len g0_M_Arcs.cap), (.slice g0_Kept.a g0_Kept.len g0_Kept.cap)])]) ((args_cons _ args_nil)) (by kernel_rfl) (sh_postroadref08_New.is CV g0_M_N g0_M_Arcs g0_Kept w (fun v w' => R (.returned v) w')) h
def sh_postroadref08_New.o : CVT → List X → (Value → World → Prop) → World → Prop
  | CV, [.v (.agg ⟨[.int .i64 g0_M_N, .slice g0_M_Arcs_a g0_M_Arcs_l g0_M_Arcs_c, .slice g0_Kept_a g0_Kept_l g0_Kept_c]⟩)], K, w => sh_postroadref08_New g0_M_N ⟨g0_M_Arcs_a, g0_M_Arcs_l, g0_M_Arcs_c⟩ ⟨g0_Kept_a, g0_Kept_l, g0_Kept_c⟩ (fun r0 r1 r2 r3 w' => K (.agg #[(.int .i64 r0), (.slice r1.a r1.len r1.cap), (.slice r2.a r2.len r2.cap), (.slice r3.a r3.len r3.cap)]) w') w
  | _, _, _, _ => False
def sh_postroadref08_New.q : CVT → List X → World → (Value → Prop) → Prop
  | CV, [.v (.agg ⟨[.int .i64 g0_M_N, .slice g0_M_Arcs_a g0_M_Arcs_l g0_M_Arcs_c, .slice g0_Kept_a g0_Kept_l g0_Kept_c]⟩)], w, K => Quiet (Int × SV × SV × SV) (fun r => (.agg #[(.int .i64 r.1), (.slice r.2.1.a r.2.1.len r.2.1.cap), (.slice r.2.2.1.a r.2.2.1.len r.2.2.1.cap), (.slice r.2.2.2.a r.2.2.2.len r.2.2.2.cap)])) (fun K1 w' => sh_postroadref08_New g0_M_N ⟨g0_M_Arcs_a, g0_M_Arcs_l, g0_M_Arcs_c⟩ ⟨g0_Kept_a, g0_Kept_l, g0_Kept_c⟩ (fun r0 r1 r2 r3 w'' => K1 (r0, r1, r2, r3) w'') w') w (fun r => K (.agg #[(.int .i64 r.1), (.slice r.2.1.a r.2.1.len r.2.1.cap), (.slice r.2.2.1.a r.2.2.1.len r.2.2.1.cap), (.slice r.2.2.2.a r.2.2.2.len r.2.2.2.cap)]))
  | _, _, _, _ => False
noncomputable def cx_postroadref08_New : Cx := Cx.add Try.prog cx_postroadref06_Out 66 sh_postroadref08_New.o sh_postroadref08_New.q
theorem cx_postroadref08_New.ok : CxOk cx_postroadref08_New := by
  refine CxOk.add cx_postroadref06_Out.ok rfl (fun CV hcv xs K w hx h => ?_) (fun CV hcv xs K w hx h => ?_)
  · unfold sh_postroadref08_New.o at h; split at h
    · rename_i g0_M_N g0_M_Arcs_a g0_M_Arcs_l g0_M_Arcs_c g0_Kept_a g0_Kept_l g0_Kept_c; exact sh_postroadref08_New.calls CV g0_M_N ⟨g0_M_Arcs_a, g0_M_Arcs_l, g0_M_Arcs_c⟩ ⟨g0_Kept_a, g0_Kept_l, g0_Kept_c⟩ hcv h
    · exact h.elim
  · unfold sh_postroadref08_New.q at h; split at h
    · rename_i g0_M_N g0_M_Arcs_a g0_M_Arcs_l g0_M_Arcs_c g0_Kept_a g0_Kept_l g0_Kept_c; obtain ⟨r, h1, h2⟩ := h; exact ⟨_, h2, fun w' e => sh_postroadref08_New.calls CV g0_M_N ⟨g0_M_Arcs_a, g0_M_Arcs_l, g0_M_Arcs_c⟩ ⟨g0_Kept_a, g0_Kept_l, g0_Kept_c⟩ hcv (h1 w' e)⟩
    · exact h.elim
def sh_postroadref08_Places.plan : Plan := (.seq .o (.seq .o (.seq (.seq .o (.block (.loop [.slot 3 .slice, .slot 4 (.int .i64)] [] (.seq (.seq .o (.cond .o .o)) (.join [.slot 3 .slice] [] (.block (.seq .o (.cond .o .o))) .o))))) (.seq .o .o))))
theorem sh_postroadref08_Places.is (CV : CVT) (t0_N : Int) (t0_In : SV) (t0_L : SV) (t0_Lost : SV) (w : World) (R : Value → World → Prop) : sh_postroadref08_Places t0_N t0_In t0_L t0_Lost (fun r0 w' => R (.slice r0.a r0.len r0.cap) w') w = denF (cx_postroadref08_New.with CV) Try.f88 sh_postroadref08_Places.plan [.v (.agg #[(.int .i64 t0_N), (.slice t0_In.a t0_In.len t0_In.cap), (.slice t0_L.a t0_L.len t0_L.cap), (.slice t0_Lost.a t0_Lost.len t0_Lost.cap)])] w R := by kernel_rfl
theorem sh_postroadref08_Places.calls (CV : CVT) (t0_N : Int) (t0_In : SV) (t0_L : SV) (t0_Lost : SV) (hcv : CVOk Try.prog CV) {w : World} {R : Ending → World → Prop} (h : sh_postroadref08_Places t0_N t0_In t0_L t0_Lost (fun r0 w' => R (.returned (.slice r0.a r0.len r0.cap)) w') w) : Calls Try.prog 88 #[(.agg #[(.int .i64 t0_N), (.slice t0_In.a t0_In.len t0_In.cap), (.slice t0_L.a t0_L.len t0_L.cap), (.slice t0_Lost.a t0_Lost.len t0_Lost.cap)])] w R :=
  calls_is (cx := cx_postroadref08_New.with CV) mixed_Try (cx_postroadref08_New.ok.with CV) hcv Try.func88 sh_postroadref08_Places.plan (xs := [.v (.agg #[(.int .i64 t0_N), (.slice t0_In.a t0_In.len t0_In.cap), (.slice t0_L.a t0_L.len t0_L.cap), (.slice t0_Lost.a t0_Lost.len t0_Lost.cap)])]) ((args_cons _ args_nil)) (by kernel_rfl) (sh_postroadref08_Places.is CV t0_N t0_In t0_L t0_Lost w (fun v w' => R (.returned v) w')) h
def sh_postroadref08_Places.o : CVT → List X → (Value → World → Prop) → World → Prop
  | CV, [.v (.agg ⟨[.int .i64 t0_N, .slice t0_In_a t0_In_l t0_In_c, .slice t0_L_a t0_L_l t0_L_c, .slice t0_Lost_a t0_Lost_l t0_Lost_c]⟩)], K, w => sh_postroadref08_Places t0_N ⟨t0_In_a, t0_In_l, t0_In_c⟩ ⟨t0_L_a, t0_L_l, t0_L_c⟩ ⟨t0_Lost_a, t0_Lost_l, t0_Lost_c⟩ (fun r0 w' => K (.slice r0.a r0.len r0.cap) w') w
  | _, _, _, _ => False
def sh_postroadref08_Places.q : CVT → List X → World → (Value → Prop) → Prop
  | CV, [.v (.agg ⟨[.int .i64 t0_N, .slice t0_In_a t0_In_l t0_In_c, .slice t0_L_a t0_L_l t0_L_c, .slice t0_Lost_a t0_Lost_l t0_Lost_c]⟩)], w, K => Quiet (SV) (fun r => (.slice r.a r.len r.cap)) (fun K1 w' => sh_postroadref08_Places t0_N ⟨t0_In_a, t0_In_l, t0_In_c⟩ ⟨t0_L_a, t0_L_l, t0_L_c⟩ ⟨t0_Lost_a, t0_Lost_l, t0_Lost_c⟩ (fun r0 w'' => K1 r0 w'') w') w (fun r => K (.slice r.a r.len r.cap))
  | _, _, _, _ => False
noncomputable def cx_postroadref08_Places : Cx := Cx.add Try.prog cx_postroadref08_New 88 sh_postroadref08_Places.o sh_postroadref08_Places.q
theorem cx_postroadref08_Places.ok : CxOk cx_postroadref08_Places := by
  refine CxOk.add cx_postroadref08_New.ok rfl (fun CV hcv xs K w hx h => ?_) (fun CV hcv xs K w hx h => ?_)
  · unfold sh_postroadref08_Places.o at h; split at h
    · rename_i t0_N t0_In_a t0_In_l t0_In_c t0_L_a t0_L_l t0_L_c t0_Lost_a t0_Lost_l t0_Lost_c; exact sh_postroadref08_Places.calls CV t0_N ⟨t0_In_a, t0_In_l, t0_In_c⟩ ⟨t0_L_a, t0_L_l, t0_L_c⟩ ⟨t0_Lost_a, t0_Lost_l, t0_Lost_c⟩ hcv h
    · exact h.elim
  · unfold sh_postroadref08_Places.q at h; split at h
    · rename_i t0_N t0_In_a t0_In_l t0_In_c t0_L_a t0_L_l t0_L_c t0_Lost_a t0_Lost_l t0_Lost_c; obtain ⟨r, h1, h2⟩ := h; exact ⟨_, h2, fun w' e => sh_postroadref08_Places.calls CV t0_N ⟨t0_In_a, t0_In_l, t0_In_c⟩ ⟨t0_L_a, t0_L_l, t0_L_c⟩ ⟨t0_Lost_a, t0_Lost_l, t0_Lost_c⟩ hcv (h1 w' e)⟩
    · exact h.elim
def sh_postroadref08_is.plan : Plan := (.seq .o (.seq .o .o))
theorem sh_postroadref08_is.is (CV : CVT) (t0_N : Int) (t0_In : SV) (t0_L : SV) (t0_Lost : SV) (v0 : Int) (w : World) (R : Value → World → Prop) : sh_postroadref08_is t0_N t0_In t0_L t0_Lost v0 (fun r0 w' => R (.bool r0) w') w = denF (cx_postroadref08_Places.with CV) Try.f91 sh_postroadref08_is.plan [.v (.agg #[(.int .i64 t0_N), (.slice t0_In.a t0_In.len t0_In.cap), (.slice t0_L.a t0_L.len t0_L.cap), (.slice t0_Lost.a t0_Lost.len t0_Lost.cap)]), .v (.int .i64 v0)] w R := by kernel_rfl
theorem sh_postroadref08_is.calls (CV : CVT) (t0_N : Int) (t0_In : SV) (t0_L : SV) (t0_Lost : SV) (v0 : Int) (hcv : CVOk Try.prog CV) {w : World} {R : Ending → World → Prop} (h : sh_postroadref08_is t0_N t0_In t0_L t0_Lost v0 (fun r0 w' => R (.returned (.bool r0)) w') w) : Calls Try.prog 91 #[(.agg #[(.int .i64 t0_N), (.slice t0_In.a t0_In.len t0_In.cap), (.slice t0_L.a t0_L.len t0_L.cap), (.slice t0_Lost.a t0_Lost.len t0_Lost.cap)]), (.int .i64 v0)] w R :=
  calls_is (cx := cx_postroadref08_Places.with CV) mixed_Try (cx_postroadref08_Places.ok.with CV) hcv Try.func91 sh_postroadref08_is.plan (xs := [.v (.agg #[(.int .i64 t0_N), (.slice t0_In.a t0_In.len t0_In.cap), (.slice t0_L.a t0_L.len t0_L.cap), (.slice t0_Lost.a t0_Lost.len t0_Lost.cap)]), .v (.int .i64 v0)]) ((args_cons _ (args_cons _ args_nil))) (by kernel_rfl) (sh_postroadref08_is.is CV t0_N t0_In t0_L t0_Lost v0 w (fun v w' => R (.returned v) w')) h
def sh_postroadref08_is.o : CVT → List X → (Value → World → Prop) → World → Prop
  | CV, [.v (.agg ⟨[.int .i64 t0_N, .slice t0_In_a t0_In_l t0_In_c, .slice t0_L_a t0_L_l t0_L_c, .slice t0_Lost_a t0_Lost_l t0_Lost_c]⟩), .v (.int .i64 v0)], K, w => sh_postroadref08_is t0_N ⟨t0_In_a, t0_In_l, t0_In_c⟩ ⟨t0_L_a, t0_L_l, t0_L_c⟩ ⟨t0_Lost_a, t0_Lost_l, t0_Lost_c⟩ v0 (fun r0 w' => K (.bool r0) w') w
  | _, _, _, _ => False
def sh_postroadref08_is.q : CVT → List X → World → (Value → Prop) → Prop
  | CV, [.v (.agg ⟨[.int .i64 t0_N, .slice t0_In_a t0_In_l t0_In_c, .slice t0_L_a t0_L_l t0_L_c, .slice t0_Lost_a t0_Lost_l t0_Lost_c]⟩), .v (.int .i64 v0)], w, K => Quiet (Bool) (fun r => (.bool r)) (fun K1 w' => sh_postroadref08_is t0_N ⟨t0_In_a, t0_In_l, t0_In_c⟩ ⟨t0_L_a, t0_L_l, t0_L_c⟩ ⟨t0_Lost_a, t0_Lost_l, t0_Lost_c⟩ v0 (fun r0 w'' => K1 r0 w'') w') w (fun r => K (.bool r))
  | _, _, _, _ => False
noncomputable def cx_postroadref08_is : Cx := Cx.add Try.prog cx_postroadref08_Places 91 sh_postroadref08_is.o sh_postroadref08_is.q
theorem cx_postroadref08_is.ok : CxOk cx_postroadref08_is := by
  refine CxOk.add cx_postroadref08_Places.ok rfl (fun CV hcv xs K w hx h => ?_) (fun CV hcv xs K w hx h => ?_)
  · unfold sh_postroadref08_is.o at h; split at h
    · rename_i t0_N t0_In_a t0_In_l t0_In_c t0_L_a t0_L_l t0_L_c t0_Lost_a t0_Lost_l t0_Lost_c v0; exact sh_postroadref08_is.calls CV t0_N ⟨t0_In_a, t0_In_l, t0_In_c⟩ ⟨t0_L_a, t0_L_l, t0_L_c⟩ ⟨t0_Lost_a, t0_Lost_l, t0_Lost_c⟩ v0 hcv h
    · exact h.elim
  · unfold sh_postroadref08_is.q at h; split at h
    · rename_i t0_N t0_In_a t0_In_l t0_In_c t0_L_a t0_L_l t0_L_c t0_Lost_a t0_Lost_l t0_Lost_c v0; obtain ⟨r, h1, h2⟩ := h; exact ⟨_, h2, fun w' e => sh_postroadref08_is.calls CV t0_N ⟨t0_In_a, t0_In_l, t0_In_c⟩ ⟨t0_L_a, t0_L_l, t0_L_c⟩ ⟨t0_Lost_a, t0_Lost_l, t0_Lost_c⟩ v0 hcv (h1 w' e)⟩
    · exact h.elim
def sh_postroadref08_Way.plan : Plan := (.seq .o (.join [.box 6 [(.int .i64), (.int .i64), (.int .i64)]] [] (.seq .o (.block (.loop [.slot 8 (.int .i64), .box 6 [(.int .i64), (.int .i64), (.int .i64)]] [] (.seq (.seq .o (.cond .o .o)) (.join [.box 6 [(.int .i64), (.int .i64), (.int .i64)]] [] (.block (.seq .o (.cond (.seq .o .o) .o))) .o))))) (.seq .o .o)))
theorem sh_postroadref08_Way.is (CV : CVT) (t0_N : Int) (t0_In : SV) (t0_L : SV) (t0_Lost : SV) (u0 : Int) (v0 : Int) (w : World) (R : Value → World → Prop) : sh_postroadref08_Way t0_N t0_In t0_L t0_Lost u0 v0 (fun r0 r1 r2 r3 w' => R (.tuple #[(.agg #[(.int .i64 r0), (.int .i64 r1), (.int .i64 r2)]), (.bool r3)]) w') w = denF (cx_postroadref08_is.with CV) Try.f71 sh_postroadref08_Way.plan [.v (.agg #[(.int .i64 t0_N), (.slice t0_In.a t0_In.len t0_In.cap), (.slice t0_L.a t0_L.len t0_L.cap), (.slice t0_Lost.a t0_Lost.len t0_Lost.cap)]), .v (.int .i64 u0), .v (.int .i64 v0)] w R := by kernel_rfl
theorem sh_postroadref08_Way.calls (CV : CVT) (t0_N : Int) (t0_In : SV) (t0_L : SV) (t0_Lost : SV) (u0 : Int) (v0 : Int) (hcv : CVOk Try.prog CV) {w : World} {R : Ending → World → Prop} (h : sh_postroadref08_Way t0_N t0_In t0_L t0_Lost u0 v0 (fun r0 r1 r2 r3 w' => R (.returned (.tuple #[(.agg #[(.int .i64 r0), (.int .i64 r1), (.int .i64 r2)]), (.bool r3)])) w') w) : Calls Try.prog 71 #[(.agg #[(.int .i64 t0_N), (.slice t0_In.a t0_In.len t0_In.cap), (.slice t0_L.a t0_L.len t0_L.cap), (.slice t0_Lost.a t0_Lost.len t0_Lost.cap)]), (.int .i64 u0), (.int .i64 v0)] w R :=
  calls_is (cx := cx_postroadref08_is.with CV) mixed_Try (cx_postroadref08_is.ok.with CV) hcv Try.func71 sh_postroadref08_Way.plan (xs := [.v (.agg #[(.int .i64 t0_N), (.slice t0_In.a t0_In.len t0_In.cap), (.slice t0_L.a t0_L.len t0_L.cap), (.slice t0_Lost.a t0_Lost.len t0_Lost.cap)]), .v (.int .i64 u0), .v (.int .i64 v0)]) ((args_cons _ (args_cons _ (args_cons _ args_nil)))) (by kernel_rfl) (sh_postroadref08_Way.is CV t0_N t0_In t0_L t0_Lost u0 v0 w (fun v w' => R (.returned v) w')) h
def sh_postroadref08_Way.o : CVT → List X → (Value → World → Prop) → World → Prop
  | CV, [.v (.agg ⟨[.int .i64 t0_N, .slice t0_In_a t0_In_l t0_In_c, .slice t0_L_a t0_L_l t0_L_c, .slice t0_Lost_a t0_Lost_l t0_Lost_c]⟩), .v (.int .i64 u0), .v (.int .i64 v0)], K, w => sh_postroadref08_Way t0_N ⟨t0_In_a, t0_In_l, t0_In_c⟩ ⟨t0_L_a, t0_L_l, t0_L_c⟩ ⟨t0_Lost_a, t0_Lost_l, t0_Lost_c⟩ u0 v0 (fun r0 r1 r2 r3 w' => K (.tuple #[(.agg #[(.int .i64 r0), (.int .i64 r1), (.int .i64 r2)]), (.bool r3)]) w') w
  | _, _, _, _ => False
def sh_postroadref08_Way.q : CVT → List X → World → (Value → Prop) → Prop
  | CV, [.v (.agg ⟨[.int .i64 t0_N, .slice t0_In_a t0_In_l t0_In_c, .slice t0_L_a t0_L_l t0_L_c, .slice t0_Lost_a t0_Lost_l t0_Lost_c]⟩), .v (.int .i64 u0), .v (.int .i64 v0)], w, K => Quiet (Int × Int × Int × Bool) (fun r => (.tuple #[(.agg #[(.int .i64 r.1), (.int .i64 r.2.1), (.int .i64 r.2.2.1)]), (.bool r.2.2.2)])) (fun K1 w' => sh_postroadref08_Way t0_N ⟨t0_In_a, t0_In_l, t0_In_c⟩ ⟨t0_L_a, t0_L_l, t0_L_c⟩ ⟨t0_Lost_a, t0_Lost_l, t0_Lost_c⟩ u0 v0 (fun r0 r1 r2 r3 w'' => K1 (r0, r1, r2, r3) w'') w') w (fun r => K (.tuple #[(.agg #[(.int .i64 r.1), (.int .i64 r.2.1), (.int .i64 r.2.2.1)]), (.bool r.2.2.2)]))
  | _, _, _, _ => False
noncomputable def cx_postroadref08_Way : Cx := Cx.add Try.prog cx_postroadref08_is 71 sh_postroadref08_Way.o sh_postroadref08_Way.q
theorem cx_postroadref08_Way.ok : CxOk cx_postroadref08_Way := by
  refine CxOk.add cx_postroadref08_is.ok rfl (fun CV hcv xs K w hx h => ?_) (fun CV hcv xs K w hx h => ?_)
  · unfold sh_postroadref08_Way.o at h; split at h
    · rename_i t0_N t0_In_a t0_In_l t0_In_c t0_L_a t0_L_l t0_L_c t0_Lost_a t0_Lost_l t0_Lost_c u0 v0; exact sh_postroadref08_Way.calls CV t0_N ⟨t0_In_a, t0_In_l, t0_In_c⟩ ⟨t0_L_a, t0_L_l, t0_L_c⟩ ⟨t0_Lost_a, t0_Lost_l, t0_Lost_c⟩ u0 v0 hcv h
    · exact h.elim
  · unfold sh_postroadref08_Way.q at h; split at h
    · rename_i t0_N t0_In_a t0_In_l t0_In_c t0_L_a t0_L_l t0_L_c t0_Lost_a t0_Lost_l t0_Lost_c u0 v0; obtain ⟨r, h1, h2⟩ := h; exact ⟨_, h2, fun w' e => sh_postroadref08_Way.calls CV t0_N ⟨t0_In_a, t0_In_l, t0_In_c⟩ ⟨t0_L_a, t0_L_l, t0_L_c⟩ ⟨t0_Lost_a, t0_Lost_l, t0_Lost_c⟩ u0 v0 hcv (h1 w' e)⟩
    · exact h.elim
def sh_postroadref08_Ins.plan : Plan := (.seq .o (.seq .o (.seq (.seq .o (.block (.loop [.slot 5 .slice, .slot 6 (.int .i64)] [] (.seq (.seq .o (.cond .o .o)) (.join [.slot 5 .slice] [] (.block (.seq .o (.seq .o (.cond .o .o)))) .o))))) (.seq .o .o))))
theorem sh_postroadref08_Ins.is (CV : CVT) (t0_N : Int) (t0_In : SV) (t0_L : SV) (t0_Lost : SV) (v0 : Int) (w : World) (R : Value → World → Prop) : sh_postroadref08_Ins t0_N t0_In t0_L t0_Lost v0 (fun r0 w' => R (.slice r0.a r0.len r0.cap) w') w = denF (cx_postroadref08_Way.with CV) Try.f72 sh_postroadref08_Ins.plan [.v (.agg #[(.int .i64 t0_N), (.slice t0_In.a t0_In.len t0_In.cap), (.slice t0_L.a t0_L.len t0_L.cap), (.slice t0_Lost.a t0_Lost.len t0_Lost.cap)]), .v (.int .i64 v0)] w R := by kernel_rfl
theorem sh_postroadref08_Ins.calls (CV : CVT) (t0_N : Int) (t0_In : SV) (t0_L : SV) (t0_Lost : SV) (v0 : Int) (hcv : CVOk Try.prog CV) {w : World} {R : Ending → World → Prop} (h : sh_postroadref08_Ins t0_N t0_In t0_L t0_Lost v0 (fun r0 w' => R (.returned (.slice r0.a r0.len r0.cap)) w') w) : Calls Try.prog 72 #[(.agg #[(.int .i64 t0_N), (.slice t0_In.a t0_In.len t0_In.cap), (.slice t0_L.a t0_L.len t0_L.cap), (.slice t0_Lost.a t0_Lost.len t0_Lost.cap)]), (.int .i64 v0)] w R :=
  calls_is (cx := cx_postroadref08_Way.with CV) mixed_Try (cx_postroadref08_Way.ok.with CV) hcv Try.func72 sh_postroadref08_Ins.plan (xs := [.v (.agg #[(.int .i64 t0_N), (.slice t0_In.a t0_In.len t0_In.cap), (.slice t0_L.a t0_L.len t0_L.cap), (.slice t0_Lost.a t0_Lost.len t0_Lost.cap)]), .v (.int .i64 v0)]) ((args_cons _ (args_cons _ args_nil))) (by kernel_rfl) (sh_postroadref08_Ins.is CV t0_N t0_In t0_L t0_Lost v0 w (fun v w' => R (.returned v) w')) h
def sh_postroadref08_Ins.o : CVT → List X → (Value → World → Prop) → World → Prop
  | CV, [.v (.agg ⟨[.int .i64 t0_N, .slice t0_In_a t0_In_l t0_In_c, .slice t0_L_a t0_L_l t0_L_c, .slice t0_Lost_a t0_Lost_l t0_Lost_c]⟩), .v (.int .i64 v0)], K, w => sh_postroadref08_Ins t0_N ⟨t0_In_a, t0_In_l, t0_In_c⟩ ⟨t0_L_a, t0_L_l, t0_L_c⟩ ⟨t0_Lost_a, t0_Lost_l, t0_Lost_c⟩ v0 (fun r0 w' => K (.slice r0.a r0.len r0.cap) w') w
  | _, _, _, _ => False
def sh_postroadref08_Ins.q : CVT → List X → World → (Value → Prop) → Prop
  | CV, [.v (.agg ⟨[.int .i64 t0_N, .slice t0_In_a t0_In_l t0_In_c, .slice t0_L_a t0_L_l t0_L_c, .slice t0_Lost_a t0_Lost_l t0_Lost_c]⟩), .v (.int .i64 v0)], w, K => Quiet (SV) (fun r => (.slice r.a r.len r.cap)) (fun K1 w' => sh_postroadref08_Ins t0_N ⟨t0_In_a, t0_In_l, t0_In_c⟩ ⟨t0_L_a, t0_L_l, t0_L_c⟩ ⟨t0_Lost_a, t0_Lost_l, t0_Lost_c⟩ v0 (fun r0 w'' => K1 r0 w'') w') w (fun r => K (.slice r.a r.len r.cap))
  | _, _, _, _ => False
noncomputable def cx_postroadref08_Ins : Cx := Cx.add Try.prog cx_postroadref08_Way 72 sh_postroadref08_Ins.o sh_postroadref08_Ins.q
theorem cx_postroadref08_Ins.ok : CxOk cx_postroadref08_Ins := by
  refine CxOk.add cx_postroadref08_Way.ok rfl (fun CV hcv xs K w hx h => ?_) (fun CV hcv xs K w hx h => ?_)
  · unfold sh_postroadref08_Ins.o at h; split at h
    · rename_i t0_N t0_In_a t0_In_l t0_In_c t0_L_a t0_L_l t0_L_c t0_Lost_a t0_Lost_l t0_Lost_c v0; exact sh_postroadref08_Ins.calls CV t0_N ⟨t0_In_a, t0_In_l, t0_In_c⟩ ⟨t0_L_a, t0_L_l, t0_L_c⟩ ⟨t0_Lost_a, t0_Lost_l, t0_Lost_c⟩ v0 hcv h
    · exact h.elim
  · unfold sh_postroadref08_Ins.q at h; split at h
    · rename_i t0_N t0_In_a t0_In_l t0_In_c t0_L_a t0_L_l t0_L_c t0_Lost_a t0_Lost_l t0_Lost_c v0; obtain ⟨r, h1, h2⟩ := h; exact ⟨_, h2, fun w' e => sh_postroadref08_Ins.calls CV t0_N ⟨t0_In_a, t0_In_l, t0_In_c⟩ ⟨t0_L_a, t0_L_l, t0_L_c⟩ ⟨t0_Lost_a, t0_Lost_l, t0_Lost_c⟩ v0 hcv (h1 w' e)⟩
    · exact h.elim
def sh_postroadref08_Outs.plan : Plan := (.seq .o (.seq .o (.seq (.seq .o (.block (.loop [.slot 5 .slice, .slot 6 (.int .i64)] [] (.seq (.seq .o (.cond .o .o)) (.join [.slot 5 .slice] [] (.block (.seq .o (.seq .o (.cond .o .o)))) .o))))) (.seq .o .o))))
theorem sh_postroadref08_Outs.is (CV : CVT) (t0_N : Int) (t0_In : SV) (t0_L : SV) (t0_Lost : SV) (v0 : Int) (w : World) (R : Value → World → Prop) : sh_postroadref08_Outs t0_N t0_In t0_L t0_Lost v0 (fun r0 w' => R (.slice r0.a r0.len r0.cap) w') w = denF (cx_postroadref08_Ins.with CV) Try.f70 sh_postroadref08_Outs.plan [.v (.agg #[(.int .i64 t0_N), (.slice t0_In.a t0_In.len t0_In.cap), (.slice t0_L.a t0_L.len t0_L.cap), (.slice t0_Lost.a t0_Lost.len t0_Lost.cap)]), .v (.int .i64 v0)] w R := by kernel_rfl
theorem sh_postroadref08_Outs.calls (CV : CVT) (t0_N : Int) (t0_In : SV) (t0_L : SV) (t0_Lost : SV) (v0 : Int) (hcv : CVOk Try.prog CV) {w : World} {R : Ending → World → Prop} (h : sh_postroadref08_Outs t0_N t0_In t0_L t0_Lost v0 (fun r0 w' => R (.returned (.slice r0.a r0.len r0.cap)) w') w) : Calls Try.prog 70 #[(.agg #[(.int .i64 t0_N), (.slice t0_In.a t0_In.len t0_In.cap), (.slice t0_L.a t0_L.len t0_L.cap), (.slice t0_Lost.a t0_Lost.len t0_Lost.cap)]), (.int .i64 v0)] w R :=
  calls_is (cx := cx_postroadref08_Ins.with CV) mixed_Try (cx_postroadref08_Ins.ok.with CV) hcv Try.func70 sh_postroadref08_Outs.plan (xs := [.v (.agg #[(.int .i64 t0_N), (.slice t0_In.a t0_In.len t0_In.cap), (.slice t0_L.a t0_L.len t0_L.cap), (.slice t0_Lost.a t0_Lost.len t0_Lost.cap)]), .v (.int .i64 v0)]) ((args_cons _ (args_cons _ args_nil))) (by kernel_rfl) (sh_postroadref08_Outs.is CV t0_N t0_In t0_L t0_Lost v0 w (fun v w' => R (.returned v) w')) h
def sh_postroadref08_Outs.o : CVT → List X → (Value → World → Prop) → World → Prop
  | CV, [.v (.agg ⟨[.int .i64 t0_N, .slice t0_In_a t0_In_l t0_In_c, .slice t0_L_a t0_L_l t0_L_c, .slice t0_Lost_a t0_Lost_l t0_Lost_c]⟩), .v (.int .i64 v0)], K, w => sh_postroadref08_Outs t0_N ⟨t0_In_a, t0_In_l, t0_In_c⟩ ⟨t0_L_a, t0_L_l, t0_L_c⟩ ⟨t0_Lost_a, t0_Lost_l, t0_Lost_c⟩ v0 (fun r0 w' => K (.slice r0.a r0.len r0.cap) w') w
  | _, _, _, _ => False
def sh_postroadref08_Outs.q : CVT → List X → World → (Value → Prop) → Prop
  | CV, [.v (.agg ⟨[.int .i64 t0_N, .slice t0_In_a t0_In_l t0_In_c, .slice t0_L_a t0_L_l t0_L_c, .slice t0_Lost_a t0_Lost_l t0_Lost_c]⟩), .v (.int .i64 v0)], w, K => Quiet (SV) (fun r => (.slice r.a r.len r.cap)) (fun K1 w' => sh_postroadref08_Outs t0_N ⟨t0_In_a, t0_In_l, t0_In_c⟩ ⟨t0_L_a, t0_L_l, t0_L_c⟩ ⟨t0_Lost_a, t0_Lost_l, t0_Lost_c⟩ v0 (fun r0 w'' => K1 r0 w'') w') w (fun r => K (.slice r.a r.len r.cap))
  | _, _, _, _ => False
noncomputable def cx_postroadref08_Outs : Cx := Cx.add Try.prog cx_postroadref08_Ins 70 sh_postroadref08_Outs.o sh_postroadref08_Outs.q
theorem cx_postroadref08_Outs.ok : CxOk cx_postroadref08_Outs := by
  refine CxOk.add cx_postroadref08_Ins.ok rfl (fun CV hcv xs K w hx h => ?_) (fun CV hcv xs K w hx h => ?_)
  · unfold sh_postroadref08_Outs.o at h; split at h
    · rename_i t0_N t0_In_a t0_In_l t0_In_c t0_L_a t0_L_l t0_L_c t0_Lost_a t0_Lost_l t0_Lost_c v0; exact sh_postroadref08_Outs.calls CV t0_N ⟨t0_In_a, t0_In_l, t0_In_c⟩ ⟨t0_L_a, t0_L_l, t0_L_c⟩ ⟨t0_Lost_a, t0_Lost_l, t0_Lost_c⟩ v0 hcv h
    · exact h.elim
  · unfold sh_postroadref08_Outs.q at h; split at h
    · rename_i t0_N t0_In_a t0_In_l t0_In_c t0_L_a t0_L_l t0_L_c t0_Lost_a t0_Lost_l t0_Lost_c v0; obtain ⟨r, h1, h2⟩ := h; exact ⟨_, h2, fun w' e => sh_postroadref08_Outs.calls CV t0_N ⟨t0_In_a, t0_In_l, t0_In_c⟩ ⟨t0_L_a, t0_L_l, t0_L_c⟩ ⟨t0_Lost_a, t0_Lost_l, t0_Lost_c⟩ v0 hcv (h1 w' e)⟩
    · exact h.elim
def sh_postroadref08_Cost.plan : Plan := (.seq .o (.seq (.seq .o (.cond (.seq .o .o) .o)) (.seq .o (.seq .o (.seq .o (.join [.slot 7 (.int .i64)] [] (.seq .o (.block (.loop [.slot 7 (.int .i64), .slot 8 (.int .i64)] [] (.seq (.seq .o (.cond .o .o)) (.join [.slot 7 (.int .i64)] [] (.block (.seq .o (.block (.loop [.slot 7 (.int .i64), .slot 9 (.int .i64)] [] (.seq (.seq .o (.cond .o .o)) (.join [.slot 7 (.int .i64)] [] (.block (.seq (.draw [] [.pure, .pure, .pure, .quiet, .pure, .pure, .pure, .quiet, .pure] [0, 1, 2, 3, 4, 5, 6, 7, 8]) (.cond .o .o))) .o)))))) .o))))) (.seq .o .o)))))))
theorem sh_postroadref08_Cost.is (CV : CVT) (t0_N : Int) (t0_In : SV) (t0_L : SV) (t0_Lost : SV) (v0 : Int) (w : World) (R : Value → World → Prop) : sh_postroadref08_Cost t0_N t0_In t0_L t0_Lost v0 (fun r0 w' => R (.int .i64 r0) w') w = denF (cx_postroadref08_Outs.with CV) Try.f89 sh_postroadref08_Cost.plan [.v (.agg #[(.int .i64 t0_N), (.slice t0_In.a t0_In.len t0_In.cap), (.slice t0_L.a t0_L.len t0_L.cap), (.slice t0_Lost.a t0_Lost.len t0_Lost.cap)]), .v (.int .i64 v0)] w R := by kernel_rfl
theorem sh_postroadref08_Cost.calls (CV : CVT) (t0_N : Int) (t0_In : SV) (t0_L : SV) (t0_Lost : SV) (v0 : Int) (hcv : CVOk Try.prog CV) {w : World} {R : Ending → World → Prop} (h : sh_postroadref08_Cost t0_N t0_In t0_L t0_Lost v0 (fun r0 w' => R (.returned (.int .i64 r0)) w') w) : Calls Try.prog 89 #[(.agg #[(.int .i64 t0_N), (.slice t0_In.a t0_In.len t0_In.cap), (.slice t0_L.a t0_L.len t0_L.cap), (.slice t0_Lost.a t0_Lost.len t0_Lost.cap)]), (.int .i64 v0)] w R :=
  calls_is (cx := cx_postroadref08_Outs.with CV) mixed_Try (cx_postroadref08_Outs.ok.with CV) hcv Try.func89 sh_postroadref08_Cost.plan (xs := [.v (.agg #[(.int .i64 t0_N), (.slice t0_In.a t0_In.len t0_In.cap), (.slice t0_L.a t0_L.len t0_L.cap), (.slice t0_Lost.a t0_Lost.len t0_Lost.cap)]), .v (.int .i64 v0)]) ((args_cons _ (args_cons _ args_nil))) (by kernel_rfl) (sh_postroadref08_Cost.is CV t0_N t0_In t0_L t0_Lost v0 w (fun v w' => R (.returned v) w')) h
def sh_postroadref08_Cost.o : CVT → List X → (Value → World → Prop) → World → Prop
  | CV, [.v (.agg ⟨[.int .i64 t0_N, .slice t0_In_a t0_In_l t0_In_c, .slice t0_L_a t0_L_l t0_L_c, .slice t0_Lost_a t0_Lost_l t0_Lost_c]⟩), .v (.int .i64 v0)], K, w => sh_postroadref08_Cost t0_N ⟨t0_In_a, t0_In_l, t0_In_c⟩ ⟨t0_L_a, t0_L_l, t0_L_c⟩ ⟨t0_Lost_a, t0_Lost_l, t0_Lost_c⟩ v0 (fun r0 w' => K (.int .i64 r0) w') w
  | _, _, _, _ => False
def sh_postroadref08_Cost.q : CVT → List X → World → (Value → Prop) → Prop
  | CV, [.v (.agg ⟨[.int .i64 t0_N, .slice t0_In_a t0_In_l t0_In_c, .slice t0_L_a t0_L_l t0_L_c, .slice t0_Lost_a t0_Lost_l t0_Lost_c]⟩), .v (.int .i64 v0)], w, K => Quiet (Int) (fun r => (.int .i64 r)) (fun K1 w' => sh_postroadref08_Cost t0_N ⟨t0_In_a, t0_In_l, t0_In_c⟩ ⟨t0_L_a, t0_L_l, t0_L_c⟩ ⟨t0_Lost_a, t0_Lost_l, t0_Lost_c⟩ v0 (fun r0 w'' => K1 r0 w'') w') w (fun r => K (.int .i64 r))
  | _, _, _, _ => False
noncomputable def cx_postroadref08_Cost : Cx := Cx.add Try.prog cx_postroadref08_Outs 89 sh_postroadref08_Cost.o sh_postroadref08_Cost.q
theorem cx_postroadref08_Cost.ok : CxOk cx_postroadref08_Cost := by
  refine CxOk.add cx_postroadref08_Outs.ok rfl (fun CV hcv xs K w hx h => ?_) (fun CV hcv xs K w hx h => ?_)
  · unfold sh_postroadref08_Cost.o at h; split at h
    · rename_i t0_N t0_In_a t0_In_l t0_In_c t0_L_a t0_L_l t0_L_c t0_Lost_a t0_Lost_l t0_Lost_c v0; exact sh_postroadref08_Cost.calls CV t0_N ⟨t0_In_a, t0_In_l, t0_In_c⟩ ⟨t0_L_a, t0_L_l, t0_L_c⟩ ⟨t0_Lost_a, t0_Lost_l, t0_Lost_c⟩ v0 hcv h
    · exact h.elim
  · unfold sh_postroadref08_Cost.q at h; split at h
    · rename_i t0_N t0_In_a t0_In_l t0_In_c t0_L_a t0_L_l t0_L_c t0_Lost_a t0_Lost_l t0_Lost_c v0; obtain ⟨r, h1, h2⟩ := h; exact ⟨_, h2, fun w' e => sh_postroadref08_Cost.calls CV t0_N ⟨t0_In_a, t0_In_l, t0_In_c⟩ ⟨t0_L_a, t0_L_l, t0_L_c⟩ ⟨t0_Lost_a, t0_Lost_l, t0_Lost_c⟩ v0 hcv (h1 w' e)⟩
    · exact h.elim
def sh_postroadref09_Next.plan : Plan := (.seq .o (.seq .o (.seq .o (.seq (.seq .o (.block (.loop [.slot 4 (.int .i64), .slot 5 (.int .i64)] [] (.seq (.seq .o (.cond .o .o)) (.join [.slot 4 (.int .i64)] [] (.block (.seq (.draw [] [.pure, .pure, .pure, .loc, .pure, .pure, .pure, .quiet, .quiet, .loc, .pure, .quiet, .pure, .pure] [0, 1, 2, 3, 4, 5, 6, 7, 8, 9, 10, 11, 12, 13]) (.cond .o .o))) .o))))) (.seq .o .o)))))
theorem sh_postroadref09_Next.is (CV : CVT) (t0_N : Int) (t0_In : SV) (t0_L : SV) (t0_Lost : SV) (w : World) (R : Value → World → Prop) : sh_postroadref09_Next t0_N t0_In t0_L t0_Lost (fun r0 w' => R (.int .i64 r0) w') w = denF (cx_postroadref08_Cost.with CV) Try.f67 sh_postroadref09_Next.plan [.v (.agg #[(.int .i64 t0_N), (.slice t0_In.a t0_In.len t0_In.cap), (.slice t0_L.a t0_L.len t0_L.cap), (.slice t0_Lost.a t0_Lost.len t0_Lost.cap)])] w R := by kernel_rfl
theorem sh_postroadref09_Next.calls (CV : CVT) (t0_N : Int) (t0_In : SV) (t0_L : SV) (t0_Lost : SV) (hcv : CVOk Try.prog CV) {w : World} {R : Ending → World → Prop} (h : sh_postroadref09_Next t0_N t0_In t0_L t0_Lost (fun r0 w' => R (.returned (.int .i64 r0)) w') w) : Calls Try.prog 67 #[(.agg #[(.int .i64 t0_N), (.slice t0_In.a t0_In.len t0_In.cap), (.slice t0_L.a t0_L.len t0_L.cap), (.slice t0_Lost.a t0_Lost.len t0_Lost.cap)])] w R :=
  calls_is (cx := cx_postroadref08_Cost.with CV) mixed_Try (cx_postroadref08_Cost.ok.with CV) hcv Try.func67 sh_postroadref09_Next.plan (xs := [.v (.agg #[(.int .i64 t0_N), (.slice t0_In.a t0_In.len t0_In.cap), (.slice t0_L.a t0_L.len t0_L.cap), (.slice t0_Lost.a t0_Lost.len t0_Lost.cap)])]) ((args_cons _ args_nil)) (by kernel_rfl) (sh_postroadref09_Next.is CV t0_N t0_In t0_L t0_Lost w (fun v w' => R (.returned v) w')) h
def sh_postroadref09_Next.o : CVT → List X → (Value → World → Prop) → World → Prop
  | CV, [.v (.agg ⟨[.int .i64 t0_N, .slice t0_In_a t0_In_l t0_In_c, .slice t0_L_a t0_L_l t0_L_c, .slice t0_Lost_a t0_Lost_l t0_Lost_c]⟩)], K, w => sh_postroadref09_Next t0_N ⟨t0_In_a, t0_In_l, t0_In_c⟩ ⟨t0_L_a, t0_L_l, t0_L_c⟩ ⟨t0_Lost_a, t0_Lost_l, t0_Lost_c⟩ (fun r0 w' => K (.int .i64 r0) w') w
  | _, _, _, _ => False
def sh_postroadref09_Next.q : CVT → List X → World → (Value → Prop) → Prop
  | CV, [.v (.agg ⟨[.int .i64 t0_N, .slice t0_In_a t0_In_l t0_In_c, .slice t0_L_a t0_L_l t0_L_c, .slice t0_Lost_a t0_Lost_l t0_Lost_c]⟩)], w, K => Quiet (Int) (fun r => (.int .i64 r)) (fun K1 w' => sh_postroadref09_Next t0_N ⟨t0_In_a, t0_In_l, t0_In_c⟩ ⟨t0_L_a, t0_L_l, t0_L_c⟩ ⟨t0_Lost_a, t0_Lost_l, t0_Lost_c⟩ (fun r0 w'' => K1 r0 w'') w') w (fun r => K (.int .i64 r))
  | _, _, _, _ => False
noncomputable def cx_postroadref09_Next : Cx := Cx.add Try.prog cx_postroadref08_Cost 67 sh_postroadref09_Next.o sh_postroadref09_Next.q
theorem cx_postroadref09_Next.ok : CxOk cx_postroadref09_Next := by
  refine CxOk.add cx_postroadref08_Cost.ok rfl (fun CV hcv xs K w hx h => ?_) (fun CV hcv xs K w hx h => ?_)
  · unfold sh_postroadref09_Next.o at h; split at h
    · rename_i t0_N t0_In_a t0_In_l t0_In_c t0_L_a t0_L_l t0_L_c t0_Lost_a t0_Lost_l t0_Lost_c; exact sh_postroadref09_Next.calls CV t0_N ⟨t0_In_a, t0_In_l, t0_In_c⟩ ⟨t0_L_a, t0_L_l, t0_L_c⟩ ⟨t0_Lost_a, t0_Lost_l, t0_Lost_c⟩ hcv h
    · exact h.elim
  · unfold sh_postroadref09_Next.q at h; split at h
    · rename_i t0_N t0_In_a t0_In_l t0_In_c t0_L_a t0_L_l t0_L_c t0_Lost_a t0_Lost_l t0_Lost_c; obtain ⟨r, h1, h2⟩ := h; exact ⟨_, h2, fun w' e => sh_postroadref09_Next.calls CV t0_N ⟨t0_In_a, t0_In_l, t0_In_c⟩ ⟨t0_L_a, t0_L_l, t0_L_c⟩ ⟨t0_Lost_a, t0_Lost_l, t0_Lost_c⟩ hcv (h1 w' e)⟩
    · exact h.elim
def sh_postroadref08_Near.plan : Plan := (.seq .o (.seq (.seq .o (.cond (.seq .o .o) .o)) (.seq .o (.join [] [] (.seq .o (.block (.loop [.slot 12 (.int .i64)] [] (.seq (.seq .o (.cond .o .o)) (.seq (.block .o) .o))))) (.seq .o (.join [] [] (.seq .o (.block (.loop [.slot 13 .bool] [] (.seq (.seq .o (.cond .o .o)) (.block (.seq .o (.seq .o (.block (.loop [.slot 13 .bool, .slot 14 (.int .i64)] [] (.seq (.seq .o (.cond .o .o)) (.join [.slot 13 .bool] [] (.block (.seq .o (.seq (.draw [] [.pure, .loc, .pure, .pure, .pure, .pure, .loc, .pure, .pure, .pure, .pure, .pure, .pure, .loc, .pure, .quiet, .pure, .pure, .pure, .pure, .pure, .loc, .pure, .quiet, .pure, .pure, .pure, .pure, .loc, .pure, .quiet, .pure, .pure, .loc, .pure, .pure, .pure, .loc, .pure, .quiet, .pure, .pure, .pure] [0, 1, 2, 3, 4, 5, 6, 7, 8, 9, 10, 11, 12, 13, 14, 15, 16, 17, 18, 19, 20, 21, 22, 23, 24, 25, 26, 27, 28, 29, 30, 31, 32, 33, 34, 35, 36, 37, 38, 39, 40, 41, 42]) (.cond (.seq (.draw [] [.pure, .pure, .loc, .pure, .pure, .loc, .pure, .quiet, .pure, .pure, .loc, .pure, .pure, .big] [0, 1, 2, 3, 4, 5, 6, 7, 8, 9, 10, 11, 12, 13]) .o) .o)))) .o))))))))))) (.seq .o .o)))))))
theorem sh_postroadref08_Near.is (CV : CVT) (t0_N : Int) (t0_In : SV) (t0_L : SV) (t0_Lost : SV) (u0 : Int) (v0 : Int) (without0 : Int) (most0 : Int) (w : World) (R : Value → World → Prop) : sh_postroadref08_Near t0_N t0_In t0_L t0_Lost u0 v0 without0 most0 (fun r0 w' => R (.bool r0) w') w = denF (cx_postroadref09_Next.with CV) Try.f90 sh_postroadref08_Near.plan [.v (.agg #[(.int .i64 t0_N), (.slice t0_In.a t0_In.len t0_In.cap), (.slice t0_L.a t0_L.len t0_L.cap), (.slice t0_Lost.a t0_Lost.len t0_Lost.cap)]), .v (.int .i64 u0), .v (.int .i64 v0), .v (.int .i64 without0), .v (.int .i64 most0)] w R := by kernel_rfl
theorem sh_postroadref08_Near.calls (CV : CVT) (t0_N : Int) (t0_In : SV) (t0_L : SV) (t0_Lost : SV) (u0 : Int) (v0 : Int) (without0 : Int) (most0 : Int) (hcv : CVOk Try.prog CV) {w : World} {R : Ending → World → Prop} (h : sh_postroadref08_Near t0_N t0_In t0_L t0_Lost u0 v0 without0 most0 (fun r0 w' => R (.returned (.bool r0)) w') w) : Calls Try.prog 90 #[(.agg #[(.int .i64 t0_N), (.slice t0_In.a t0_In.len t0_In.cap), (.slice t0_L.a t0_L.len t0_L.cap), (.slice t0_Lost.a t0_Lost.len t0_Lost.cap)]), (.int .i64 u0), (.int .i64 v0), (.int .i64 without0), (.int .i64 most0)] w R :=
  calls_is (cx := cx_postroadref09_Next.with CV) mixed_Try (cx_postroadref09_Next.ok.with CV) hcv Try.func90 sh_postroadref08_Near.plan (xs := [.v (.agg #[(.int .i64 t0_N), (.slice t0_In.a t0_In.len t0_In.cap), (.slice t0_L.a t0_L.len t0_L.cap), (.slice t0_Lost.a t0_Lost.len t0_Lost.cap)]), .v (.int .i64 u0), .v (.int .i64 v0), .v (.int .i64 without0), .v (.int .i64 most0)]) ((args_cons _ (args_cons _ (args_cons _ (args_cons _ (args_cons _ args_nil)))))) (by kernel_rfl) (sh_postroadref08_Near.is CV t0_N t0_In t0_L t0_Lost u0 v0 without0 most0 w (fun v w' => R (.returned v) w')) h
def sh_postroadref08_Near.o : CVT → List X → (Value → World → Prop) → World → Prop
  | CV, [.v (.agg ⟨[.int .i64 t0_N, .slice t0_In_a t0_In_l t0_In_c, .slice t0_L_a t0_L_l t0_L_c, .slice t0_Lost_a t0_Lost_l t0_Lost_c]⟩), .v (.int .i64 u0), .v (.int .i64 v0), .v (.int .i64 without0), .v (.int .i64 most0)], K, w => sh_postroadref08_Near t0_N ⟨t0_In_a, t0_In_l, t0_In_c⟩ ⟨t0_L_a, t0_L_l, t0_L_c⟩ ⟨t0_Lost_a, t0_Lost_l, t0_Lost_c⟩ u0 v0 without0 most0 (fun r0 w' => K (.bool r0) w') w
  | _, _, _, _ => False
def sh_postroadref08_Near.q : CVT → List X → World → (Value → Prop) → Prop
  | CV, [.v (.agg ⟨[.int .i64 t0_N, .slice t0_In_a t0_In_l t0_In_c, .slice t0_L_a t0_L_l t0_L_c, .slice t0_Lost_a t0_Lost_l t0_Lost_c]⟩), .v (.int .i64 u0), .v (.int .i64 v0), .v (.int .i64 without0), .v (.int .i64 most0)], w, K => Quiet (Bool) (fun r => (.bool r)) (fun K1 w' => sh_postroadref08_Near t0_N ⟨t0_In_a, t0_In_l, t0_In_c⟩ ⟨t0_L_a, t0_L_l, t0_L_c⟩ ⟨t0_Lost_a, t0_Lost_l, t0_Lost_c⟩ u0 v0 without0 most0 (fun r0 w'' => K1 r0 w'') w') w (fun r => K (.bool r))
  | _, _, _, _ => False
noncomputable def cx_postroadref08_Near : Cx := Cx.add Try.prog cx_postroadref09_Next 90 sh_postroadref08_Near.o sh_postroadref08_Near.q
theorem cx_postroadref08_Near.ok : CxOk cx_postroadref08_Near := by
  refine CxOk.add cx_postroadref09_Next.ok rfl (fun CV hcv xs K w hx h => ?_) (fun CV hcv xs K w hx h => ?_)
  · unfold sh_postroadref08_Near.o at h; split at h
    · rename_i t0_N t0_In_a t0_In_l t0_In_c t0_L_a t0_L_l t0_L_c t0_Lost_a t0_Lost_l t0_Lost_c u0 v0 without0 most0; exact sh_postroadref08_Near.calls CV t0_N ⟨t0_In_a, t0_In_l, t0_In_c⟩ ⟨t0_L_a, t0_L_l, t0_L_c⟩ ⟨t0_Lost_a, t0_Lost_l, t0_Lost_c⟩ u0 v0 without0 most0 hcv h
    · exact h.elim
  · unfold sh_postroadref08_Near.q at h; split at h
    · rename_i t0_N t0_In_a t0_In_l t0_In_c t0_L_a t0_L_l t0_L_c t0_Lost_a t0_Lost_l t0_Lost_c u0 v0 without0 most0; obtain ⟨r, h1, h2⟩ := h; exact ⟨_, h2, fun w' e => sh_postroadref08_Near.calls CV t0_N ⟨t0_In_a, t0_In_l, t0_In_c⟩ ⟨t0_L_a, t0_L_l, t0_L_c⟩ ⟨t0_Lost_a, t0_Lost_l, t0_Lost_c⟩ u0 v0 without0 most0 hcv (h1 w' e)⟩
    · exact h.elim
def sh_postroadref09_Needed.plan : Plan := (.seq .o (.seq .o (.seq .o (.seq .o (.seq (.seq .o (.block (.loop [.slot 7 .slice, .slot 8 (.int .i64)] [] (.seq (.seq .o (.cond .o .o)) (.join [.slot 7 .slice] [] (.block (.seq (.draw [] [.loc, .pure, .pure, .pure, .quiet, .pure, .quiet, .pure, .pure, .pure, .new, .big, .pure] [0, 1, 2, 3, 4, 5, 6, 7, 8, 9, 10, 11, 12]) (.seq .o (.block (.loop [.slot 7 .slice, .slot 11 (.int .i64)] [] (.seq (.seq .o (.cond .o .o)) (.join [.slot 7 .slice] [] (.block (.seq (.draw [] [.loc, .pure, .pure, .pure, .pure, .quiet, .quiet, .pure, .pure, .pure, .new, .big, .pure] [0, 1, 2, 3, 4, 5, 6, 7, 8, 9, 10, 11, 12]) (.seq (.draw [] [.pure, .pure, .pure, .quiet, .pure, .pure, .pure, .quiet, .pure, .pure, .loc, .pure, .pure, .pure, .quiet, .pure, .pure, .pure, .quiet, .pure, .pure, .loc, .pure, .loc, .pure, .big, .pure, .pure] [0, 1, 2, 3, 4, 5, 6, 7, 8, 9, 10, 11, 12, 13, 14, 15, 16, 17, 18, 19, 20, 21, 22, 23, 24, 25, 26, 27]) (.cond (.draw [] [.pure, .pure, .pure, .pure, .quiet, .pure, .pure, .pure, .quiet, .pure, .loc, .pure, .loc, .pure, .pure, .pure, .pure, .new, .big, .pure] [0, 1, 2, 3, 4, 5, 6, 7, 8, 9, 10, 11, 12, 13, 14, 15, 16, 17, 18, 19]) .o)))) .o))))))) .o))))) (.seq .o .o))))))
theorem sh_postroadref09_Needed.is (CV : CVT) (t0_N : Int) (t0_In : SV) (t0_L : SV) (t0_Lost : SV) (v0 : Int) (w : World) (R : Value → World → Prop) : sh_postroadref09_Needed t0_N t0_In t0_L t0_Lost v0 (fun r0 w' => R (.slice r0.a r0.len r0.cap) w') w = denF (cx_postroadref08_Near.with CV) Try.f68 sh_postroadref09_Needed.plan [.v (.agg #[(.int .i64 t0_N), (.slice t0_In.a t0_In.len t0_In.cap), (.slice t0_L.a t0_L.len t0_L.cap), (.slice t0_Lost.a t0_Lost.len t0_Lost.cap)]), .v (.int .i64 v0)] w R := by kernel_rfl
theorem sh_postroadref09_Needed.calls (CV : CVT) (t0_N : Int) (t0_In : SV) (t0_L : SV) (t0_Lost : SV) (v0 : Int) (hcv : CVOk Try.prog CV) {w : World} {R : Ending → World → Prop} (h : sh_postroadref09_Needed t0_N t0_In t0_L t0_Lost v0 (fun r0 w' => R (.returned (.slice r0.a r0.len r0.cap)) w') w) : Calls Try.prog 68 #[(.agg #[(.int .i64 t0_N), (.slice t0_In.a t0_In.len t0_In.cap), (.slice t0_L.a t0_L.len t0_L.cap), (.slice t0_Lost.a t0_Lost.len t0_Lost.cap)]), (.int .i64 v0)] w R :=
  calls_is (cx := cx_postroadref08_Near.with CV) mixed_Try (cx_postroadref08_Near.ok.with CV) hcv Try.func68 sh_postroadref09_Needed.plan (xs := [.v (.agg #[(.int .i64 t0_N), (.slice t0_In.a t0_In.len t0_In.cap), (.slice t0_L.a t0_L.len t0_L.cap), (.slice t0_Lost.a t0_Lost.len t0_Lost.cap)]), .v (.int .i64 v0)]) ((args_cons _ (args_cons _ args_nil))) (by kernel_rfl) (sh_postroadref09_Needed.is CV t0_N t0_In t0_L t0_Lost v0 w (fun v w' => R (.returned v) w')) h
def sh_postroadref09_Needed.o : CVT → List X → (Value → World → Prop) → World → Prop
  | CV, [.v (.agg ⟨[.int .i64 t0_N, .slice t0_In_a t0_In_l t0_In_c, .slice t0_L_a t0_L_l t0_L_c, .slice t0_Lost_a t0_Lost_l t0_Lost_c]⟩), .v (.int .i64 v0)], K, w => sh_postroadref09_Needed t0_N ⟨t0_In_a, t0_In_l, t0_In_c⟩ ⟨t0_L_a, t0_L_l, t0_L_c⟩ ⟨t0_Lost_a, t0_Lost_l, t0_Lost_c⟩ v0 (fun r0 w' => K (.slice r0.a r0.len r0.cap) w') w
  | _, _, _, _ => False
def sh_postroadref09_Needed.q : CVT → List X → World → (Value → Prop) → Prop
  | CV, [.v (.agg ⟨[.int .i64 t0_N, .slice t0_In_a t0_In_l t0_In_c, .slice t0_L_a t0_L_l t0_L_c, .slice t0_Lost_a t0_Lost_l t0_Lost_c]⟩), .v (.int .i64 v0)], w, K => Quiet (SV) (fun r => (.slice r.a r.len r.cap)) (fun K1 w' => sh_postroadref09_Needed t0_N ⟨t0_In_a, t0_In_l, t0_In_c⟩ ⟨t0_L_a, t0_L_l, t0_L_c⟩ ⟨t0_Lost_a, t0_Lost_l, t0_Lost_c⟩ v0 (fun r0 w'' => K1 r0 w'') w') w (fun r => K (.slice r.a r.len r.cap))
  | _, _, _, _ => False
noncomputable def cx_postroadref09_Needed : Cx := Cx.add Try.prog cx_postroadref08_Near 68 sh_postroadref09_Needed.o sh_postroadref09_Needed.q
theorem cx_postroadref09_Needed.ok : CxOk cx_postroadref09_Needed := by
  refine CxOk.add cx_postroadref08_Near.ok rfl (fun CV hcv xs K w hx h => ?_) (fun CV hcv xs K w hx h => ?_)
  · unfold sh_postroadref09_Needed.o at h; split at h
    · rename_i t0_N t0_In_a t0_In_l t0_In_c t0_L_a t0_L_l t0_L_c t0_Lost_a t0_Lost_l t0_Lost_c v0; exact sh_postroadref09_Needed.calls CV t0_N ⟨t0_In_a, t0_In_l, t0_In_c⟩ ⟨t0_L_a, t0_L_l, t0_L_c⟩ ⟨t0_Lost_a, t0_Lost_l, t0_Lost_c⟩ v0 hcv h
    · exact h.elim
  · unfold sh_postroadref09_Needed.q at h; split at h
    · rename_i t0_N t0_In_a t0_In_l t0_In_c t0_L_a t0_L_l t0_L_c t0_Lost_a t0_Lost_l t0_Lost_c v0; obtain ⟨r, h1, h2⟩ := h; exact ⟨_, h2, fun w' e => sh_postroadref09_Needed.calls CV t0_N ⟨t0_In_a, t0_In_l, t0_In_c⟩ ⟨t0_L_a, t0_L_l, t0_L_c⟩ ⟨t0_Lost_a, t0_Lost_l, t0_Lost_c⟩ v0 hcv (h1 w' e)⟩
    · exact h.elim
def sh_postroadref08_Put.plan : Plan := (.seq .o (.seq .o (.join [.box 10 [(.int .i64), .slice, .slice, .slice]] [] (.seq .o (.cond (.seq .o .o) .o)) (.seq .o (.join [.slot 14 .slice] [] (.seq .o (.block (.loop [.slot 14 .slice, .slot 15 (.int .i64)] [] (.seq (.seq .o (.cond .o .o)) (.join [.slot 14 .slice] [] (.block (.seq .o (.cond .o .o))) .o))))) (.seq .o (.seq .o (.seq .o .o))))))))
theorem sh_postroadref08_Put.is (CV : CVT) (t0_N : Int) (t0_In : SV) (t0_L : SV) (t0_Lost : SV) (u0 : Int) (v0 : Int) (w_0 : Int) (mid0 : Int) (w : World) (R : Value → World → Prop) : sh_postroadref08_Put t0_N t0_In t0_L t0_Lost u0 v0 w_0 mid0 (fun r0 r1 r2 r3 r4 w' => R (.tuple #[(.agg #[(.int .i64 r0), (.slice r1.a r1.len r1.cap), (.slice r2.a r2.len r2.cap), (.slice r3.a r3.len r3.cap)]), (.bool r4)]) w') w = denF (cx_postroadref09_Needed.with CV) Try.f69 sh_postroadref08_Put.plan [.v (.agg #[(.int .i64 t0_N), (.slice t0_In.a t0_In.len t0_In.cap), (.slice t0_L.a t0_L.len t0_L.cap), (.slice t0_Lost.a t0_Lost.len t0_Lost.cap)]), .v (.int .i64 u0), .v (.int .i64 v0), .v (.int .i64 w_0), .v (.int .i64 mid0)] w R := by kernel_rfl
theorem sh_postroadref08_Put.calls (CV : CVT) (t0_N : Int) (t0_In : SV) (t0_L : SV) (t0_Lost : SV) (u0 : Int) (v0 : Int) (w_0 : Int) (mid0 : Int) (hcv : CVOk Try.prog CV) {w : World} {R : Ending → World → Prop} (h : sh_postroadref08_Put t0_N t0_In t0_L t0_Lost u0 v0 w_0 mid0 (fun r0 r1 r2 r3 r4 w' => R (.returned (.tuple #[(.agg #[(.int .i64 r0), (.slice r1.a r1.len r1.cap), (.slice r2.a r2.len r2.cap), (.slice r3.a r3.len r3.cap)]), (.bool r4)])) w') w) : Calls Try.prog 69 #[(.agg #[(.int .i64 t0_N), (.slice t0_In.a t0_In.len t0_In.cap), (.slice t0_L.a t0_L.len t0_L.cap), (.slice t0_Lost.a t0_Lost.len t0_Lost.cap)]), (.int .i64 u0), (.int .i64 v0), (.int .i64 w_0), (.int .i64 mid0)] w R :=
  calls_is (cx := cx_postroadref09_Needed.with CV) mixed_Try (cx_postroadref09_Needed.ok.with CV) hcv Try.func69 sh_postroadref08_Put.plan (xs := [.v (.agg #[(.int .i64 t0_N), (.slice t0_In.a t0_In.len t0_In.cap), (.slice t0_L.a t0_L.len t0_L.cap), (.slice t0_Lost.a t0_Lost.len t0_Lost.cap)]), .v (.int .i64 u0), .v (.int .i64 v0), .v (.int .i64 w_0), .v (.int .i64 mid0)]) ((args_cons _ (args_cons _ (args_cons _ (args_cons _ (args_cons _ args_nil)))))) (by kernel_rfl) (sh_postroadref08_Put.is CV t0_N t0_In t0_L t0_Lost u0 v0 w_0 mid0 w (fun v w' => R (.returned v) w')) h
def sh_postroadref08_Put.o : CVT → List X → (Value → World → Prop) → World → Prop
  | CV, [.v (.agg ⟨[.int .i64 t0_N, .slice t0_In_a t0_In_l t0_In_c, .slice t0_L_a t0_L_l t0_L_c, .slice t0_Lost_a t0_Lost_l t0_Lost_c]⟩), .v (.int .i64 u0), .v (.int .i64 v0), .v (.int .i64 w_0), .v (.int .i64 mid0)], K, w => sh_postroadref08_Put t0_N ⟨t0_In_a, t0_In_l, t0_In_c⟩ ⟨t0_L_a, t0_L_l, t0_L_c⟩ ⟨t0_Lost_a, t0_Lost_l, t0_Lost_c⟩ u0 v0 w_0 mid0 (fun r0 r1 r2 r3 r4 w' => K (.tuple #[(.agg #[(.int .i64 r0), (.slice r1.a r1.len r1.cap), (.slice r2.a r2.len r2.cap), (.slice r3.a r3.len r3.cap)]), (.bool r4)]) w') w
  | _, _, _, _ => False
def sh_postroadref08_Put.q : CVT → List X → World → (Value → Prop) → Prop
  | CV, [.v (.agg ⟨[.int .i64 t0_N, .slice t0_In_a t0_In_l t0_In_c, .slice t0_L_a t0_L_l t0_L_c, .slice t0_Lost_a t0_Lost_l t0_Lost_c]⟩), .v (.int .i64 u0), .v (.int .i64 v0), .v (.int .i64 w_0), .v (.int .i64 mid0)], w, K => Quiet (Int × SV × SV × SV × Bool) (fun r => (.tuple #[(.agg #[(.int .i64 r.1), (.slice r.2.1.a r.2.1.len r.2.1.cap), (.slice r.2.2.1.a r.2.2.1.len r.2.2.1.cap), (.slice r.2.2.2.1.a r.2.2.2.1.len r.2.2.2.1.cap)]), (.bool r.2.2.2.2)])) (fun K1 w' => sh_postroadref08_Put t0_N ⟨t0_In_a, t0_In_l, t0_In_c⟩ ⟨t0_L_a, t0_L_l, t0_L_c⟩ ⟨t0_Lost_a, t0_Lost_l, t0_Lost_c⟩ u0 v0 w_0 mid0 (fun r0 r1 r2 r3 r4 w'' => K1 (r0, r1, r2, r3, r4) w'') w') w (fun r => K (.tuple #[(.agg #[(.int .i64 r.1), (.slice r.2.1.a r.2.1.len r.2.1.cap), (.slice r.2.2.1.a r.2.2.1.len r.2.2.1.cap), (.slice r.2.2.2.1.a r.2.2.2.1.len r.2.2.2.1.cap)]), (.bool r.2.2.2.2)]))
  | _, _, _, _ => False
noncomputable def cx_postroadref08_Put : Cx := Cx.add Try.prog cx_postroadref09_Needed 69 sh_postroadref08_Put.o sh_postroadref08_Put.q
theorem cx_postroadref08_Put.ok : CxOk cx_postroadref08_Put := by
  refine CxOk.add cx_postroadref09_Needed.ok rfl (fun CV hcv xs K w hx h => ?_) (fun CV hcv xs K w hx h => ?_)
  · unfold sh_postroadref08_Put.o at h; split at h
    · rename_i t0_N t0_In_a t0_In_l t0_In_c t0_L_a t0_L_l t0_L_c t0_Lost_a t0_Lost_l t0_Lost_c u0 v0 w_0 mid0; exact sh_postroadref08_Put.calls CV t0_N ⟨t0_In_a, t0_In_l, t0_In_c⟩ ⟨t0_L_a, t0_L_l, t0_L_c⟩ ⟨t0_Lost_a, t0_Lost_l, t0_Lost_c⟩ u0 v0 w_0 mid0 hcv h
    · exact h.elim
  · unfold sh_postroadref08_Put.q at h; split at h
    · rename_i t0_N t0_In_a t0_In_l t0_In_c t0_L_a t0_L_l t0_L_c t0_Lost_a t0_Lost_l t0_Lost_c u0 v0 w_0 mid0; obtain ⟨r, h1, h2⟩ := h; exact ⟨_, h2, fun w' e => sh_postroadref08_Put.calls CV t0_N ⟨t0_In_a, t0_In_l, t0_In_c⟩ ⟨t0_L_a, t0_L_l, t0_L_c⟩ ⟨t0_Lost_a, t0_Lost_l, t0_Lost_c⟩ u0 v0 w_0 mid0 hcv (h1 w' e)⟩
    · exact h.elim
def sh_postroadref08_Take.plan : Plan := (.seq .o (.seq (.seq .o (.cond (.seq .o .o) .o)) (.seq .o (.join [.box 6 [(.int .i64), .slice, .slice, .slice]] [] (.seq .o (.block (.loop [.slot 7 (.int .i64), .box 6 [(.int .i64), .slice, .slice, .slice]] [] (.seq (.seq .o (.cond .o .o)) (.seq (.block (.seq .o (.seq .o (.seq .o (.seq .o (.join [.slot 8 (.int .i64)] [] (.seq .o (.cond .o .o)) (.join [.slot 9 (.int .i64)] [] (.seq .o (.cond .o .o)) (.seq .o .o)))))))) .o))))) (.join [.box 6 [(.int .i64), .slice, .slice, .slice]] [] (.seq .o (.block (.loop [.slot 14 (.int .i64), .box 6 [(.int .i64), .slice, .slice, .slice]] [] (.seq (.seq .o (.cond .o .o)) (.join [.box 6 [(.int .i64), .slice, .slice, .slice]] [] (.block (.seq .o (.cond (.draw [] [.pure, .loc, .pure, .loc, .pure, .pure, .quiet, .new, .big, .pure, .big] [0, 1, 2, 3, 4, 5, 6, 7, 8, 9, 10]) .o))) .o))))) (.seq .o .o))))))
theorem sh_postroadref08_Take.is (CV : CVT) (t0_N : Int) (t0_In : SV) (t0_L : SV) (t0_Lost : SV) (v0 : Int) (w : World) (R : Value → World → Prop) : sh_postroadref08_Take t0_N t0_In t0_L t0_Lost v0 (fun r0 r1 r2 r3 r4 w' => R (.tuple #[(.agg #[(.int .i64 r0), (.slice r1.a r1.len r1.cap), (.slice r2.a r2.len r2.cap), (.slice r3.a r3.len r3.cap)]), (.bool r4)]) w') w = denF (cx_postroadref08_Put.with CV) Try.f73 sh_postroadref08_Take.plan [.v (.agg #[(.int .i64 t0_N), (.slice t0_In.a t0_In.len t0_In.cap), (.slice t0_L.a t0_L.len t0_L.cap), (.slice t0_Lost.a t0_Lost.len t0_Lost.cap)]), .v (.int .i64 v0)] w R := by kernel_rfl
theorem sh_postroadref08_Take.calls (CV : CVT) (t0_N : Int) (t0_In : SV) (t0_L : SV) (t0_Lost : SV) (v0 : Int) (hcv : CVOk Try.prog CV) {w : World} {R : Ending → World → Prop} (h : sh_postroadref08_Take t0_N t0_In t0_L t0_Lost v0 (fun r0 r1 r2 r3 r4 w' => R (.returned (.tuple #[(.agg #[(.int .i64 r0), (.slice r1.a r1.len r1.cap), (.slice r2.a r2.len r2.cap), (.slice r3.a r3.len r3.cap)]), (.bool r4)])) w') w) : Calls Try.prog 73 #[(.agg #[(.int .i64 t0_N), (.slice t0_In.a t0_In.len t0_In.cap), (.slice t0_L.a t0_L.len t0_L.cap), (.slice t0_Lost.a t0_Lost.len t0_Lost.cap)]), (.int .i64 v0)] w R :=
  calls_is (cx := cx_postroadref08_Put.with CV) mixed_Try (cx_postroadref08_Put.ok.with CV) hcv Try.func73 sh_postroadref08_Take.plan (xs := [.v (.agg #[(.int .i64 t0_N), (.slice t0_In.a t0_In.len t0_In.cap), (.slice t0_L.a t0_L.len t0_L.cap), (.slice t0_Lost.a t0_Lost.len t0_Lost.cap)]), .v (.int .i64 v0)]) ((args_cons _ (args_cons _ args_nil))) (by kernel_rfl) (sh_postroadref08_Take.is CV t0_N t0_In t0_L t0_Lost v0 w (fun v w' => R (.returned v) w')) h
def sh_postroadref08_Take.o : CVT → List X → (Value → World → Prop) → World → Prop
  | CV, [.v (.agg ⟨[.int .i64 t0_N, .slice t0_In_a t0_In_l t0_In_c, .slice t0_L_a t0_L_l t0_L_c, .slice t0_Lost_a t0_Lost_l t0_Lost_c]⟩), .v (.int .i64 v0)], K, w => sh_postroadref08_Take t0_N ⟨t0_In_a, t0_In_l, t0_In_c⟩ ⟨t0_L_a, t0_L_l, t0_L_c⟩ ⟨t0_Lost_a, t0_Lost_l, t0_Lost_c⟩ v0 (fun r0 r1 r2 r3 r4 w' => K (.tuple #[(.agg #[(.int .i64 r0), (.slice r1.a r1.len r1.cap), (.slice r2.a r2.len r2.cap), (.slice r3.a r3.len r3.cap)]), (.bool r4)]) w') w
  | _, _, _, _ => False
def sh_postroadref08_Take.q : CVT → List X → World → (Value → Prop) → Prop
  | CV, [.v (.agg ⟨[.int .i64 t0_N, .slice t0_In_a t0_In_l t0_In_c, .slice t0_L_a t0_L_l t0_L_c, .slice t0_Lost_a t0_Lost_l t0_Lost_c]⟩), .v (.int .i64 v0)], w, K => Quiet (Int × SV × SV × SV × Bool) (fun r => (.tuple #[(.agg #[(.int .i64 r.1), (.slice r.2.1.a r.2.1.len r.2.1.cap), (.slice r.2.2.1.a r.2.2.1.len r.2.2.1.cap), (.slice r.2.2.2.1.a r.2.2.2.1.len r.2.2.2.1.cap)]), (.bool r.2.2.2.2)])) (fun K1 w' => sh_postroadref08_Take t0_N ⟨t0_In_a, t0_In_l, t0_In_c⟩ ⟨t0_L_a, t0_L_l, t0_L_c⟩ ⟨t0_Lost_a, t0_Lost_l, t0_Lost_c⟩ v0 (fun r0 r1 r2 r3 r4 w'' => K1 (r0, r1, r2, r3, r4) w'') w') w (fun r => K (.tuple #[(.agg #[(.int .i64 r.1), (.slice r.2.1.a r.2.1.len r.2.1.cap), (.slice r.2.2.1.a r.2.2.1.len r.2.2.1.cap), (.slice r.2.2.2.1.a r.2.2.2.1.len r.2.2.2.1.cap)]), (.bool r.2.2.2.2)]))
  | _, _, _, _ => False
noncomputable def cx_postroadref08_Take : Cx := Cx.add Try.prog cx_postroadref08_Put 73 sh_postroadref08_Take.o sh_postroadref08_Take.q
theorem cx_postroadref08_Take.ok : CxOk cx_postroadref08_Take := by
  refine CxOk.add cx_postroadref08_Put.ok rfl (fun CV hcv xs K w hx h => ?_) (fun CV hcv xs K w hx h => ?_)
  · unfold sh_postroadref08_Take.o at h; split at h
    · rename_i t0_N t0_In_a t0_In_l t0_In_c t0_L_a t0_L_l t0_L_c t0_Lost_a t0_Lost_l t0_Lost_c v0; exact sh_postroadref08_Take.calls CV t0_N ⟨t0_In_a, t0_In_l, t0_In_c⟩ ⟨t0_L_a, t0_L_l, t0_L_c⟩ ⟨t0_Lost_a, t0_Lost_l, t0_Lost_c⟩ v0 hcv h
    · exact h.elim
  · unfold sh_postroadref08_Take.q at h; split at h
    · rename_i t0_N t0_In_a t0_In_l t0_In_c t0_L_a t0_L_l t0_L_c t0_Lost_a t0_Lost_l t0_Lost_c v0; obtain ⟨r, h1, h2⟩ := h; exact ⟨_, h2, fun w' e => sh_postroadref08_Take.calls CV t0_N ⟨t0_In_a, t0_In_l, t0_In_c⟩ ⟨t0_L_a, t0_L_l, t0_L_c⟩ ⟨t0_Lost_a, t0_Lost_l, t0_Lost_c⟩ v0 hcv (h1 w' e)⟩
    · exact h.elim
def sh_postroadref09_Build.plan : Plan := (.seq .o (.seq .o (.seq .o (.join [.box 4 [.slice, .slice]] [] (.seq .o (.block (.loop [.slot 5 (.int .i64), .box 4 [.slice, .slice]] [] (.seq (.seq .o (.cond .o .o)) (.seq (.block .o) .o))))) (.join [.box 4 [.slice, .slice]] [3] (.seq .o (.block (.loop [.slot 6 (.int .i64), .box 3 [(.int .i64), .slice, .slice, .slice], .box 4 [.slice, .slice]] [] (.seq (.seq .o (.cond .o .o)) (.join [.box 3 [(.int .i64), .slice, .slice, .slice], .box 4 [.slice, .slice]] [] (.block (.seq .o (.seq .o (.seq .o (.join [.box 3 [(.int .i64), .slice, .slice, .slice]] [] (.seq .o (.block (.loop [.slot 9 (.int .i64), .box 3 [(.int .i64), .slice, .slice, .slice]] [] (.seq (.seq .o (.cond .o .o)) (.seq (.block (.seq (.draw [] [.loc, .pure, .pure, .pure, .pure, .quiet, .pure, .pure, .pure, .pure, .quiet, .pure, .pure, .pure, .pure, .pure, .quiet, .pure, .pure, .pure, .pure, .pure, .quiet, .bigz, .pure, .pure, .pure, .alc, .big, .pure] [0, 1, 2, 3, 4, 5, 6, 7, 8, 9, 10, 11, 12, 13, 14, 15, 16, 17, 18, 19, 20, 21, 22, 23, 24, 25, 26, 27, 28, 29]) .o)) .o))))) (.seq .o (.join [.box 4 [.slice, .slice]] [] (.seq .o (.block (.loop [.slot 13 (.int .i64), .box 4 [.slice, .slice]] [] (.seq (.seq .o (.cond .o .o)) (.seq (.block (.seq (.draw [] [.loc, .pure, .pure, .pure, .pure, .quiet, .quiet, .pure, .pure, .pure, .new, .big, .pure] [0, 1, 2, 3, 4, 5, 6, 7, 8, 9, 10, 11, 12]) (.draw [] [.pure, .loc, .pure, .pure, .pure, .pure, .quiet, .loc, .pure, .new, .big, .pure, .big] [0, 1, 2, 3, 4, 5, 6, 7, 8, 9, 10, 11, 12]))) .o))))) (.seq .o (.join [.box 4 [.slice, .slice]] [] (.seq .o (.block (.loop [.slot 17 (.int .i64), .box 4 [.slice, .slice]] [] (.seq (.seq .o (.cond .o .o)) (.seq (.block (.seq (.draw [] [.loc, .pure, .pure, .pure, .quiet, .pure, .quiet, .pure, .pure, .pure, .new, .big, .pure] [0, 1, 2, 3, 4, 5, 6, 7, 8, 9, 10, 11, 12]) (.draw [] [.pure, .loc, .pure, .pure, .pure, .quiet, .pure, .loc, .pure, .new, .big, .pure, .big] [0, 1, 2, 3, 4, 5, 6, 7, 8, 9, 10, 11, 12]))) .o))))) (.seq .o .o)))))))))) .o))))) (.seq .o .o))))))
theorem sh_postroadref09_Build.is (CV : CVT) (g0_M_N : Int) (g0_M_Arcs : SV) (g0_Kept : SV) (w : World) (R : Value → World → Prop) : sh_postroadref09_Build g0_M_N g0_M_Arcs g0_Kept (fun r0 r1 w' => R (.agg #[(.slice r0.a r0.len r0.cap), (.slice r1.a r1.len r1.cap)]) w') w = denF (cx_postroadref08_Take.with CV) Try.f40 sh_postroadref09_Build.plan [.v (.agg #[(.int .i64 g0_M_N), (.slice g0_M_Arcs.a g0_M_Arcs.len g0_M_Arcs.cap), (.slice g0_Kept.a g0_Kept.len g0_Kept.cap)])] w R := by kernel_rfl
theorem sh_postroadref09_Build.calls (CV : CVT) (g0_M_N : Int) (g0_M_Arcs : SV) (g0_Kept : SV) (hcv : CVOk Try.prog CV) {w : World} {R : Ending → World → Prop} (h : sh_postroadref09_Build g0_M_N g0_M_Arcs g0_Kept (fun r0 r1 w' => R (.returned (.agg #[(.slice r0.a r0.len r0.cap), (.slice r1.a r1.len r1.cap)])) w') w) : Calls Try.prog 40 #[(.agg #[(.int .i64 g0_M_N), (.slice g0_M_Arcs.a g0_M_Arcs.len g0_M_Arcs.cap), (.slice g0_Kept.a g0_Kept.len g0_Kept.cap)])] w R :=
  calls_is (cx := cx_postroadref08_Take.with CV) mixed_Try (cx_postroadref08_Take.ok.with CV) hcv Try.func40 sh_postroadref09_Build.plan (xs := [.v (.agg #[(.int .i64 g0_M_N), (.slice g0_M_Arcs.a g0_M_Arcs.len g0_M_Arcs.cap), (.slice g0_Kept.a g0_Kept.len g0_Kept.cap)])]) ((args_cons _ args_nil)) (by kernel_rfl) (sh_postroadref09_Build.is CV g0_M_N g0_M_Arcs g0_Kept w (fun v w' => R (.returned v) w')) h
def sh_postroadref09_Build.o : CVT → List X → (Value → World → Prop) → World → Prop
  | CV, [.v (.agg ⟨[.int .i64 g0_M_N, .slice g0_M_Arcs_a g0_M_Arcs_l g0_M_Arcs_c, .slice g0_Kept_a g0_Kept_l g0_Kept_c]⟩)], K, w => sh_postroadref09_Build g0_M_N ⟨g0_M_Arcs_a, g0_M_Arcs_l, g0_M_Arcs_c⟩ ⟨g0_Kept_a, g0_Kept_l, g0_Kept_c⟩ (fun r0 r1 w' => K (.agg #[(.slice r0.a r0.len r0.cap), (.slice r1.a r1.len r1.cap)]) w') w
  | _, _, _, _ => False
def sh_postroadref09_Build.q : CVT → List X → World → (Value → Prop) → Prop
  | CV, [.v (.agg ⟨[.int .i64 g0_M_N, .slice g0_M_Arcs_a g0_M_Arcs_l g0_M_Arcs_c, .slice g0_Kept_a g0_Kept_l g0_Kept_c]⟩)], w, K => Quiet (SV × SV) (fun r => (.agg #[(.slice r.1.a r.1.len r.1.cap), (.slice r.2.a r.2.len r.2.cap)])) (fun K1 w' => sh_postroadref09_Build g0_M_N ⟨g0_M_Arcs_a, g0_M_Arcs_l, g0_M_Arcs_c⟩ ⟨g0_Kept_a, g0_Kept_l, g0_Kept_c⟩ (fun r0 r1 w'' => K1 (r0, r1) w'') w') w (fun r => K (.agg #[(.slice r.1.a r.1.len r.1.cap), (.slice r.2.a r.2.len r.2.cap)]))
  | _, _, _, _ => False
noncomputable def cx_postroadref09_Build : Cx := Cx.add Try.prog cx_postroadref08_Take 40 sh_postroadref09_Build.o sh_postroadref09_Build.q
theorem cx_postroadref09_Build.ok : CxOk cx_postroadref09_Build := by
  refine CxOk.add cx_postroadref08_Take.ok rfl (fun CV hcv xs K w hx h => ?_) (fun CV hcv xs K w hx h => ?_)
  · unfold sh_postroadref09_Build.o at h; split at h
    · rename_i g0_M_N g0_M_Arcs_a g0_M_Arcs_l g0_M_Arcs_c g0_Kept_a g0_Kept_l g0_Kept_c; exact sh_postroadref09_Build.calls CV g0_M_N ⟨g0_M_Arcs_a, g0_M_Arcs_l, g0_M_Arcs_c⟩ ⟨g0_Kept_a, g0_Kept_l, g0_Kept_c⟩ hcv h
    · exact h.elim
  · unfold sh_postroadref09_Build.q at h; split at h
    · rename_i g0_M_N g0_M_Arcs_a g0_M_Arcs_l g0_M_Arcs_c g0_Kept_a g0_Kept_l g0_Kept_c; obtain ⟨r, h1, h2⟩ := h; exact ⟨_, h2, fun w' e => sh_postroadref09_Build.calls CV g0_M_N ⟨g0_M_Arcs_a, g0_M_Arcs_l, g0_M_Arcs_c⟩ ⟨g0_Kept_a, g0_Kept_l, g0_Kept_c⟩ hcv (h1 w' e)⟩
    · exact h.elim
def sh_postroadref09_Of.plan : Plan := (.seq .o (.seq .o (.seq .o .o)))
theorem sh_postroadref09_Of.is (CV : CVT) (m0_N : Int) (m0_Arcs : SV) (w : World) (R : Value → World → Prop) : sh_postroadref09_Of m0_N m0_Arcs (fun r0 r1 w' => R (.agg #[(.slice r0.a r0.len r0.cap), (.slice r1.a r1.len r1.cap)]) w') w = denF (cx_postroadref09_Build.with CV) Try.f19 sh_postroadref09_Of.plan [.v (.agg #[(.int .i64 m0_N), (.slice m0_Arcs.a m0_Arcs.len m0_Arcs.cap)])] w R := by kernel_rfl
theorem sh_postroadref09_Of.calls (CV : CVT) (m0_N : Int) (m0_Arcs : SV) (hcv : CVOk Try.prog CV) {w : World} {R : Ending → World → Prop} (h : sh_postroadref09_Of m0_N m0_Arcs (fun r0 r1 w' => R (.returned (.agg #[(.slice r0.a r0.len r0.cap), (.slice r1.a r1.len r1.cap)])) w') w) : Calls Try.prog 19 #[(.agg #[(.int .i64 m0_N), (.slice m0_Arcs.a m0_Arcs.len m0_Arcs.cap)])] w R :=
  calls_is (cx := cx_postroadref09_Build.with CV) mixed_Try (cx_postroadref09_Build.ok.with CV) hcv Try.func19 sh_postroadref09_Of.plan (xs := [.v (.agg #[(.int .i64 m0_N), (.slice m0_Arcs.a m0_Arcs.len m0_Arcs.cap)])]) ((args_cons _ args_nil)) (by kernel_rfl) (sh_postroadref09_Of.is CV m0_N m0_Arcs w (fun v w' => R (.returned v) w')) h
def sh_postroadref09_Of.o : CVT → List X → (Value → World → Prop) → World → Prop
  | CV, [.v (.agg ⟨[.int .i64 m0_N, .slice m0_Arcs_a m0_Arcs_l m0_Arcs_c]⟩)], K, w => sh_postroadref09_Of m0_N ⟨m0_Arcs_a, m0_Arcs_l, m0_Arcs_c⟩ (fun r0 r1 w' => K (.agg #[(.slice r0.a r0.len r0.cap), (.slice r1.a r1.len r1.cap)]) w') w
  | _, _, _, _ => False
def sh_postroadref09_Of.q : CVT → List X → World → (Value → Prop) → Prop
  | CV, [.v (.agg ⟨[.int .i64 m0_N, .slice m0_Arcs_a m0_Arcs_l m0_Arcs_c]⟩)], w, K => Quiet (SV × SV) (fun r => (.agg #[(.slice r.1.a r.1.len r.1.cap), (.slice r.2.a r.2.len r.2.cap)])) (fun K1 w' => sh_postroadref09_Of m0_N ⟨m0_Arcs_a, m0_Arcs_l, m0_Arcs_c⟩ (fun r0 r1 w'' => K1 (r0, r1) w'') w') w (fun r => K (.agg #[(.slice r.1.a r.1.len r.1.cap), (.slice r.2.a r.2.len r.2.cap)]))
  | _, _, _, _ => False
noncomputable def cx_postroadref09_Of : Cx := Cx.add Try.prog cx_postroadref09_Build 19 sh_postroadref09_Of.o sh_postroadref09_Of.q
theorem cx_postroadref09_Of.ok : CxOk cx_postroadref09_Of := by
  refine CxOk.add cx_postroadref09_Build.ok rfl (fun CV hcv xs K w hx h => ?_) (fun CV hcv xs K w hx h => ?_)
  · unfold sh_postroadref09_Of.o at h; split at h
    · rename_i m0_N m0_Arcs_a m0_Arcs_l m0_Arcs_c; exact sh_postroadref09_Of.calls CV m0_N ⟨m0_Arcs_a, m0_Arcs_l, m0_Arcs_c⟩ hcv h
    · exact h.elim
  · unfold sh_postroadref09_Of.q at h; split at h
    · rename_i m0_N m0_Arcs_a m0_Arcs_l m0_Arcs_c; obtain ⟨r, h1, h2⟩ := h; exact ⟨_, h2, fun w' e => sh_postroadref09_Of.calls CV m0_N ⟨m0_Arcs_a, m0_Arcs_l, m0_Arcs_c⟩ hcv (h1 w' e)⟩
    · exact h.elim
def sh_postroadref07_Walk.plan : Plan := (.seq .o (.seq (.seq .o (.cond (.seq .o .o) .o)) (.seq .o (.join [.slot 1 (.int .i64), .slot 9 (.int .i64)] [] (.seq .o (.block (.loop [.slot 1 (.int .i64), .slot 9 (.int .i64), .slot 10 (.int .i64)] [] (.seq (.seq .o (.cond .o .o)) (.seq (.block (.seq .o (.seq (.seq .o (.cond (.seq .o .o) .o)) (.seq .o .o)))) .o))))) (.seq .o .o)))))
theorem sh_postroadref07_Walk.is (CV : CVT) (m0_N : Int) (m0_Arcs : SV) (s0 : Int) (arcs0 : SV) (w : World) (R : Value → World → Prop) : sh_postroadref07_Walk m0_N m0_Arcs s0 arcs0 (fun r0 r1 r2 w' => R (.tuple #[(.int .i64 r0), (.int .i64 r1), (.bool r2)]) w') w = denF (cx_postroadref09_Of.with CV) Try.f20 sh_postroadref07_Walk.plan [.v (.agg #[(.int .i64 m0_N), (.slice m0_Arcs.a m0_Arcs.len m0_Arcs.cap)]), .v (.int .i64 s0), .v (.slice arcs0.a arcs0.len arcs0.cap)] w R := by kernel_rfl
theorem sh_postroadref07_Walk.calls (CV : CVT) (m0_N : Int) (m0_Arcs : SV) (s0 : Int) (arcs0 : SV) (hcv : CVOk Try.prog CV) {w : World} {R : Ending → World → Prop} (h : sh_postroadref07_Walk m0_N m0_Arcs s0 arcs0 (fun r0 r1 r2 w' => R (.returned (.tuple #[(.int .i64 r0), (.int .i64 r1), (.bool r2)])) w') w) : Calls Try.prog 20 #[(.agg #[(.int .i64 m0_N), (.slice m0_Arcs.a m0_Arcs.len m0_Arcs.cap)]), (.int .i64 s0), (.slice arcs0.a arcs0.len arcs0.cap)] w R :=
  calls_is (cx := cx_postroadref09_Of.with CV) mixed_Try (cx_postroadref09_Of.ok.with CV) hcv Try.func20 sh_postroadref07_Walk.plan (xs := [.v (.agg #[(.int .i64 m0_N), (.slice m0_Arcs.a m0_Arcs.len m0_Arcs.cap)]), .v (.int .i64 s0), .v (.slice arcs0.a arcs0.len arcs0.cap)]) ((args_cons _ (args_cons _ (args_cons _ args_nil)))) (by kernel_rfl) (sh_postroadref07_Walk.is CV m0_N m0_Arcs s0 arcs0 w (fun v w' => R (.returned v) w')) h
def sh_postroadref07_Walk.o : CVT → List X → (Value → World → Prop) → World → Prop
  | CV, [.v (.agg ⟨[.int .i64 m0_N, .slice m0_Arcs_a m0_Arcs_l m0_Arcs_c]⟩), .v (.int .i64 s0), .v (.slice arcs0_a arcs0_l arcs0_c)], K, w => sh_postroadref07_Walk m0_N ⟨m0_Arcs_a, m0_Arcs_l, m0_Arcs_c⟩ s0 ⟨arcs0_a, arcs0_l, arcs0_c⟩ (fun r0 r1 r2 w' => K (.tuple #[(.int .i64 r0), (.int .i64 r1), (.bool r2)]) w') w
  | _, _, _, _ => False
def sh_postroadref07_Walk.q : CVT → List X → World → (Value → Prop) → Prop
  | CV, [.v (.agg ⟨[.int .i64 m0_N, .slice m0_Arcs_a m0_Arcs_l m0_Arcs_c]⟩), .v (.int .i64 s0), .v (.slice arcs0_a arcs0_l arcs0_c)], w, K => Quiet (Int × Int × Bool) (fun r => (.tuple #[(.int .i64 r.1), (.int .i64 r.2.1), (.bool r.2.2)])) (fun K1 w' => sh_postroadref07_Walk m0_N ⟨m0_Arcs_a, m0_Arcs_l, m0_Arcs_c⟩ s0 ⟨arcs0_a, arcs0_l, arcs0_c⟩ (fun r0 r1 r2 w'' => K1 (r0, r1, r2) w'') w') w (fun r => K (.tuple #[(.int .i64 r.1), (.int .i64 r.2.1), (.bool r.2.2)]))
  | _, _, _, _ => False
noncomputable def cx_postroadref07_Walk : Cx := Cx.add Try.prog cx_postroadref09_Of 20 sh_postroadref07_Walk.o sh_postroadref07_Walk.q
theorem cx_postroadref07_Walk.ok : CxOk cx_postroadref07_Walk := by
  refine CxOk.add cx_postroadref09_Of.ok rfl (fun CV hcv xs K w hx h => ?_) (fun CV hcv xs K w hx h => ?_)
  · unfold sh_postroadref07_Walk.o at h; split at h
    · rename_i m0_N m0_Arcs_a m0_Arcs_l m0_Arcs_c s0 arcs0_a arcs0_l arcs0_c; exact sh_postroadref07_Walk.calls CV m0_N ⟨m0_Arcs_a, m0_Arcs_l, m0_Arcs_c⟩ s0 ⟨arcs0_a, arcs0_l, arcs0_c⟩ hcv h
    · exact h.elim
  · unfold sh_postroadref07_Walk.q at h; split at h
    · rename_i m0_N m0_Arcs_a m0_Arcs_l m0_Arcs_c s0 arcs0_a arcs0_l arcs0_c; obtain ⟨r, h1, h2⟩ := h; exact ⟨_, h2, fun w' e => sh_postroadref07_Walk.calls CV m0_N ⟨m0_Arcs_a, m0_Arcs_l, m0_Arcs_c⟩ s0 ⟨arcs0_a, arcs0_l, arcs0_c⟩ hcv (h1 w' e)⟩
    · exact h.elim
def sh_postroadlaw13_UnpackWays.plan : Plan := (.seq .o (.seq .o (.seq .o (.seq .o (.join [] [] (.seq .o (.block (.loop [.slot 8 (.int .i64)] [] (.seq (.seq .o (.cond .o .o)) (.seq (.block (.seq .o (.seq .o (.seq .o (.seq .o (.seq .o (.cond (.seq .o .o) .o))))))) .o))))) (.seq .o .o))))))
theorem sh_postroadlaw13_UnpackWays.is (CV : CVT) (n0 : Int) (arcs0 : SV) (w : World) (R : Value → World → Prop) : sh_postroadlaw13_UnpackWays n0 arcs0 (fun r0 w' => R (.bool r0) w') w = denF (cx_postroadref07_Walk.with CV) Try.f4 sh_postroadlaw13_UnpackWays.plan [.v (.int .i64 n0), .v (.slice arcs0.a arcs0.len arcs0.cap)] w R := by kernel_rfl
theorem sh_postroadlaw13_UnpackWays.calls (CV : CVT) (n0 : Int) (arcs0 : SV) (hcv : CVOk Try.prog CV) {w : World} {R : Ending → World → Prop} (h : sh_postroadlaw13_UnpackWays n0 arcs0 (fun r0 w' => R (.returned (.bool r0)) w') w) : Calls Try.prog 4 #[(.int .i64 n0), (.slice arcs0.a arcs0.len arcs0.cap)] w R :=
  calls_is (cx := cx_postroadref07_Walk.with CV) mixed_Try (cx_postroadref07_Walk.ok.with CV) hcv Try.func4 sh_postroadlaw13_UnpackWays.plan (xs := [.v (.int .i64 n0), .v (.slice arcs0.a arcs0.len arcs0.cap)]) ((args_cons _ (args_cons _ args_nil))) (by kernel_rfl) (sh_postroadlaw13_UnpackWays.is CV n0 arcs0 w (fun v w' => R (.returned v) w')) h
def sh_postroadlaw13_UnpackWays.o : CVT → List X → (Value → World → Prop) → World → Prop
  | CV, [.v (.int .i64 n0), .v (.slice arcs0_a arcs0_l arcs0_c)], K, w => sh_postroadlaw13_UnpackWays n0 ⟨arcs0_a, arcs0_l, arcs0_c⟩ (fun r0 w' => K (.bool r0) w') w
  | _, _, _, _ => False
def sh_postroadlaw13_UnpackWays.q : CVT → List X → World → (Value → Prop) → Prop
  | CV, [.v (.int .i64 n0), .v (.slice arcs0_a arcs0_l arcs0_c)], w, K => Quiet (Bool) (fun r => (.bool r)) (fun K1 w' => sh_postroadlaw13_UnpackWays n0 ⟨arcs0_a, arcs0_l, arcs0_c⟩ (fun r0 w'' => K1 r0 w'') w') w (fun r => K (.bool r))
  | _, _, _, _ => False
noncomputable def cx_postroadlaw13_UnpackWays : Cx := Cx.add Try.prog cx_postroadref07_Walk 4 sh_postroadlaw13_UnpackWays.o sh_postroadlaw13_UnpackWays.q
theorem cx_postroadlaw13_UnpackWays.ok : CxOk cx_postroadlaw13_UnpackWays := by
  refine CxOk.add cx_postroadref07_Walk.ok rfl (fun CV hcv xs K w hx h => ?_) (fun CV hcv xs K w hx h => ?_)
  · unfold sh_postroadlaw13_UnpackWays.o at h; split at h
    · rename_i n0 arcs0_a arcs0_l arcs0_c; exact sh_postroadlaw13_UnpackWays.calls CV n0 ⟨arcs0_a, arcs0_l, arcs0_c⟩ hcv h
    · exact h.elim
  · unfold sh_postroadlaw13_UnpackWays.q at h; split at h
    · rename_i n0 arcs0_a arcs0_l arcs0_c; obtain ⟨r, h1, h2⟩ := h; exact ⟨_, h2, fun w' e => sh_postroadlaw13_UnpackWays.calls CV n0 ⟨arcs0_a, arcs0_l, arcs0_c⟩ hcv (h1 w' e)⟩
    · exact h.elim
def sh_postroadlaw13_UnpackHalves.plan : Plan := (.seq .o (.seq (.seq .o (.cond (.seq .o .o) .o)) (.seq .o (.join [] [] (.seq .o (.block (.loop [.slot 4 (.int .i64)] [] (.seq (.seq .o (.cond .o .o)) (.join [] [] (.block (.seq .o (.seq .o (.seq (.seq .o (.cond (.seq (.seq .o (.cond (.seq .o .o) .o)) .o) .o)) (.seq .o (.seq .o (.seq .o (.cond (.seq .o .o) .o)))))))) .o))))) (.seq .o .o)))))
theorem sh_postroadlaw13_UnpackHalves.is (CV : CVT) (h0_Rank : SV) (h0_Ways : SV) (w : World) (R : Value → World → Prop) : sh_postroadlaw13_UnpackHalves h0_Rank h0_Ways (fun r0 w' => R (.bool r0) w') w = denF (cx_postroadlaw13_UnpackWays.with CV) Try.f5 sh_postroadlaw13_UnpackHalves.plan [.v (.agg #[(.slice h0_Rank.a h0_Rank.len h0_Rank.cap), (.slice h0_Ways.a h0_Ways.len h0_Ways.cap)])] w R := by kernel_rfl
theorem sh_postroadlaw13_UnpackHalves.calls (CV : CVT) (h0_Rank : SV) (h0_Ways : SV) (hcv : CVOk Try.prog CV) {w : World} {R : Ending → World → Prop} (h : sh_postroadlaw13_UnpackHalves h0_Rank h0_Ways (fun r0 w' => R (.returned (.bool r0)) w') w) : Calls Try.prog 5 #[(.agg #[(.slice h0_Rank.a h0_Rank.len h0_Rank.cap), (.slice h0_Ways.a h0_Ways.len h0_Ways.cap)])] w R :=
  calls_is (cx := cx_postroadlaw13_UnpackWays.with CV) mixed_Try (cx_postroadlaw13_UnpackWays.ok.with CV) hcv Try.func5 sh_postroadlaw13_UnpackHalves.plan (xs := [.v (.agg #[(.slice h0_Rank.a h0_Rank.len h0_Rank.cap), (.slice h0_Ways.a h0_Ways.len h0_Ways.cap)])]) ((args_cons _ args_nil)) (by kernel_rfl) (sh_postroadlaw13_UnpackHalves.is CV h0_Rank h0_Ways w (fun v w' => R (.returned v) w')) h
end Go.Sh

/- The shallow definitions are what the code asks; printed by gen.py of these sessions. -/
set_option maxRecDepth 100000
set_option linter.unusedVariables false
namespace Go.Sh
open Go.Proofs
end Go.Sh

/- A law's arguments, opened; a law's row, shut. -/
namespace Go.Sh
open Go.RowKit Go.ChangeShapes Go.WideShapes Go.ChangeAt

section
variable {H : Type} {enc : TypeId × Value → H} {P : Program} {w : World} {base : Nat} {spare : Nat → Bool} {held : Bool}

/-- A slice that came in is read. -/
theorem open_view {α : Type} (R : Rc α) (Wf : α → Prop) {t e : TypeId} {fuel : Nat} {cs : List Value} {x : DataW H × List MemPlace} (ht : P.underlying t = some (.slice e)) (hc : P.cellsOf e = R.sz)
    (hel : ∀ (fuel : Nat) (cs : List Value) (y : DataW H × List MemPlace), DataW.trod enc P w base spare held fuel e cs = some y → ∃ a : α, cs = R.enc a ∧ Wf a)
    (h : DataW.trod enc P w base spare held fuel t cs = some x) : ∃ (s : SV) (xs : List α), cs = [.slice s.a s.len s.cap] ∧ View R w s xs ∧ (∀ a ∈ xs, Wf a) ∧ xs.length ≤ maxLen := by
  rcases DataW.trod_slice ht h with ⟨h0, _⟩ | ⟨a, len, cap, elems, rest, n, _, rfl, rfl, hb, hl, hm, hlen, hels, _, _⟩
  · exact ⟨⟨none, 0, 0⟩, [], h0, ⟨rfl, fun h => absurd rfl h, fun i x hx => by simp at hx⟩, fun _ h => by simp at h, by simp [maxLen]⟩
  · have each : ∀ i, i < len → ∃ z : α, Wf z ∧ ∀ j v, (R.enc z)[j]? = some v → w.cell? ((a.add (i * R.sz)).add j) = some v := by
      intro i hi
      have h1 := hels i hi
      rw [List.getElem?_eq_getElem (by omega), hc, Option.bind_eq_some_iff] at h1
      obtain ⟨cs', hcs, hy⟩ := h1
      obtain ⟨z, rfl, hz⟩ := hel _ _ _ hy
      refine ⟨z, hz, fun j v hv => ?_⟩
      have := (World.cells?_some hcs).2.2 j (by rw [← R.len z]; exact (List.getElem?_eq_some_iff.1 hv).1)
      rw [this]; exact hv
    have spot : 0 < len → a.spot = none := fun h0 => by
      obtain ⟨z, _, hz⟩ := each 0 h0
      have hp : 0 < (R.enc z).length := by rw [R.len]; exact R.pos
      have := hz 0 _ (List.getElem?_eq_getElem hp)
      rw [Nat.zero_mul] at this
      have e0 : (a.add 0).add 0 = a := by simp [Addr.add]
      rw [e0] at this
      unfold World.cell? at this
      split at this
      · split at this
        · cases this
        · rename_i hs; simpa using hs
      · cases this
    let f : Nat → α := fun i => if h : i < len then (each i h).choose else R.z
    have hf : ∀ i (hi : i < len), Wf (f i) ∧ ∀ j v, (R.enc (f i))[j]? = some v → w.cell? ((a.add (i * R.sz)).add j) = some v := fun i hi => by
      simp only [f, dif_pos hi]; exact (each i hi).choose_spec
    refine ⟨⟨some a, len, cap⟩, (List.range len).map f, rfl, ⟨by simp, fun hne p hp => ?_, fun i x hx => ?_⟩, fun x hx => ?_, by simp; omega⟩
    · cases hp
      refine spot ?_
      rcases Nat.eq_zero_or_pos len with h0 | h0
      · subst h0; simp at hne
      · exact h0
    · have hi : i < len := by have := (List.getElem?_eq_some_iff.1 hx).1; simpa using this
      rw [List.getElem?_map, List.getElem?_range hi] at hx
      injection hx with hx
      subst hx
      refine ⟨a, rfl, fun j v hv => ?_⟩
      have := (hf i hi).2 j v hv
      have hs := spot (by omega)
      rw [add_add _ hs, add_add _ rfl] at this
      exact this
    · obtain ⟨i, hi, rfl⟩ := List.mem_map.1 hx
      exact (hf i (List.mem_range.1 hi)).1

theorem in64_wf {n : Int} (hw : (Lit.int .i64 n).wf = true) : In64 n := by
  simp only [Lit.wf, Bool.and_eq_true, decide_eq_true_eq] at hw
  have h1 : IntKind.i64.min = -9223372036854775808 := by decide
  have h2 : IntKind.i64.max = 9223372036854775807 := by decide
  rw [h1, h2] at hw
  exact ⟨hw.1, by omega⟩

/-- A struct of ints that came in. -/
theorem trod_ints {t : TypeId} {fs : Array Field} {fuel : Nat} {cs : List Value} {x : DataW H × List MemPlace} (ht : P.underlying t = some (.struct fs)) (hc : P.cellsOf t = fs.size)
    (hf : ∀ (j : Nat) (f : Field), fs[j]? = some f → f.offset = j ∧ P.cellsOf f.type = 1 ∧ P.underlying f.type = some (.int .i64))
    (h : DataW.trod enc P w base spare held fuel t cs = some x) : ∃ xs : List Int, cs = xs.map (Value.int .i64) ∧ xs.length = fs.size ∧ ∀ n ∈ xs, In64 n := by
  obtain ⟨ys, n, _, _, hl, hyl, hel⟩ := DataW.trod_struct ht h
  have each : ∀ j, j < fs.size → ∃ n, cs[j]? = some (.int .i64 n) ∧ In64 n := fun j hj => by
    obtain ⟨h1, h2, h3⟩ := hf j fs[j] (Array.getElem?_eq_getElem hj)
    have h4 := hel j fs[j] (Array.getElem?_eq_getElem hj)
    rw [List.getElem?_eq_getElem (by omega), h1, h2] at h4
    obtain ⟨m, hm, _, hw⟩ := DataW.trod_int h3 h4
    have hjl : j < cs.length := by omega
    refine ⟨m, ?_, ?_⟩
    · have : (List.take 1 (List.drop j cs))[0]? = some (Value.int .i64 m) := by rw [hm]; rfl
      rw [List.getElem?_take, if_pos (by omega), List.getElem?_drop] at this
      simpa using this
    · simp only [Lit.wf, Bool.and_eq_true, decide_eq_true_eq] at hw
      have h1 : IntKind.i64.min = -9223372036854775808 := by decide
      have h2 : IntKind.i64.max = 9223372036854775807 := by decide
      rw [h1, h2] at hw
      exact ⟨hw.1, by omega⟩
  let f : Nat → Int := fun j => if h : j < fs.size then (each j h).choose else 0
  have hfj : ∀ j, j < fs.size → cs[j]? = some (.int .i64 (f j)) ∧ In64 (f j) := fun j hj => by
    simp only [f, dif_pos hj]; exact (each j hj).choose_spec
  refine ⟨(List.range fs.size).map f, ?_, by simp, fun n hn => ?_⟩
  · apply List.ext_getElem?
    intro j
    by_cases hj : j < fs.size
    · rw [(hfj j hj).1, List.getElem?_map, List.getElem?_map, List.getElem?_range hj]; rfl
    · rw [List.getElem?_eq_none (by omega), List.getElem?_eq_none (by simp; omega)]
  · obtain ⟨j, hj, rfl⟩ := List.mem_map.1 hn
    exact (hfj j (List.mem_range.1 hj)).2

theorem trodAll_below {W W' : World} (hl : laidOutB P = true) (hB : Below W.heap.size W W') : ∀ {ts : List TypeId} {vs : List Value} {ds : List (DataW H)} {ps : List MemPlace},
    (∀ t ∈ ts, P.readableRec t = true ∧ t < P.types.size) → DataW.TrodAll enc P W 0 (fun _ => true) true ts vs ds ps → (∀ x ∈ ps, x.block < W.heap.size) →
    DataW.TrodAll enc P W' 0 (fun b => decide (b < W.heap.size)) true ts vs ds ps
  | [], vs, ds, ps, _, h, _ => by
    obtain ⟨rfl, rfl, rfl⟩ := trodAll_nil h
    exact trodAll_mk0
  | t :: ts, vs, ds, ps, hr, h, hp => by
    obtain ⟨v, vs', d, ds', p, q, rfl, rfl, rfl, h1, h2⟩ := trodAll_cons h
    exact trodAll_cons_mk (Below.trod hl (hr t List.mem_cons_self).1 (hr t List.mem_cons_self).2 h1 hB fun x hx => hp x (List.mem_append_left _ hx))
      (trodAll_below hl hB (fun t' ht' => hr t' (List.mem_cons_of_mem _ ht')) h2 fun x hx => hp x (List.mem_append_right _ hx))

/-- A law's row, behind its walk. -/
theorem law_post {f : Func} {s : ChangeSpec} {W W' : World} {args : Array Value} {ds gs : List (DataW H)} {before : List MemPlace} {tb : TypeId} (hl : laidOutB P = true) (hrb : (f.params.toList.all fun t => P.readableRec t && Nat.blt t P.types.size) = true)
    (hres : f.resultTypes = #[tb]) (htb : P.underlying tb = some .bool) (hv : s.vars = []) (hspec : s.fn H ds = { results := [.lit (.bool true)], args := ds })
    (hW : DataW.Whole enc P f.params.toList s.vars false W args.toList ds gs before) (hB : Below W.heap.size W W') : s.post enc P f false true false false W args (.bool true) W' := by
  have hr : ∀ t ∈ f.params.toList, P.readableRec t = true ∧ t < P.types.size := fun t ht => by
    have := List.all_eq_true.1 hrb t ht
    simpa using this
  have hlt := fun x hx => hW.lt x hx
  have hW' := hW
  obtain ⟨p, q, hA, hV, rfl, _, _⟩ := hW
  rw [hv] at hV
  obtain ⟨rfl, rfl⟩ := trodVars_none hV
  rw [List.append_nil] at hW' hlt
  refine ⟨ds, [], p, [], p, [], hW', ?_, ?_, ?_, hB.frame _, fun h => by cases h⟩
  · rw [hres, List.append_nil, hspec]
    exact trodAll_mk1 (shut_bool htb true)
  · rw [List.append_nil, hspec]
    exact trodAll_below hl hB hr hA hlt
  · rw [hv, List.append_nil, hspec]; rfl
end
end Go.Sh

/- What this seat's rows lean on: inputs, opened; printed by row.py of these sessions. -/
set_option maxRecDepth 100000
set_option linter.unusedVariables false
namespace Go.Proofs.Ytagidkbhehpeoaa
open Go.ChangeShapes Go.WideShapes Go.ChangeAt Go.RowKit Go.Sh

theorem ownK : ownKnob Try.prog.godebug = none := by kernel_rfl
theorem laidK : laidOutB Try.prog = true := by kernel_rfl
def OkY (y : Wy) : Prop := In64 (yF y) ∧ In64 (yT y) ∧ In64 (yW y) ∧ In64 (yM y) ∧ In64 (yA y)

section
variable {H : Type} {enc : TypeId × Value → H} {w : World} {base : Nat} {spare : Nat → Bool} {held : Bool}
theorem int_el (fuel : Nat) (cs : List Value) (y : DataW H × List MemPlace)
    (h : DataW.trod enc Try.prog w base spare held fuel 3 cs = some y) : ∃ a : Int, cs = RI.enc a ∧ In64 a := by
  obtain ⟨m, rfl, _, hw⟩ := DataW.trod_int Try.underlying3 h
  exact ⟨m, rfl, in64_wf hw⟩
theorem short_el (fuel : Nat) (cs : List Value) (y : DataW H × List MemPlace)
    (h : DataW.trod enc Try.prog w base spare held fuel 43 cs = some y) : ∃ a : Wy, cs = RW.enc a ∧ OkY a := by
  obtain ⟨ys, n, _, _, hl, hyl, hel⟩ := DataW.trod_struct Try.underlying43 h
  have hl2 : cs.length = 5 := by rw [hl]; kernel_rfl
  have h0 := hel 0 _ rfl
  have h1 := hel 1 _ rfl
  have h2 := hel 2 _ rfl
  match cs, hl2 with
  | [c0, c1, c2, c3, c4], _ =>
    have hy : ys.length = 3 := by rw [hyl]; rfl
    match ys, hy with
    | [y0, y1, y2], _ =>
      change DataW.trod enc Try.prog w base spare held n 3 (List.take (Try.prog.cellsOf 3) [c0, c1, c2, c3, c4]) = some y0 at h0
      change DataW.trod enc Try.prog w base spare held n 3 (List.take (Try.prog.cellsOf 3) [c1, c2, c3, c4]) = some y1 at h1
      change DataW.trod enc Try.prog w base spare held n 41 (List.take (Try.prog.cellsOf 41) [c2, c3, c4]) = some y2 at h2
      have q3 : Try.prog.cellsOf 3 = 1 := by kernel_rfl
      have q44 : Try.prog.cellsOf 41 = 3 := by kernel_rfl
      rw [q3] at h0 h1; rw [q44] at h2
      change DataW.trod enc Try.prog w base spare held n 3 [c0] = some y0 at h0
      change DataW.trod enc Try.prog w base spare held n 3 [c1] = some y1 at h1
      change DataW.trod enc Try.prog w base spare held n 41 [c2, c3, c4] = some y2 at h2
      obtain ⟨f, hf, _, wf⟩ := DataW.trod_int Try.underlying3 h0
      obtain ⟨t, ht, _, wt⟩ := DataW.trod_int Try.underlying3 h1
      obtain ⟨xs, hxs, hl3, hw⟩ := trod_ints Try.underlying41 (by kernel_rfl) (fun j f hj => by
        match j, hj with
        | 0, hj => cases hj; exact ⟨rfl, by kernel_rfl, Try.underlying3⟩
        | 1, hj => cases hj; exact ⟨rfl, by kernel_rfl, Try.underlying3⟩
        | 2, hj => cases hj; exact ⟨rfl, by kernel_rfl, Try.underlying3⟩
        | n + 3, hj => simp at hj) h2
      match xs, hl3, hw, hxs with
      | [a, b, c], _, hw, hxs =>
        simp only [List.map_cons, List.map_nil, List.cons.injEq, and_true] at hf ht hxs
        obtain ⟨rfl, rfl, rfl⟩ := hxs
        subst hf ht
        exact ⟨(f, t, a, b, c), rfl, in64_wf wf, in64_wf wt, hw a (by simp), hw b (by simp), hw c (by simp)⟩
theorem hier_el {fuel : Nat} {cs : List Value} {y : DataW H × List MemPlace}
    (h : DataW.trod enc Try.prog w base spare held fuel 25 cs = some y) : ∃ (sr sy : SV) (rank : List Int) (ways : List Wy), cs = [.slice sr.a sr.len sr.cap, .slice sy.a sy.len sy.cap] ∧ View RI w sr rank ∧ View RW w sy ways ∧
      (∀ a ∈ rank, In64 a) ∧ (∀ a ∈ ways, OkY a) ∧ rank.length ≤ maxLen ∧ ways.length ≤ maxLen := by
  obtain ⟨ys, n, _, _, hl, hyl, hel⟩ := DataW.trod_struct Try.underlying25 h
  have hl2 : cs.length = 2 := by rw [hl]; kernel_rfl
  have h0 := hel 0 _ rfl
  have h1 := hel 1 _ rfl
  match cs, hl2 with
  | [c0, c1], _ =>
    have hy : ys.length = 2 := by rw [hyl]; rfl
    match ys, hy with
    | [y0, y1], _ =>
      change DataW.trod enc Try.prog w base spare held n 22 (List.take (Try.prog.cellsOf 22) [c0, c1]) = some y0 at h0
      change DataW.trod enc Try.prog w base spare held n 23 (List.take (Try.prog.cellsOf 23) [c1]) = some y1 at h1
      have q22 : Try.prog.cellsOf 22 = 1 := by kernel_rfl
      have q23 : Try.prog.cellsOf 23 = 1 := by kernel_rfl
      rw [q22] at h0; rw [q23] at h1
      change DataW.trod enc Try.prog w base spare held n 22 [c0] = some y0 at h0
      change DataW.trod enc Try.prog w base spare held n 23 [c1] = some y1 at h1
      obtain ⟨sr, rank, hs, hv, hx, hle⟩ := open_view RI In64 Try.underlying22 (by kernel_rfl) int_el h0
      obtain ⟨sy, ways, hs2, hv2, hx2, hle2⟩ := open_view RW OkY Try.underlying23 (by kernel_rfl) short_el h1
      simp only [List.cons.injEq, and_true] at hs hs2
      subst hs hs2
      exact ⟨sr, sy, rank, ways, rfl, hv, hv2, hx, hx2, hle, hle2⟩
end
end Go.Proofs.Ytagidkbhehpeoaa
