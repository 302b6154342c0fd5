/- SpMeet, SpBoth, SpTurned, QuFar, QuSearch, QuStep, QuMany, QuEnd, QuLook, QuLook2, QuLook3, QuLook4, QuLook5, QuTable, QuTables, DistKnown, QuFars, QuExact: merged into one text. -/
import Derived.Test.YtnonlclcjdmecaaP4
/- What two lists have in common; Meet, Both. -/
set_option maxRecDepth 100000
namespace Go.Sh
open Go.RowKit

abbrev Rc2 := Int × Int
/-- Strictly rising. -/
def Rz (l : List Rc2) : Prop := l.Pairwise fun a b => a.1 < b.1
/-- The pairs of the same place. -/
def com (xs ys : List Rc2) : List (Rc2 × Rc2) := xs.flatMap fun x => (ys.filter fun y => y.1 == x.1).map fun y => (x, y)
theorem com_nil (ys : List Rc2) : com [] ys = [] := rfl
theorem com_nil' (xs : List Rc2) : com xs [] = [] := by induction xs with | nil => rfl | cons x xs ih => simp [com]
theorem com_cons (x : Rc2) (xs ys : List Rc2) : com (x :: xs) ys = ((ys.filter fun y => y.1 == x.1).map fun y => (x, y)) ++ com xs ys := by simp [com]
theorem com_skip {y : Rc2} {xs ys : List Rc2} (h : ∀ x ∈ xs, y.1 ≠ x.1) : com xs (y :: ys) = com xs ys := by
  induction xs with
  | nil => rfl
  | cons x xs ih =>
    rw [com_cons, com_cons, ih fun z hz => h z (List.mem_cons_of_mem _ hz), List.filter_cons_of_neg (by simpa using h x List.mem_cons_self)]
theorem filter_no {x : Rc2} {ys : List Rc2} (h : ∀ y ∈ ys, y.1 ≠ x.1) : (ys.filter fun y => y.1 == x.1) = [] := by
  rw [List.filter_eq_nil_iff]; intro y hy; simpa using h y hy
theorem com_lt {x y : Rc2} {xs ys : List Rc2} (hy : Rz (y :: ys)) (h : x.1 < y.1) : com (x :: xs) (y :: ys) = com xs (y :: ys) := by
  rw [com_cons, filter_no, List.map_nil, List.nil_append]
  intro z hz
  rcases List.mem_cons.1 hz with rfl | hz
  · omega
  · have := (List.pairwise_cons.1 hy).1 z hz; omega
theorem com_gt {x y : Rc2} {xs ys : List Rc2} (hx : Rz (x :: xs)) (h : x.1 > y.1) : com (x :: xs) (y :: ys) = com (x :: xs) ys := by
  refine com_skip fun z hz => ?_
  rcases List.mem_cons.1 hz with rfl | hz
  · omega
  · have := (List.pairwise_cons.1 hx).1 z hz; omega
theorem com_eq {x y : Rc2} {xs ys : List Rc2} (hx : Rz (x :: xs)) (hy : Rz (y :: ys)) (h : x.1 = y.1) : com (x :: xs) (y :: ys) = (x, y) :: com xs ys := by
  rw [com_cons, List.filter_cons_of_pos (by simpa using h.symm), filter_no, com_skip]
  · rfl
  · intro z hz; have := (List.pairwise_cons.1 hx).1 z hz; omega
  · intro z hz; have := (List.pairwise_cons.1 hy).1 z hz; omega
theorem com_mem {xs ys : List Rc2} {p : Rc2 × Rc2} : p ∈ com xs ys ↔ p.1 ∈ xs ∧ p.2 ∈ ys ∧ p.1.1 = p.2.1 := by
  unfold com
  rw [List.mem_flatMap]
  constructor
  · rintro ⟨x, hx, hp⟩
    obtain ⟨y, hy, rfl⟩ := List.mem_map.1 hp
    rw [List.mem_filter] at hy
    exact ⟨hx, hy.1, (by simpa using hy.2 : y.1 = x.1).symm⟩
  · rintro ⟨h1, h2, h3⟩
    exact ⟨p.1, h1, List.mem_map.2 ⟨p.2, List.mem_filter.2 ⟨h2, by rw [beq_iff_eq]; exact h3.symm⟩, rfl⟩⟩
section
variable {w : World}
theorem View.tail1 {s : SV} {x : Rc2} {xs : List Rc2} (h : View RE w s (x :: xs)) (hc : s.len ≤ s.cap) {K : SV → Prop} (hk : ∀ t, View RE w t xs → t.len ≤ t.cap → K t) : semSlice 2 s.a s.len s.cap (some (1 : Int)) none K := by
  have hl := h.len
  simp only [List.length_cons] at hl
  unfold semSlice
  simp only [Option.getD_some, Option.getD_none, Int.toNat_natCast]
  refine ⟨by omega, fun x hx => (by cases hx), by omega, by omega, hk _ ⟨?_, ?_, ?_⟩ (by show s.len - 1 ≤ s.cap - 1; omega)⟩
  · show s.len - (1 : Int).toNat = xs.length
    have : (1 : Int).toNat = 1 := rfl
    omega
  · intro hne p hp
    have h1 : 1 ≤ xs.length := by cases xs with | nil => exact absurd rfl hne | cons _ _ => simp
    have : ¬ s.cap = (1 : Int).toNat := by have : (1 : Int).toNat = 1 := rfl; omega
    simp only [if_neg this] at hp
    obtain ⟨a, ha, rfl⟩ := Option.map_eq_some_iff.1 hp
    have := h.spot (by simp) a ha
    obtain ⟨b, o, sp⟩ := a
    simp only at this; subst this
    rw [addm]
  · intro i y hy
    obtain ⟨p, hp, hcell⟩ := h.at_ (i + 1) y (by simpa using hy)
    have hi := (List.getElem?_eq_some_iff.1 hy).1
    have : ¬ s.cap = (1 : Int).toNat := by have : (1 : Int).toNat = 1 := rfl; omega
    simp only [if_neg this, hp, Option.map_some]
    have hsp := h.spot (by simp) p hp
    obtain ⟨b, o, sp⟩ := p
    simp only at hsp; subst hsp
    refine ⟨_, rfl, fun j v hv => ?_⟩
    have := hcell j v hv
    rw [addm]
    simp only at this ⊢
    rw [← this]
    congr 2
    have e1 : (1 : Int).toNat = 1 := rfl
    have e2 : RE.sz = 2 := rfl
    rw [e1, e2, Nat.add_mul]; omega

/-- The pairs are given out, one by one; I tells what whoever takes them holds, F his blocks. -/
theorem common_ok {W w0 : World} {xs ys : List Rc2} {sa sb : SV} {b1 b2 : Nat} {Y0 : Int → Int → Int → Int → (Bool → World → Prop) → World → Prop} {I : List (Rc2 × Rc2) → (Nat → Prop) → World → Prop} {F0 : Nat → Prop} {K : World → Prop}
    (hx : Rz xs) (hy : Rz ys) (va : View RE W sa xs) (vb : View RE W sb ys) (ca : sa.len ≤ sa.cap) (cb : sb.len ≤ sb.cap) (e0 : Ext W w0) (hB1 : Blk w0 b1 [.slice sa.a sa.len sa.cap]) (hB2 : Blk w0 b2 [.slice sb.a sb.len sb.cap]) (g1 : W.heap.size ≤ b1) (g2 : W.heap.size ≤ b2) (hne : b1 ≠ b2)
    (hlt : ∀ d F w, I d F w → ∀ i, F i → i < w.heap.size) (hch : ∀ d F w w' G, I d F w → Chg G w w' → (∀ i, F i → ¬ G i) → I d F w')
    (hY : ∀ d F w x y r K', I d F w → Ext W w → com xs ys = d ++ (x, y) :: r → (∀ w' F', I (d ++ [(x, y)]) F' w' → Chg F w w' → (∀ i, F' i → F i ∨ w.heap.size ≤ i) → K' true w') → Y0 x.1 x.2 y.1 y.2 K' w)
    (h0 : I [] F0 w0) (hF0 : ∀ i, F0 i → W.heap.size ≤ i ∧ i ≠ b1 ∧ i ≠ b2)
    (hK : ∀ F w', I (com xs ys) F w' → Ext W w' → Chg (fun i => F0 i ∨ i = b1 ∨ i = b2) w0 w' → (∀ i, F i → F0 i ∨ w0.heap.size ≤ i) → K w') : sh_space_common_c1 Y0 ⟨b1, 0, none⟩ ⟨b2, 0, none⟩ K w0 := by
  unfold sh_space_common_c1
  have l1 := blk_lt hB1; have l2 := blk_lt hB2
  refine LoopT.gh (γ := List (Rc2 × Rc2) × List Rc2 × List Rc2 × (Nat → Prop)) (fun g (_ : Unit) w' => ∃ s1 s2, I g.1 g.2.2.2 w' ∧ Ext W w' ∧ Chg (fun i => F0 i ∨ i = b1 ∨ i = b2) w0 w' ∧ (∀ i, g.2.2.2 i → F0 i ∨ w0.heap.size ≤ i) ∧ com xs ys = g.1 ++ com g.2.1 g.2.2.1 ∧ Rz g.2.1 ∧ Rz g.2.2.1 ∧
      View RE W s1 g.2.1 ∧ View RE W s2 g.2.2.1 ∧ s1.len ≤ s1.cap ∧ s2.len ≤ s2.cap ∧ Blk w' b1 [.slice s1.a s1.len s1.cap] ∧ Blk w' b2 [.slice s2.a s2.len s2.cap]) (fun g => g.2.1.length + g.2.2.1.length) ([], xs, ys, F0)
    ⟨sa, sb, h0, e0, .refl _ _, fun i h => .inl h, rfl, hx, hy, va, vb, ca, cb, hB1, hB2⟩ ?_
  rintro ⟨d, xs', ys', F⟩ ⟨⟩ w3 ⟨s1, s2, hI, e3, c3, hF, hcom, rx, ry, v1, v2, k1, k2, hb1, hb2⟩ J1 hJ1
  simp only at hI hF hcom rx ry v1 v2
  have z3 := c3.size
  have hl1 := v1.len; have hl2 := v2.len
  have nF1 : ¬ F b1 := fun h => (hF _ h).elim (fun h => (hF0 _ h).2.1 rfl) fun h => by omega
  have nF2 : ¬ F b2 := fun h => (hF _ h).elim (fun h => (hF0 _ h).2.2 rfl) fun h => by omega
  have done : com xs' ys' = [] → K w3 := fun h => by rw [h, List.append_nil] at hcom; rw [← hcom] at hI; exact hK F w3 hI e3 c3 hF
  refine ⟨s1, by rw [cell_blk hb1]; rfl, ?_⟩
  rw [Bool.cond_decide]
  by_cases h1 : (s1.len : Int) > 0
  case neg =>
    rw [if_neg h1]
    have : xs' = [] := List.length_eq_zero_iff.1 (by omega)
    subst this
    exact done (com_nil _)
  rw [if_pos h1]
  refine ⟨s2, by rw [cell_blk hb2]; rfl, ?_⟩
  rw [Bool.cond_decide]
  by_cases h2 : (s2.len : Int) > 0
  case neg =>
    rw [if_neg h2]
    have : ys' = [] := List.length_eq_zero_iff.1 (by omega)
    subst this
    exact done (com_nil' _)
  rw [if_pos h2]
  obtain ⟨x, xs', rfl⟩ : ∃ x l, xs' = x :: l := List.exists_cons_of_ne_nil fun h => by subst h; simp at hl1; omega
  obtain ⟨y, ys', rfl⟩ : ∃ x l, ys' = x :: l := List.exists_cons_of_ne_nil fun h => by subst h; simp at hl2; omega
  refine ⟨s1, by rw [cell_blk hb1]; rfl, ?_⟩
  refine re_idx (v1.ext e3) (i := 0) (by simp) fun _ a0 a1 => ⟨_, a0, _, a1, ?_⟩
  refine ⟨s2, by rw [cell_blk hb2]; rfl, ?_⟩
  refine View.idx (R := RE) (v2.ext e3) (i := 0) (by omega) (by simp) fun a12 hsp hc12 => ?_
  obtain ⟨pb, po, ps⟩ := a12
  simp only at hsp; subst hsp
  have q0 : w3.cell? ((⟨pb, po, none⟩ : Addr).add 0) = some (.int .i64 y.1) := hc12 0 _ rfl
  have q1 : w3.cell? ((⟨pb, po, none⟩ : Addr).add 1) = some (.int .i64 y.2) := hc12 1 _ rfl
  refine ⟨_, q0, _, q1, ?_⟩
  intro b17 w18 e18 g17 g17' b19 w20 e20 g19 g19' w21 e21 w22 o22
  have z18 := e18.size; have z20 := e20.size; have z21 := e21.size; have z22 := o22.size
  have e22 : Ext w3 w22 := ext_off ((e18.trans e20).trans e21) o22 g17
  refine ⟨⟨_, e22.cell q0, _, e22.cell q1, rfl⟩, ⟨s2, by rw [cell_blk (e22.blkE hb2)]; rfl, rfl⟩, ?_⟩
  intro w23 e23 w24 o24 w25 e25
  have z23 := e23.size; have z24 := o24.size; have z25 := e25.size
  have g19 : w3.heap.size ≤ b19 := by
    rcases g19 with ⟨h, _⟩ | h
    · rcases h with h | h
      · exact h.elim
      · exact h.1
    · omega
  have e325 : Ext w3 w25 := (ext_off (e22.trans e23) o24 g19).trans e25
  have hI25 : I d F w25 := hch _ _ _ _ (fun _ => False) hI (.of_ext e325) fun _ _ h => h
  have bb1 := e325.blkE hb1; have bb2 := e325.blkE hb2
  have e25' := e3.trans e325
  have c25 := c3.trans (.of_ext (F := fun i => F0 i ∨ i = b1 ∨ i = b2) e325) fun _ _ h => h
  have kp : ∀ {w25 w28 : World} {b}, w3.heap.size ≤ w25.heap.size → b < w3.heap.size → b17 < w25.heap.size → b19 < w25.heap.size → Off b w25 w28 → Keeps [b19, b17] w25 w28 := fun {w25 w28 b} _ hb h17 h19 o => by
    refine kp_chg (.of_off (F := fun i => i = b) o rfl) fun i hi => ?_
    simp only [List.mem_cons, List.not_mem_nil, or_false] at hi
    rcases hi with rfl | rfl
    · exact ⟨h19, by omega⟩
    · exact ⟨h17, by omega⟩
  rw [Bool.cond_decide]
  simp only [List.getElem_cons_zero]
  by_cases hlt1 : x.1 < y.1
  · rw [if_pos hlt1]
    refine ⟨s1, by rw [cell_blk bb1]; rfl, ?_⟩
    refine v1.tail1 k1 fun s27 v27 k27 => ?_
    refine stL_blk (b := b1) (o := 0) _ 0 _ _ _ bb1 (by simp) fun w28 o28 hb28 => ?_
    refine ⟨kp (by omega) (by omega) (by omega) (by omega) o28, ?_⟩
    refine hJ1 (d, xs', y :: ys', F) () w28 ⟨s27, s2, hch _ _ _ _ _ hI25 (.of_off (F := fun i => i = b1) o28 rfl) fun i hi e => nF1 (e ▸ hi), ext_off e25' o28 g1, c25.trans (.of_off (F := fun i => i = b1) o28 rfl) fun i _ h => .inr (.inl h), hF, ?_, (List.pairwise_cons.1 rx).2, ry, v27, v2, k27, k2, hb28, bb2.off o28 (Ne.symm hne)⟩ (by simp)
    rw [hcom, com_lt ry hlt1]
  · rw [if_neg hlt1, Bool.cond_decide]
    by_cases hgt1 : x.1 > y.1
    · rw [if_pos hgt1]
      refine ⟨s2, by rw [cell_blk bb2]; rfl, ?_⟩
      refine v2.tail1 k2 fun s30 v30 k30 => ?_
      refine stL_blk (b := b2) (o := 0) _ 0 _ _ _ bb2 (by simp) fun w31 o31 hb31 => ?_
      refine ⟨kp (by omega) (by omega) (by omega) (by omega) o31, ?_⟩
      refine hJ1 (d, x :: xs', ys', F) () w31 ⟨s1, s30, hch _ _ _ _ _ hI25 (.of_off (F := fun i => i = b2) o31 rfl) fun i hi e => nF2 (e ▸ hi), ext_off e25' o31 g2, c25.trans (.of_off (F := fun i => i = b2) o31 rfl) fun i _ h => .inr (.inr h), hF, ?_, rx, (List.pairwise_cons.1 ry).2, v1, v30, k1, k30, bb1.off o31 hne, hb31⟩ (by simp)
      rw [hcom, com_gt rx hgt1]
    · rw [if_neg hgt1]
      have heq : x.1 = y.1 := by omega
      have hc2 := com_eq rx ry heq
      refine hY d F w25 x y (com xs' ys') _ hI25 e25' (by rw [hcom, hc2]) fun w33 F' hI33 c33 hF' => ?_
      have z33 := c33.size
      have lF : ∀ i, F i → i < w3.heap.size := fun i hi => hlt _ _ _ hI i hi
      have nb : ∀ b, w3.heap.size ≤ b → b < w25.heap.size → ¬ F b := fun b h1 _ h => by have := lF b h; omega
      refine ⟨kp_chg c33 fun i hi => ?_, ?_⟩
      · simp only [List.mem_cons, List.not_mem_nil, or_false] at hi
        rcases hi with rfl | rfl
        · exact ⟨by omega, nb _ g19 (by omega)⟩
        · exact ⟨by omega, nb _ g17 (by omega)⟩
      rw [Bool.not_true, cond_false]
      have bb1 := c33.blk bb1 nF1; have bb2 := c33.blk bb2 nF2
      have e33 : Ext W w33 := ext_chg e25' c33 fun i hi => (hF i hi).elim (fun h => (hF0 i h).1) fun h => by have := e0.size; omega
      have c33' := c25.trans c33 fun i hi h => (hF i h).elim .inl fun h' => .inl (by
        exfalso
        omega)
      have nF1' : ¬ F' b1 := fun h => (hF' _ h).elim nF1 fun h => by omega
      have nF2' : ¬ F' b2 := fun h => (hF' _ h).elim nF2 fun h => by omega
      refine ⟨s1, by rw [cell_blk bb1]; rfl, ?_⟩
      refine v1.tail1 k1 fun s35 v35 k35 => ?_
      refine ⟨s2, by rw [cell_blk bb2]; rfl, ?_⟩
      refine v2.tail1 k2 fun s38 v38 k38 => ?_
      intro w39 e39
      have z39 := e39.size
      refine stL_blk (b := b1) (o := 0) _ 0 _ _ _ (e39.blkE bb1) (by simp) fun w40 o40 hb40 => ?_
      have z40 := o40.size
      have bb2 := (e39.blkE bb2).off o40 (Ne.symm hne)
      refine ⟨kp (by omega) (by omega) (by omega) (by omega) o40, ⟨s2, by rw [cell_blk bb2]; rfl, rfl⟩, ?_⟩
      intro w41 e41
      have z41 := e41.size
      refine stL_blk (b := b2) (o := 0) _ 0 _ _ _ (e41.blkE bb2) (by simp) fun w42 o42 hb42 => ?_
      refine ⟨kp (by omega) (by omega) (by omega) (by omega) o42, fun w43 e43 => ?_⟩
      have i39 := hch _ _ _ _ (fun _ => False) hI33 (.of_ext e39) fun _ _ h => h
      have i40 := hch _ _ _ _ _ i39 (.of_off (F := fun i => i = b1) o40 rfl) fun i hi e => nF1' (e ▸ hi)
      have i41 := hch _ _ _ _ (fun _ => False) i40 (.of_ext e41) fun _ _ h => h
      have i42 := hch _ _ _ _ _ i41 (.of_off (F := fun i => i = b2) o42 rfl) fun i hi e => nF2' (e ▸ hi)
      have i43 := hch _ _ _ _ (fun _ => False) i42 (.of_ext e43) fun _ _ h => h
      have e42 : Ext W w42 := ext_off ((ext_off (e33.trans e39) o40 g1).trans e41) o42 g2
      have c39 := c33'.trans (.of_ext (F := fun i => F0 i ∨ i = b1 ∨ i = b2) e39) fun _ _ h => h
      have c40 := c39.trans (.of_off (F := fun i => i = b1) o40 rfl) fun i _ h => .inr (.inl h)
      have c41 := c40.trans (.of_ext (F := fun i => F0 i ∨ i = b1 ∨ i = b2) e41) fun _ _ h => h
      have c42 := c41.trans (.of_off (F := fun i => i = b2) o42 rfl) fun i _ h => .inr (.inr h)
      have c43 := c42.trans (.of_ext (F := fun i => F0 i ∨ i = b1 ∨ i = b2) e43) fun _ _ h => h
      refine hJ1 (d ++ [(x, y)], xs', ys', F') () w43 ⟨s35, s38, i43, e42.trans e43, c43, fun i hi => (hF' i hi).elim (hF i) fun h => by right; omega, ?_, (List.pairwise_cons.1 rx).2, (List.pairwise_cons.1 ry).2, v35, v38, k35, k38, ?_, e43.blkE hb42⟩ (by simp only [List.length_cons]; omega)
      · rw [hcom, hc2]; simp
      · exact e43.blkE ((e41.blkE hb40).off o42 hne)
end
end Go.Sh

/- Meet and Both; their reference. -/
set_option maxRecDepth 100000
namespace Go.Sh
open Go.RowKit

def meetS (s : Int × Int) (p : Rc2 × Rc2) : Int × Int := if s.2 = -1 ∨ IntKind.i64.wrap (p.1.2 + p.2.2) ≤ s.1 then (IntKind.i64.wrap (p.1.2 + p.2.2), p.1.1) else s
def meetD (d : List (Rc2 × Rc2)) : Int × Int := d.foldl meetS (-1, -1)
/-- The least sum, and where. -/
def meetF (xs ys : List Rc2) : Int × Int := meetD (com xs ys)
theorem meetD_snoc (d : List (Rc2 × Rc2)) (p : Rc2 × Rc2) : meetD (d ++ [p]) = meetS (meetD d) p := by unfold meetD; rw [List.foldl_append]; rfl
section
variable {w : World}
theorem Meet_ok {sa sb : SV} {xs ys : List Rc2} {K : Int → Int → World → Prop} (hx : Rz xs) (hy : Rz ys) (va : View RE w sa xs) (vb : View RE w sb ys) (ca : sa.len ≤ sa.cap) (cb : sb.len ≤ sb.cap)
    (hk : ∀ w', Ext w w' → K (meetF xs ys).1 (meetF xs ys).2 w') : sh_space_Meet sa sb K w := by
  unfold sh_space_Meet
  intro b1 w2 e2 g1 g1' b3 w4 e4 g3 g3' w5 o5 w6 o6 b1007 w1008 e1008 g7 g7' b1009 w1010 e1010 g9 g9' hB7 hB9
  have z2 := e2.size; have z4 := e4.size; have z5 := o5.size; have z6 := o6.size; have z8 := e1008.size; have z10 := e1010.size
  refine ⟨kp_ext (e1008.trans e1010) (by (intro b hb; simp only [List.mem_cons, List.not_mem_nil, or_false] at hb; omega)), fun hB1 hB3 D l w1013 e1013 gD hDl hl => ?_⟩
  have z13 := e1013.size
  have e6 : Ext w w6 := ext_off (ext_off (e2.trans e4) o5 g1) o6 (by omega)
  have e13 := (e6.trans e1008).trans (e1010.trans e1013)
  have n13 : b1 ≠ b3 := by omega
  refine common_ok (W := w) (w0 := w1013) (I := fun d F w' => F = (fun i => i = b1 ∨ i = b3 ∨ i = l) ∧ Blk w' b1 [.int .i64 (meetD d).1] ∧ Blk w' b3 [.int .i64 (meetD d).2] ∧ w'.heap[l]? = w1013.heap[l]?) (F0 := fun i => i = b1 ∨ i = b3 ∨ i = l)
    hx hy va vb ca cb e13 (e1013.blkE hB7) (e1013.blkE hB9) (by omega) (by omega) (by omega) ?_ ?_ ?_ ⟨rfl, e1013.blkE hB1, e1013.blkE hB3, rfl⟩ (fun i hi => by omega) ?_
  · rintro d F w' ⟨rfl, h1, h3, hL⟩ i hi
    rcases hi with rfl | rfl | rfl
    · exact blk_lt h1
    · exact blk_lt h3
    · rw [Array.getElem?_eq_getElem hl] at hL
      exact (Array.getElem?_eq_some_iff.1 hL).1
  · rintro d F w' w'' G ⟨rfl, h1, h3, hL⟩ c hG
    have ll : l < w'.heap.size := by
      rw [Array.getElem?_eq_getElem hl] at hL
      exact (Array.getElem?_eq_some_iff.1 hL).1
    exact ⟨rfl, c.blk h1 (hG _ (.inl rfl)), c.blk h3 (hG _ (.inr (.inl rfl))), by rw [c.block l ll (hG _ (.inr (.inr rfl)))]; exact hL⟩
  · rintro d F w1018 x y r K' ⟨rfl, h1, h3, hL⟩ e18 hcom hK'
    have ll : l < w1018.heap.size := by
      rw [Array.getElem?_eq_getElem hl] at hL
      exact (Array.getElem?_eq_some_iff.1 hL).1
    have l1 := blk_lt h1; have l3 := blk_lt h3
    refine ⟨hL, ?_⟩
    intro b1020 w1021 e1021 g20 g20' w1022 o1022 b1023 w1024 e1024 g23 g23' w1025 o1025 w1026 o1026
    have z21 := e1021.size; have z22 := o1022.size; have z24 := e1024.size; have z25 := o1025.size; have z26 := o1026.size
    have e25 : Ext w1018 w1025 := ext_off ((ext_off e1021 o1022 g20).trans e1024) o1025 (by omega)
    have c26 : Chg (fun i => i = b1 ∨ i = b3 ∨ i = l) w1018 w1026 := (Chg.of_ext (F := fun i => i = b1 ∨ i = b3 ∨ i = l) e25).trans (.of_off (F := fun i => i = l) o1026 rfl) fun i _ h => .inr (.inr h)
    have k1 := (e25.blkE h1).off o1026 (show b1 ≠ l by omega)
    have k3 := (e25.blkE h3).off o1026 (show b3 ≠ l by omega)
    have fin : ∀ w', Chg (fun i => i = b1 ∨ i = b3 ∨ i = l) w1018 w' → Blk w' b1 [.int .i64 (meetD (d ++ [(x, y)])).1] → Blk w' b3 [.int .i64 (meetD (d ++ [(x, y)])).2] → ∀ w'', Off l w' w'' → (w''.heap[l]? = w1013.heap[l]? → K' true w'') := fun w' c h1 h3 w'' o hh =>
      hK' w'' _ ⟨rfl, h1.off o (by omega), h3.off o (by omega), hh⟩ (c.trans (.of_off (F := fun i => i = l) o rfl) fun i _ h => .inr (.inr h)) fun i hi => .inl hi
    have write : (meetD (d ++ [(x, y)])) = (IntKind.i64.wrap (x.2 + y.2), x.1) → ∀ w1028, Ext w1026 w1028 → stL w1028 ⟨b1, 0, none⟩ [.int .i64 (IntKind.i64.wrap (x.2 + y.2))] 0 (fun w1029 => Keeps [b1023, b1020, l] w1028 w1029 ∧ ∀ w1030, Ext w1029 w1030 → stL w1030 ⟨b3, 0, none⟩ [.int .i64 x.1] 0 (fun w1031 => Keeps [b1023, b1020, l] w1030 w1031 ∧ ∀ w1032, Ext w1031 w1032 → ∀ w1033, Off l w1032 w1033 → (w1033.heap[l]? = w1013.heap[l]? → K' true w1033))) := fun hm w1028 e28 => by
      have z28 := e28.size
      refine stL_blk (b := b1) (o := 0) _ 0 _ _ _ (e28.blkE k1) (by simp) fun w1029 o29 hb1 => ?_
      have z29 := o29.size
      refine ⟨kp_chg (.of_off (F := fun i => i = b1) o29 rfl) fun i hi => ?_, fun w1030 e30 => ?_⟩
      · simp only [List.mem_cons, List.not_mem_nil, or_false] at hi; omega
      have z30 := e30.size
      refine stL_blk (b := b3) (o := 0) _ 0 _ _ _ (e30.blkE ((e28.blkE k3).off o29 (Ne.symm n13))) (by simp) fun w1031 o31 hb3 => ?_
      have z31 := o31.size
      refine ⟨kp_chg (.of_off (F := fun i => i = b3) o31 rfl) fun i hi => ?_, fun w1032 e32 => ?_⟩
      · simp only [List.mem_cons, List.not_mem_nil, or_false] at hi; omega
      have c28 := c26.trans (.of_ext (F := fun i => i = b1 ∨ i = b3 ∨ i = l) e28) fun _ _ h => h
      have c29 := c28.trans (.of_off (F := fun i => i = b1) o29 rfl) fun i _ h => .inl h
      have c30 := c29.trans (.of_ext (F := fun i => i = b1 ∨ i = b3 ∨ i = l) e30) fun _ _ h => h
      have c31 := c30.trans (.of_off (F := fun i => i = b3) o31 rfl) fun i _ h => .inr (.inl h)
      have c32 := c31.trans (.of_ext (F := fun i => i = b1 ∨ i = b3 ∨ i = l) e32) fun _ _ h => h
      exact fin w1032 c32 (by rw [hm]; exact e32.blkE ((e30.blkE hb1).off o31 n13)) (by rw [hm]; exact e32.blkE hb3)
    have ms := meetD_snoc d (x, y)
    unfold meetS at ms
    simp only at ms
    refine ⟨_, by rw [cell_blk k3]; rfl, ?_⟩
    by_cases hat : (meetD d).2 = -1
    · rw [show ((meetD d).2 == -1) = true by rw [hat]; rfl, cond_true]
      rw [if_pos (.inl hat)] at ms
      exact write ms
    · rw [show ((meetD d).2 == -1) = false by rw [beq_eq_false_iff_ne]; exact hat, cond_false]
      refine ⟨_, by rw [cell_blk k1]; rfl, ?_⟩
      rw [Bool.cond_decide]
      by_cases hle : IntKind.i64.wrap (x.2 + y.2) ≤ (meetD d).1
      · rw [if_pos hle]
        rw [if_pos (.inr hle)] at ms
        exact write ms
      · rw [if_neg hle]
        rw [if_neg (fun q => q.elim hat hle)] at ms
        exact fin w1026 c26 (by rw [ms]; exact k1) (by rw [ms]; exact k3)
  · rintro F w1042 ⟨rfl, h1, h3, hL⟩ e42 c42 _
    refine ⟨kp_chg c42 fun i hi => ?_, .inl ⟨hL, fun w1043 o43 => ?_⟩⟩
    · simp only [List.mem_cons, List.not_mem_nil, or_false] at hi; omega
    have k1 := h1.off o43 (show b1 ≠ l by omega)
    have k3 := h3.off o43 (show b3 ≠ l by omega)
    refine ⟨_, by rw [cell_blk k1]; rfl, _, by rw [cell_blk k3]; rfl, fun w1046 e46 w1047 o47 => ?_⟩
    exact hk w1047 (ext_off ((ext_off e42 o43 (by omega)).trans e46) o47 (by omega))

theorem com_append (a b ys : List Rc2) : com (a ++ b) ys = com a ys ++ com b ys := by simp [com]
end
end Go.Sh

/- SpaceMeets, SpaceTurned. -/
set_option maxRecDepth 100000
namespace Go.Sh
open Go.RowKit

def sumP (p : Rc2 × Rc2) : Int := IntKind.i64.wrap (p.1.2 + p.2.2)
theorem meet_at {d : List (Rc2 × Rc2)} (h0 : ∀ p ∈ d, 0 ≤ p.1.1) : (d = [] ∧ meetD d = (-1, -1)) ∨ ∃ p ∈ d, meetD d = (sumP p, p.1.1) ∧ ∀ q ∈ d, sumP p ≤ sumP q := by
  suffices h : ∀ n, n ≤ d.length → (n = 0 ∧ meetD (d.take n) = (-1, -1)) ∨ ∃ p ∈ d.take n, meetD (d.take n) = (sumP p, p.1.1) ∧ ∀ q ∈ d.take n, sumP p ≤ sumP q by
    have := h d.length (Nat.le_refl _)
    rw [List.take_length] at this
    exact this.imp (fun ⟨a, b⟩ => ⟨List.length_eq_zero_iff.1 a, b⟩) id
  intro n
  induction n with
  | zero => intro _; exact .inl ⟨rfl, rfl⟩
  | succ n ih =>
    intro hn
    have hn' : n < d.length := by omega
    have e : d.take (n + 1) = d.take n ++ [d[n]] := by rw [List.take_add_one, List.getElem?_eq_getElem hn']; rfl
    right
    rw [e, meetD_snoc]
    unfold meetS
    rcases ih (by omega) with ⟨rfl, h2⟩ | ⟨p, hp, h2, h3⟩
    · rw [h2, if_pos (.inl rfl)]
      refine ⟨d[0], by simp, rfl, fun q hq => ?_⟩
      simp at hq; subst hq; exact Int.le_refl _
    · rw [h2]
      have hp0 := h0 p (List.mem_of_mem_take hp)
      by_cases hle : sumP d[n] ≤ sumP p
      · rw [if_pos (.inr hle)]
        refine ⟨d[n], List.mem_append_right _ (List.mem_singleton.2 rfl), rfl, fun q hq => ?_⟩
        rcases List.mem_append.1 hq with h | h
        · have := h3 q h; omega
        · rw [List.mem_singleton] at h; subst h; exact Int.le_refl _
      · rw [if_neg (fun q => q.elim (fun q => by simp only at q; omega) hle)]
        refine ⟨p, List.mem_append_left _ hp, rfl, fun q hq => ?_⟩
        rcases List.mem_append.1 hq with h | h
        · exact h3 q h
        · rw [List.mem_singleton] at h; subst h; omega

section
variable {CV : CVT} {w : World}
end
end Go.Sh

/- How far it is, by a hierarchy; QueryBy, QueryMeets. -/
set_option maxRecDepth 100000
namespace Go.Sh
open Go.RowKit

theorem Own.cap {α : Type} {R : Rc α} {w : World} {s : SV} {xs : List α} (h : Own R w s xs) : s.len ≤ s.cap := by
  obtain ⟨rest, h1, h2, _⟩ := h; omega

noncomputable def fwdL (rank : List Int) (ways : List Wy) (s : Int) : List Rc2 := rowsL rank.length (clF rank ways rank.length false s) fun _ => true
noncomputable def bckL (rank : List Int) (ways : List Wy) (t : Int) : List Rc2 := rowsL rank.length (clF rank ways rank.length true t) fun _ => true
noncomputable def whereF (rank : List Int) (ways : List Wy) (s t : Int) : Int × Int := meetF (fwdL rank ways s) (bckL rank ways t)

section
variable {CV : CVT} {w : World} {p : Option Addr} {rank : List Int} {ways : List Wy} {F : Nat → Prop}
theorem fwd_rz (s : Int) : Rz (fwdL rank ways s) := rowsL_pw _ _ _
theorem bck_rz (t : Int) : Rz (bckL rank ways t) := rowsL_pw _ _ _
theorem Where_ok (hcv : SpaceCV CV) {s t : Int} {K : Int → Int → World → Prop} (hH : HierA w p rank ways F) (fit : FitH rank ways) (hk : ∀ w', Ext w w' → K (whereF rank ways s t).1 (whereF rank ways s t).2 w') : sh_query_Where CV p s t K w := by
  unfold sh_query_Where
  refine Forward_ok hcv hH fit fun s1 w2 e2 h1 _ => ?_
  refine Back_ok hcv (hH.ext e2) fit fun s3 w4 e4 h3 _ => ?_
  exact Meet_ok (fwd_rz s) (bck_rz t) (h1.ext e4).view h3.view h1.cap h3.cap fun w' e => hk w' ((e2.trans e4).trans e)
theorem Far_ok (hcv : SpaceCV CV) {s t : Int} {K : Int → World → Prop} (hH : HierA w p rank ways F) (fit : FitH rank ways) (hk : ∀ w', Ext w w' → K (whereF rank ways s t).1 w') : sh_query_Far CV p s t K w := by
  unfold sh_query_Far
  exact Where_ok hcv hH fit hk

/-! ### One hierarchy is known -/
def tentR : List Int := [0, 2, 1]
theorem tent_ok : OkH tentR lineW := by
  refine ⟨by decide, by decide, ⟨by decide, by decide⟩, fun i hi => ?_, fun y hy => ?_⟩
  · have : i = 0 ∨ i = 1 := by simp [lineW] at hi; omega
    rcases this with rfl | rfl
    · show OkF 3 [] (0, 1, 2, -1, 0)
      unfold OkF; decide
    · show OkF 3 [(0, 1, 2, -1, 0)] (1, 2, 3, -1, 1)
      unfold OkF; decide
  · simp [lineW] at hy
    rcases hy with rfl | rfl <;> unfold OkW <;> rw [if_pos (by decide)] <;> decide
theorem tent_fit : FitH tentR lineW := ⟨tent_ok, by decide, fun y hy => by
  simp [lineW] at hy
  rcases hy with rfl | rfl <;> decide⟩
theorem tent_e {back : Bool} {u v : Nat} {x : Int} (h : ES tentR lineW 3 back u v x) : (back = false ∧ u = 0 ∧ v = 1 ∧ x = 2) ∨ (back = true ∧ u = 2 ∧ v = 1 ∧ x = 3) := by
  obtain ⟨k, hk, k1, k2, k3, _, k5⟩ := ES_way tent_ok h
  have : k = 0 ∨ k = 1 := by simp [lineW] at hk; omega
  cases back with
  | false =>
    rcases this with rfl | rfl
    · left
      have k1 : (0 : Int) = (u : Int) := k1
      have k2 : (1 : Int) = (v : Int) := k2
      have k3 : (2 : Int) = x := k3
      exact ⟨rfl, by omega, by omega, k3.symm⟩
    · exfalso
      have k1 : (1 : Int) = (u : Int) := k1
      have k2 : (2 : Int) = (v : Int) := k2
      rw [← k1, ← k2] at k5
      exact absurd k5 (by decide)
  | true =>
    rcases this with rfl | rfl
    · exfalso
      have k1 : (1 : Int) = (u : Int) := k1
      have k2 : (0 : Int) = (v : Int) := k2
      rw [← k1, ← k2] at k5
      exact absurd k5 (by decide)
    · right
      have k1 : (2 : Int) = (u : Int) := k1
      have k2 : (1 : Int) = (v : Int) := k2
      have k3 : (3 : Int) = x := k3
      exact ⟨rfl, by omega, by omega, k3.symm⟩
theorem tent_01 : ES tentR lineW 3 false 0 1 2 := ES_of tent_ok (k := 0) (by decide) (u := 0) (v := 1) rfl rfl (by decide) (by decide)
theorem tent_21 : ES tentR lineW 3 true 2 1 3 := ES_of tent_ok (k := 1) (by decide) (u := 2) (v := 1) rfl rfl (by decide) (by decide)
def tf0 (v : Nat) : Int := if v = 0 then 0 else if v = 1 then 2 else -1
def tb2 (v : Nat) : Int := if v = 2 then 0 else if v = 1 then 3 else -1
theorem cl_tf0 (v : Nat) : clF tentR lineW 3 false 0 v = tf0 v := by
  refine (clF_is tent_fit (s := 0) (by decide) v).uniq (isD_by (f := tf0) rfl (fun v h => ?_) (fun v => ?_) (fun u v x e h => ?_) v)
  · unfold tf0 at h ⊢
    split at h
    · subst_vars; exact .nil
    · split at h
      · subst_vars; exact .edge tent_01
      · omega
  · unfold tf0
    split
    · exact .inr (by decide)
    · split
      · exact .inr (by decide)
      · exact .inl rfl
  · rcases tent_e e with ⟨_, rfl, rfl, rfl⟩ | ⟨q, _⟩
    · exact ⟨by decide, by decide⟩
    · cases q
theorem cl_tb2 (v : Nat) : clF tentR lineW 3 true 2 v = tb2 v := by
  refine (clF_is tent_fit (s := 2) (by decide) v).uniq (isD_by (f := tb2) rfl (fun v h => ?_) (fun v => ?_) (fun u v x e h => ?_) v)
  · unfold tb2 at h ⊢
    split at h
    · subst_vars; exact .nil
    · split at h
      · subst_vars; exact .edge tent_21
      · omega
  · unfold tb2
    split
    · exact .inr (by decide)
    · split
      · exact .inr (by decide)
      · exact .inl rfl
  · rcases tent_e e with ⟨q, _⟩ | ⟨_, rfl, rfl, rfl⟩
    · cases q
    · exact ⟨by decide, by decide⟩
theorem cl_t0 (v : Nat) : clF tentR lineW 3 true 0 v = if v = 0 then 0 else -1 := cl_alone tent_fit (s := 0) (by decide) (fun v x e => by
  rcases tent_e e with ⟨q, _⟩ | ⟨_, q, _⟩
  · cases q
  · omega) v
theorem cl_t2 (v : Nat) : clF tentR lineW 3 false 2 v = if v = 2 then 0 else -1 := cl_alone tent_fit (s := 2) (by decide) (fun v x e => by
  rcases tent_e e with ⟨_, q, _⟩ | ⟨q, _⟩
  · omega
  · cases q) v
theorem tent_02 : whereF tentR lineW 0 2 = (5, 1) := by
  unfold whereF fwdL bckL
  rw [show ((tentR.length : Nat) : Int) = 3 from rfl, rowsL_f cl_tf0, rowsL_f cl_tb2, show rowsL tentR.length tf0 (fun _ => true) = [(0, 0), (1, 2)] by decide, show rowsL tentR.length tb2 (fun _ => true) = [(1, 3), (2, 0)] by decide]
  unfold meetF
  rw [show com [(0, 0), (1, 2)] [(1, 3), (2, 0)] = [((1, 2), (1, 3))] by decide]
  unfold meetD meetS
  simp only [List.foldl_cons, List.foldl_nil, true_or, if_pos]
  rw [w64 (by decide) (by decide)]; rfl
theorem tent_20 : whereF tentR lineW 2 0 = (-1, -1) := by
  unfold whereF fwdL bckL
  rw [show ((tentR.length : Nat) : Int) = 3 from rfl, rowsL_f cl_t2, rowsL_f cl_t0, show rowsL tentR.length (fun v => if v = 2 then 0 else -1) (fun _ => true) = [(2, 0)] by decide, show rowsL tentR.length (fun v => if v = 0 then 0 else -1) (fun _ => true) = [(0, 0)] by decide]
  rfl
theorem known12_ok (hcv : SpaceCV CV) {K : Bool → World → Prop} (hk : ∀ w', Ext w w' → K true w') : sh_postroadlaw12_known CV K w := by
  unfold sh_postroadlaw12_known
  intro b1 w2 e2 g1 hB1 b3 w4 e4 g3 hB3
  have hr : View RI w4 ⟨some ⟨b1, 0, none⟩, 3, 3⟩ tentR := View.all (R := RI) (xs := tentR) (e4.blkE hB1)
  have hy : View RW w4 ⟨some ⟨b3, 0, none⟩, 2, 2⟩ lineW := View.all (R := RW) (xs := lineW) hB3
  refine HNew_ok hr hy (by decide) (by decide) (fun _ p w6 F e6 hH _ => ?_) (fun hno => absurd tent_ok hno)
  refine Where_ok hcv (s := 0) (t := 2) hH tent_fit fun w9 e9 => ?_
  rw [tent_02, show ((5 : Int) == 5) = true from rfl, cond_true, show ((1 : Int) == 1) = true from rfl, cond_true]
  refine Far_ok hcv (s := 0) (t := 2) (hH.ext e9) tent_fit fun w11 e11 => ?_
  rw [tent_02, show ((5 : Int) == 5) = true from rfl, cond_true]
  refine Far_ok hcv (s := 2) (t := 0) (hH.ext (e9.trans e11)) tent_fit fun w13 e13 => ?_
  rw [tent_20]
  exact hk w13 (((e2.trans e4).trans (e6.trans e9)).trans (e11.trans e13))

/-! ### As far as the map -/
theorem sum_w (fit : FitH rank ways) {s t : Nat} (hs : s < rank.length) (ht : t < rank.length) {m : Nat} (hm : m < rank.length) (h1 : 0 ≤ clF rank ways rank.length false s m) (h2 : 0 ≤ clF rank ways rank.length true t m) :
    IntKind.i64.wrap (clF rank ways rank.length false s m + clF rank ways rank.length true t m) = clF rank ways rank.length false s m + clF rank ways rank.length true t m := by
  have a := wk_len fit ((clF_is (top := (rank.length : Int)) (back := false) fit hs m).wk h1)
  have b := wk_len fit ((clF_is (top := (rank.length : Int)) (back := true) fit ht m).wk h2)
  have := okR_rk fit.ok hs; have := okR_rk fit.ok ht; have := okR_rk fit.ok hm
  have := fit.n
  exact w64 (by omega) (by omega)
theorem far_dst {n : Nat} {arcs : List Arc} (ok : OkMap (n : Int) arcs) (hM : MapH n arcs rank ways) (hn : n ≤ 12) {s t : Nat} (hs : s < n) (ht : t < n) : (whereF rank ways s t).1 = dst arcs s t := by
  have fit := hM.fit hn
  have hrn := hM.n
  have hs' : s < rank.length := by omega
  have ht' : t < rank.length := by omega
  have cf := fun m => clF_is (top := (rank.length : Int)) (back := false) fit hs' m
  have cb := fun m => clF_is (top := (rank.length : Int)) (back := true) fit ht' m
  refine IsD.uniq ?_ (dst_is ok s t)
  have mem : ∀ pq, pq ∈ com (fwdL rank ways s) (bckL rank ways t) ↔ ∃ m : Nat, m < rank.length ∧ 0 ≤ clF rank ways rank.length false s m ∧ 0 ≤ clF rank ways rank.length true t m ∧ pq = (((m : Int), clF rank ways rank.length false s m), ((m : Int), clF rank ways rank.length true t m)) := fun pq => by
    rw [com_mem]
    unfold fwdL bckL
    rw [rowsL_mem, rowsL_mem]
    constructor
    · rintro ⟨⟨a, a1, a2, _, a3⟩, ⟨b, b1, b2, _, b3⟩, h⟩
      rw [a3, b3] at h
      have : a = b := by simp only at h; omega
      subst this
      exact ⟨a, a1, a2, b2, Prod.ext a3 b3⟩
    · rintro ⟨m, m1, m2, m3, rfl⟩
      exact ⟨⟨m, m1, m2, rfl, rfl⟩, ⟨m, m1, m3, rfl, rfl⟩, rfl⟩
  have full : ∀ d, Wk (EA arcs) s t d → ∃ m : Nat, m < rank.length ∧ 0 ≤ clF rank ways rank.length false s m ∧ 0 ≤ clF rank ways rank.length true t m ∧ clF rank ways rank.length false s m + clF rank ways rank.length true t m ≤ d := fun d hd => by
    obtain ⟨m, x, z, w1, w2, hle⟩ := hM.co s t d hs ht hd
    have e1 : Wk (ES rank ways rank.length false) s m x := w1.mono fun u v q ⟨⟨y, hy, y1, y2, y3⟩, hlt⟩ => by
      obtain ⟨k, hk, rfl⟩ := List.getElem_of_mem hy
      have hf := hM.ok.f k hk; unfold OkF at hf
      rw [← y3]
      exact ES_of hM.ok hk y1 y2 (okR_rk hM.ok (show u < rank.length by omega)).2 hlt
    have e2 : Wk (ES rank ways rank.length true) t m z := w2.rev.mono fun u v q ⟨⟨y, hy, y1, y2, y3⟩, hlt⟩ => by
      obtain ⟨k, hk, rfl⟩ := List.getElem_of_mem hy
      have hf := hM.ok.f k hk; unfold OkF at hf
      rw [← y3]
      exact ES_of hM.ok hk (back := true) y2 y1 (okR_rk hM.ok (show u < rank.length by omega)).2 hlt
    have a := (cf m).min e1; have b := (cb m).min e2
    refine ⟨m, ?_, a.1, b.1, by omega⟩
    exact e1.keep (P := fun i => i < rank.length) (fun u v q e h => ES_dom fit u v q e h) hs'
  have h0 : ∀ pq ∈ com (fwdL rank ways s) (bckL rank ways t), 0 ≤ pq.1.1 := fun pq hpq => by
    obtain ⟨m, _, _, _, rfl⟩ := (mem pq).1 hpq
    simp only; omega
  unfold whereF meetF
  rcases meet_at h0 with ⟨he, hm⟩ | ⟨pq, hpq, hm, hmin⟩
  · rw [hm]
    refine .inl ⟨rfl, fun d hd => ?_⟩
    obtain ⟨m, m1, m2, m3, _⟩ := full d hd
    have := (mem _).2 ⟨m, m1, m2, m3, rfl⟩
    rw [he] at this; simp at this
  · rw [hm]
    obtain ⟨m, m1, m2, m3, rfl⟩ := (mem pq).1 hpq
    unfold sumP
    simp only
    rw [sum_w fit hs' ht' m1 m2 m3]
    refine .inr ⟨by omega, ((wk_map hM).1 ((cf m).wk m2)).trans ((wk_map hM).2 ((cb m).wk m3)), fun d hd => ?_⟩
    obtain ⟨m', q1, q2, q3, q4⟩ := full d hd
    have := hmin _ ((mem _).2 ⟨m', q1, q2, q3, rfl⟩)
    unfold sumP at this
    simp only at this
    rw [sum_w fit hs' ht' m1 m2 m3, sum_w fit hs' ht' q1 q2 q3] at this
    omega

end
end Go.Sh

/- A search: what is settled, and what is open; two of them, step by step. -/
set_option maxRecDepth 100000
namespace Go.Sh
open Go.RowKit

/-- What is open, as a list. -/
def opnL (n : Nat) (o : Nat → Int) : List (Int × Int) := ((List.range n).filter fun v => decide (0 ≤ o v)).map fun (v : Nat) => ((v : Int), o v)
theorem mem_opnL {n : Nat} {o : Nat → Int} {e : Int × Int} : e ∈ opnL n o ↔ ∃ v, v < n ∧ 0 ≤ o v ∧ e = ((v : Int), o v) := by
  unfold opnL
  rw [List.mem_map]
  constructor
  · rintro ⟨v, hv, rfl⟩
    rw [List.mem_filter, List.mem_range, decide_eq_true_iff] at hv
    exact ⟨v, hv.1, hv.2, rfl⟩
  · rintro ⟨v, h1, h2, rfl⟩
    exact ⟨v, by rw [List.mem_filter, List.mem_range, decide_eq_true_iff]; exact ⟨h1, h2⟩, rfl⟩
theorem opnL_at {n : Nat} {o : Nat → Int} {v : Nat} {k : Int} : ((v : Int), k) ∈ opnL n o ↔ v < n ∧ 0 ≤ o v ∧ k = o v := by
  rw [mem_opnL]
  constructor
  · rintro ⟨u, h1, h2, h3⟩
    have a := congrArg Prod.fst h3
    have b := congrArg Prod.snd h3
    simp only at a b
    have : u = v := by omega
    subst this; exact ⟨h1, h2, b⟩
  · rintro ⟨h1, h2, rfl⟩; exact ⟨v, h1, h2, rfl⟩

/-- The first of what is open. -/
def IsFst (n : Nat) (o : Nat → Int) (v : Nat) : Prop := v < n ∧ 0 ≤ o v ∧ ∀ u, u < n → 0 ≤ o u → o v < o u ∨ o v = o u ∧ v ≤ u
theorem IsFst.uniq {n : Nat} {o : Nat → Int} {u v : Nat} (h : IsFst n o u) (k : IsFst n o v) : u = v := by
  have a := h.2.2 v k.1 k.2.1
  have b := k.2.2 u h.1 h.2.1
  omega
theorem IsFst.ex {n : Nat} {o : Nat → Int} : ∀ {m : Nat}, m ≤ n → (∃ v, v < m ∧ 0 ≤ o v) → ∃ v, v < m ∧ 0 ≤ o v ∧ ∀ u, u < m → 0 ≤ o u → o v < o u ∨ o v = o u ∧ v ≤ u
  | 0, _, ⟨v, hv, _⟩ => by omega
  | m + 1, hm, ⟨v, hv, hv0⟩ => by
    by_cases h : ∃ v, v < m ∧ 0 ≤ o v
    · obtain ⟨x, x1, x2, x3⟩ := IsFst.ex (Nat.le_of_succ_le hm) h
      by_cases hmm : 0 ≤ o m ∧ o m < o x
      · refine ⟨m, by omega, hmm.1, fun u hu hu0 => ?_⟩
        by_cases e : u = m
        · subst e; right; exact ⟨rfl, Nat.le_refl _⟩
        · have := x3 u (by omega) hu0; omega
      · refine ⟨x, by omega, x2, fun u hu hu0 => ?_⟩
        by_cases e : u = m
        · subst e; omega
        · exact x3 u (by omega) hu0
    · have : v = m := by
        apply Classical.byContradiction
        intro q
        exact h ⟨v, by omega, hv0⟩
      subst this
      refine ⟨v, by omega, hv0, fun u hu hu0 => ?_⟩
      by_cases e : u = v
      · subst e; right; exact ⟨rfl, Nat.le_refl _⟩
      · exact absurd ⟨u, by omega, hu0⟩ h

/-- An edge is looked at; a place is settled. -/
def rlxO (f : Nat → Int) (d : Int) (o : Nat → Int) (e : Int × Int × Int) : Nat → Int := if f e.1.toNat < 0 ∧ (o e.1.toNat < 0 ∨ d + e.2.1 < o e.1.toNat) then up1 o e.1.toNat (d + e.2.1) else o
def setF (f o : Nat → Int) (v : Nat) : Nat → Int := up1 f v (o v)
def setO (f o : Nat → Int) (v : Nat) (ed : List (Int × Int × Int)) : Nat → Int := ed.foldl (rlxO (setF f o v) (o v)) (up1 o v (-1))

/-- A search is on its way. -/
structure Sch (n s : Nat) (M : Int) (ed : Nat → List (Int × Int × Int)) (f o : Nat → Int) : Prop where
  d : Dij (EE' n ed) n s M f (opnL n o)
  o : ∀ v, v < n → o v = -1 ∨ 0 ≤ o v
section
variable {n s : Nat} {M : Int} {ed : Nat → List (Int × Int × Int)} {f o : Nat → Int}
theorem Sch.begin (hs : s < n) (hM : 0 ≤ M) : Sch n s M ed (fun _ => -1) (up1 (fun _ => -1) s 0) := by
  have h : opnL n (up1 (fun _ => -1) s 0) = [((s : Int), 0)] := by
    refine sorted_ext1 ?_ fun e => ?_
    · unfold opnL
      rw [List.pairwise_map]
      exact (List.Pairwise.filter _ List.pairwise_lt_range).imp fun h => by dsimp only; omega
    · rw [mem_opnL]
      constructor
      · rintro ⟨v, _, h2, rfl⟩
        by_cases e : v = s
        · subst e; rw [up1_at]
        · rw [up1_ne e] at h2; omega
      · rintro rfl
        exact ⟨s, hs, by rw [up1_at]; decide, by rw [up1_at]⟩
  refine ⟨by rw [h]; exact Dij.begin hs hM, fun v _ => ?_⟩
  by_cases e : v = s
  · subst e; rw [up1_at]; exact .inr (by decide)
  · rw [up1_ne e]; exact .inl rfl

theorem Sch.settle (h : Sch n s M ed f o) (ok : EdOk n M ed) {v : Nat} (hv : IsFst n o v) : Sch n s M ed (setF f o v) (setO f o v (ed v)) ∧ cntR (setF f o v) n = cntR f n + 1 ∧ IsD (EE' n ed) s v (o v) := by
  have hpos : ∀ u v x, EE' n ed u v x → 0 ≤ x := fun u v x ⟨hu, e, he, _, hx⟩ => by have := ok.e u hu e he; omega
  have hdom : ∀ u v x, EE' n ed u v x → u < n → v < n := fun u v x ⟨hu, e, he, hv, _⟩ _ => by have := ok.e u hu e he; omega
  have hm : ((v : Int), o v) ∈ opnL n o := opnL_at.2 ⟨hv.1, hv.2.1, rfl⟩
  have hmin : ∀ y ∈ opnL n o, o v ≤ y.2 := fun y hy => by
    obtain ⟨u, u1, u2, rfl⟩ := mem_opnL.1 hy
    have := hv.2.2 u u1 u2
    simp only; omega
  have hD := h.d.least hpos hdom hm hmin
  have hne : ∀ (o' : Nat → Int) (u : Nat) (x : Int), (∀ e, e ∈ opnL n (up1 o' u x) ↔ (u < n ∧ 0 ≤ x ∧ e = ((u : Int), x)) ∨ e ∈ opnL n o' ∧ e.1 ≠ (u : Int)) := fun o' u x e => by
    rw [mem_opnL, mem_opnL]
    constructor
    · rintro ⟨a, a1, a2, rfl⟩
      by_cases q : a = u
      · subst q; rw [up1_at] at a2 ⊢; exact .inl ⟨a1, a2, rfl⟩
      · rw [up1_ne q] at a2 ⊢; exact .inr ⟨⟨a, a1, a2, rfl⟩, by simp only; omega⟩
    · rintro (⟨a1, a2, rfl⟩ | ⟨⟨a, a1, a2, rfl⟩, a3⟩)
      · exact ⟨u, a1, by rw [up1_at]; exact a2, by rw [up1_at]⟩
      · have q : a ≠ u := fun q => a3 (by rw [q])
        exact ⟨a, a1, by rw [up1_ne q]; exact a2, by rw [up1_ne q]⟩
  obtain ⟨hP, _, hcnt⟩ := h.d.pop hpos hdom hm hmin (L' := opnL n (up1 o v (-1))) fun e => by
    rw [hne]
    exact ⟨fun q => q.elim (fun q => by omega) id, .inr⟩
  simp only [Int.toNat_natCast] at hP hcnt hD
  have key : ∀ i, i ≤ (ed v).length → DijP (EE' n ed) n s M (setF f o v) (opnL n (((ed v).take i).foldl (rlxO (setF f o v) (o v)) (up1 o v (-1)))) v (fun v' x' => ∃ j, ∃ hj : j < (ed v).length, j < i ∧ ((ed v)[j]).1 = (v' : Int) ∧ ((ed v)[j]).2.1 = x') ∧
      ∀ u, u < n → (((ed v).take i).foldl (rlxO (setF f o v) (o v)) (up1 o v (-1))) u = -1 ∨ 0 ≤ (((ed v).take i).foldl (rlxO (setF f o v) (o v)) (up1 o v (-1))) u := by
    intro i
    induction i with
    | zero =>
      intro _
      refine ⟨hP.mono fun _ _ ⟨j, _, hj, _⟩ => by omega, fun u hu => ?_⟩
      simp only [List.take_zero, List.foldl_nil]
      by_cases e : u = v
      · subst e; exact .inl up1_at
      · rw [up1_ne e]; exact h.o u hu
    | succ i ih =>
      intro hi
      have hi' : i < (ed v).length := by omega
      obtain ⟨ih, io⟩ := ih (by omega)
      rw [List.take_add_one, List.getElem?_eq_getElem hi', Option.toList_some, List.foldl_append]
      generalize ((ed v).take i).foldl (rlxO (setF f o v) (o v)) (up1 o v (-1)) = o' at ih io
      obtain ⟨q0, q1, q2, q3⟩ := ok.e v hv.1 _ (List.getElem_mem hi')
      obtain ⟨u, hu⟩ := Int.eq_ofNat_of_zero_le q0
      have hun : u < n := by omega
      have hEv : EE' n ed v u ((ed v)[i]).2.1 := ⟨hv.1, _, List.getElem_mem hi', hu, rfl⟩
      have hfv : setF f o v v = o v := up1_at
      have mono : ∀ {L : List (Int × Int)}, DijP (EE' n ed) n s M (setF f o v) L v (fun v' x' => (∃ j, ∃ hj : j < (ed v).length, j < i ∧ ((ed v)[j]).1 = (v' : Int) ∧ ((ed v)[j]).2.1 = x') ∨ v' = u ∧ x' = ((ed v)[i]).2.1) →
          DijP (EE' n ed) n s M (setF f o v) L v (fun v' x' => ∃ j, ∃ hj : j < (ed v).length, j < i + 1 ∧ ((ed v)[j]).1 = (v' : Int) ∧ ((ed v)[j]).2.1 = x') := fun h => h.mono fun v' x' ⟨j, hj, hji, r1, r2⟩ => by
        by_cases e : j = i
        · subst e; right; exact ⟨by omega, r2.symm⟩
        · left; exact ⟨j, hj, by omega, r1, r2⟩
      simp only [List.foldl_cons, List.foldl_nil]
      unfold rlxO
      rw [hu, Int.toNat_natCast]
      by_cases hc : setF f o v u < 0 ∧ (o' u < 0 ∨ o v + ((ed v)[i]).2.1 < o' u)
      · rw [if_pos hc]
        have hfu : setF f o v u = -1 := by
          rcases ih.d u hun with q | ⟨_, q, _⟩
          · exact q
          · omega
        refine ⟨mono (ih.set hun hEv q3 hfu (fun k hk => ?_) fun e => ?_), fun a ha => ?_⟩
        · obtain ⟨_, k2, rfl⟩ := opnL_at.1 hk
          rw [hfv]; omega
        · rw [hne, hfv]
          exact or_congr ⟨fun q => q.2.2, fun q => ⟨hun, by have := hv.2.1; omega, q⟩⟩ Iff.rfl
        · by_cases e : a = u
          · subst e; rw [up1_at]; exact .inr (by have := hv.2.1; omega)
          · rw [up1_ne e]; exact io a ha
      · rw [if_neg hc]
        refine ⟨mono (ih.skip ?_), io⟩
        by_cases h1 : 0 ≤ setF f o v u
        · exact .inl h1
        · right
          have : ¬ (o' u < 0 ∨ o v + ((ed v)[i]).2.1 < o' u) := fun q => hc ⟨by omega, q⟩
          exact ⟨o' u, opnL_at.2 ⟨hun, by omega, rfl⟩, by rw [hfv]; omega⟩
  obtain ⟨k1, k2⟩ := key _ (Nat.le_refl _)
  rw [List.take_length] at k1 k2
  refine ⟨⟨k1.done fun v' x ⟨_, e, he, r1, r2⟩ => ?_, k2⟩, hcnt, hD⟩
  obtain ⟨j, hj, rfl⟩ := List.getElem_of_mem he
  exact ⟨j, hj, hj, r1, r2⟩
end
end Go.Sh

/- Both searches, step by step. -/
set_option maxRecDepth 100000
namespace Go.Sh
open Go.RowKit

/-- One of both may go on with v. -/
def Avl (n : Nat) (o : Nat → Int) (best : Int) (v : Nat) : Prop := IsFst n o v ∧ (best < 0 ∨ o v < best)
theorem Avl.uniq {n : Nat} {o : Nat → Int} {best : Int} {u v : Nat} (h : Avl n o best u) (k : Avl n o best v) : u = v := h.1.uniq k.1
/-- The best sum, with a place. -/
def bstF (f g : Nat → Int) (v : Nat) (best : Int) : Int := if 0 ≤ f v ∧ 0 ≤ g v ∧ (best < 0 ∨ f v + g v < best) then f v + g v else best

structure BS where
  fa : Nat → Int
  oa : Nat → Int
  fb : Nat → Int
  ob : Nat → Int
  best : Int
  steps : Nat
def BS.goA (x : BS) (ea : Nat → List (Int × Int × Int)) (v : Nat) : BS := ⟨setF x.fa x.oa v, setO x.fa x.oa v (ea v), x.fb, x.ob, bstF (setF x.fa x.oa v) x.fb v x.best, x.steps + 1⟩
def BS.goB (x : BS) (eb : Nat → List (Int × Int × Int)) (v : Nat) : BS := ⟨x.fa, x.oa, setF x.fb x.ob v, setO x.fb x.ob v (eb v), bstF x.fa (setF x.fb x.ob v) v x.best, x.steps + 1⟩
inductive BStep (n : Nat) (ea eb : Nat → List (Int × Int × Int)) : BS → BS → Prop
  | a {x : BS} {v : Nat} (h : Avl n x.oa x.best v) (hb : ∀ u, Avl n x.ob x.best u → x.oa v ≤ x.ob u) : BStep n ea eb x (x.goA ea v)
  | b {x : BS} {v : Nat} (h : Avl n x.ob x.best v) (ha : ∀ u, Avl n x.oa x.best u → x.ob v < x.oa u) : BStep n ea eb x (x.goB eb v)
def BStop (n : Nat) (x : BS) : Prop := (∀ v, ¬ Avl n x.oa x.best v) ∧ ∀ v, ¬ Avl n x.ob x.best v
inductive BRun (n : Nat) (ea eb : Nat → List (Int × Int × Int)) (x : BS) : BS → Prop
  | nil : BRun n ea eb x x
  | snoc {y z : BS} : BRun n ea eb x y → BStep n ea eb y z → BRun n ea eb x z
section
variable {n : Nat} {ea eb : Nat → List (Int × Int × Int)} {x y z : BS}
theorem BStep.det (h : BStep n ea eb x y) (k : BStep n ea eb x z) : y = z := by
  cases h with
  | a h hb =>
    cases k with
    | a k _ => rw [h.uniq k]
    | b k ha => have := hb _ k; have := ha _ h; omega
  | b h ha =>
    cases k with
    | a k hb => have := hb _ h; have := ha _ k; omega
    | b k _ => rw [h.uniq k]
theorem BStep.no (h : BStep n ea eb x y) (k : BStop n x) : False := by
  cases h with
  | a h _ => exact k.1 _ h
  | b h _ => exact k.2 _ h
theorem BStep.steps (h : BStep n ea eb x y) : y.steps = x.steps + 1 := by cases h <;> rfl
theorem BRun.first (h : BRun n ea eb x z) : x = z ∨ ∃ y, BStep n ea eb x y ∧ BRun n ea eb y z := by
  induction h with
  | nil => exact .inl rfl
  | snoc _ e ih =>
    right
    rcases ih with rfl | ⟨y, h1, h2⟩
    · exact ⟨_, e, .nil⟩
    · exact ⟨y, h1, h2.snoc e⟩
theorem BRun.steps (h : BRun n ea eb x y) : x.steps ≤ y.steps := by
  induction h with
  | nil => exact Nat.le_refl _
  | snoc _ e ih => have := e.steps; omega
/-- There is one end alone. -/
theorem BRun.end_ : ∀ (k : Nat) {x y z : BS}, BRun n ea eb x y → BStop n y → BRun n ea eb x z → BStop n z → y.steps - x.steps ≤ k → y = z
  | 0, x, y, z, h, hy, k, hz, hk => by
    rcases h.first with rfl | ⟨a, h1, h2⟩
    · rcases k.first with rfl | ⟨b, k1, _⟩
      · rfl
      · exact (k1.no hy).elim
    · have := h1.steps; have := h2.steps; omega
  | m + 1, x, y, z, h, hy, k, hz, hk => by
    rcases h.first with rfl | ⟨a, h1, h2⟩
    · rcases k.first with rfl | ⟨b, k1, _⟩
      · rfl
      · exact (k1.no hy).elim
    · rcases k.first with rfl | ⟨b, k1, k2⟩
      · exact (h1.no hz).elim
      · have e := h1.det k1
        subst e
        have := h1.steps
        exact BRun.end_ m h2 hy k2 hz (by omega)
end

/-- What is known on the way. -/
structure BInv (n s t : Nat) (M : Int) (ea eb : Nat → List (Int × Int × Int)) (x : BS) : Prop where
  a : Sch n s M ea x.fa x.oa
  b : Sch n t M eb x.fb x.ob
  best : (x.best = -1 ∧ ∀ m, m < n → ¬ (0 ≤ x.fa m ∧ 0 ≤ x.fb m)) ∨ (0 ≤ x.best ∧ (∃ m, m < n ∧ 0 ≤ x.fa m ∧ 0 ≤ x.fb m ∧ x.best = x.fa m + x.fb m) ∧ ∀ m, m < n → 0 ≤ x.fa m → 0 ≤ x.fb m → x.best ≤ x.fa m + x.fb m)
  st : x.steps = cntR x.fa n + cntR x.fb n
section
variable {n s t : Nat} {M : Int} {ea eb : Nat → List (Int × Int × Int)} {x y : BS}
def BS.start (s t : Nat) : BS := ⟨fun _ => -1, up1 (fun _ => -1) s 0, fun _ => -1, up1 (fun _ => -1) t 0, -1, 0⟩
theorem cntR_none (n : Nat) : cntR (fun _ => (-1 : Int)) n = 0 := by
  induction n with
  | zero => rfl
  | succ n ih => unfold cntR; rw [ih, if_neg (by decide)]
theorem BInv.begin (hs : s < n) (ht : t < n) (hM : 0 ≤ M) : BInv n s t M ea eb (BS.start s t) :=
  ⟨Sch.begin hs hM, Sch.begin ht hM, .inl ⟨rfl, fun m _ h => by have := h.1; simp only [BS.start] at this; omega⟩, by show 0 = _; simp only [BS.start]; rw [cntR_none]⟩

theorem bstF_ok {f g f' : Nat → Int} {n v : Nat} {best : Int} (hv : v < n) (hf : 0 ≤ f' v) (hne : ∀ m, m < n → m ≠ v → f' m = f m) (hold : f v = -1)
    (h : (best = -1 ∧ ∀ m, m < n → ¬ (0 ≤ f m ∧ 0 ≤ g m)) ∨ (0 ≤ best ∧ (∃ m, m < n ∧ 0 ≤ f m ∧ 0 ≤ g m ∧ best = f m + g m) ∧ ∀ m, m < n → 0 ≤ f m → 0 ≤ g m → best ≤ f m + g m)) :
    (bstF f' g v best = -1 ∧ ∀ m, m < n → ¬ (0 ≤ f' m ∧ 0 ≤ g m)) ∨ (0 ≤ bstF f' g v best ∧ (∃ m, m < n ∧ 0 ≤ f' m ∧ 0 ≤ g m ∧ bstF f' g v best = f' m + g m) ∧ ∀ m, m < n → 0 ≤ f' m → 0 ≤ g m → bstF f' g v best ≤ f' m + g m) := by
  unfold bstF
  by_cases hc : 0 ≤ f' v ∧ 0 ≤ g v ∧ (best < 0 ∨ f' v + g v < best)
  · rw [if_pos hc]
    refine .inr ⟨by omega, ⟨v, hv, hc.1, hc.2.1, rfl⟩, fun m hm h1 h2 => ?_⟩
    by_cases e : m = v
    · subst e; exact Int.le_refl _
    · rw [hne m hm e] at h1 ⊢
      rcases h with ⟨_, q⟩ | ⟨q0, _, q⟩
      · exact absurd ⟨h1, h2⟩ (q m hm)
      · have := q m hm h1 h2; omega
  · rw [if_neg hc]
    rcases h with ⟨q1, q2⟩ | ⟨q0, ⟨m, m1, m2, m3, m4⟩, q⟩
    · refine .inl ⟨q1, fun m hm ⟨h1, h2⟩ => ?_⟩
      by_cases e : m = v
      · subst e; exact hc ⟨h1, h2, .inl (by omega)⟩
      · rw [hne m hm e] at h1; exact q2 m hm ⟨h1, h2⟩
    · have mv : m ≠ v := fun e => by subst e; omega
      refine .inr ⟨q0, ⟨m, m1, by rw [hne m m1 mv]; exact m2, m3, by rw [hne m m1 mv]; exact m4⟩, fun k hk h1 h2 => ?_⟩
      by_cases e : k = v
      · subst e
        have : ¬ (best < 0 ∨ f' k + g k < best) := fun q => hc ⟨h1, h2, q⟩
        omega
      · rw [hne k hk e] at h1 ⊢; exact q k hk h1 h2
theorem bstF_comm (f g : Nat → Int) (v : Nat) (best : Int) : bstF f g v best = bstF g f v best := by
  unfold bstF
  rw [Int.add_comm (g v)]
  by_cases h : 0 ≤ f v ∧ 0 ≤ g v ∧ (best < 0 ∨ f v + g v < best)
  · rw [if_pos h, if_pos ⟨h.2.1, h.1, h.2.2⟩]
  · rw [if_neg h, if_neg fun q => h ⟨q.2.1, q.1, q.2.2⟩]

theorem BInv.step (h : BInv n s t M ea eb x) (oka : EdOk n M ea) (okb : EdOk n M eb) (k : BStep n ea eb x y) : BInv n s t M ea eb y := by
  cases k with
  | @a v hv _ =>
    obtain ⟨h1, h2, _⟩ := h.a.settle oka hv.1
    have hf := (h.a.d.o _ (opnL_at.2 ⟨hv.1.1, hv.1.2.1, rfl⟩)).2.2.1
    simp only [Int.toNat_natCast] at hf
    refine ⟨h1, h.b, bstF_ok hv.1.1 (by unfold setF; rw [up1_at]; exact hv.1.2.1) (fun m _ e => up1_ne e) hf h.best, ?_⟩
    have := h.st
    show x.steps + 1 = cntR (setF x.fa x.oa v) n + cntR x.fb n
    omega
  | @b v hv _ =>
    obtain ⟨h1, h2, _⟩ := h.b.settle okb hv.1
    have hf := (h.b.d.o _ (opnL_at.2 ⟨hv.1.1, hv.1.2.1, rfl⟩)).2.2.1
    simp only [Int.toNat_natCast] at hf
    have hb := h.best
    refine ⟨h.a, h1, ?_, ?_⟩
    · show (bstF x.fa (setF x.fb x.ob v) v x.best = -1 ∧ _) ∨ _
      have := bstF_ok (f := x.fb) (g := x.fa) (f' := setF x.fb x.ob v) (best := x.best) hv.1.1 (by unfold setF; rw [up1_at]; exact hv.1.2.1) (fun m _ e => up1_ne e) hf (by
        rcases hb with ⟨q1, q2⟩ | ⟨q0, ⟨m, m1, m2, m3, m4⟩, q⟩
        · exact .inl ⟨q1, fun m hm r => q2 m hm ⟨r.2, r.1⟩⟩
        · exact .inr ⟨q0, ⟨m, m1, m3, m2, by omega⟩, fun k hk r1 r2 => by have := q k hk r2 r1; omega⟩)
      rw [bstF_comm] at this
      rcases this with ⟨q1, q2⟩ | ⟨q0, ⟨m, m1, m2, m3, m4⟩, q⟩
      · exact .inl ⟨q1, fun m hm r => q2 m hm ⟨r.2, r.1⟩⟩
      · exact .inr ⟨q0, ⟨m, m1, m3, m2, by show bstF _ _ _ _ = x.fa m + setF x.fb x.ob v m; omega⟩, fun k hk r1 r2 => by
          have := q k hk r2 r1
          show bstF _ _ _ _ ≤ x.fa k + setF x.fb x.ob v k
          omega⟩
    · have := h.st
      show x.steps + 1 = cntR x.fa n + cntR (setF x.fb x.ob v) n
      omega
theorem BInv.run (h : BInv n s t M ea eb x) (oka : EdOk n M ea) (okb : EdOk n M eb) (k : BRun n ea eb x y) : BInv n s t M ea eb y := by
  induction k with
  | nil => exact h
  | snoc _ e ih => exact ih.step oka okb e

/-- What is not as far as the best sum is settled when none goes on. -/
theorem Sch.near {f o : Nat → Int} {best : Int} (h : Sch n s M ea f o) (ok : EdOk n M ea) (hno : ∀ v, ¬ Avl n o best v) {v : Nat} {d : Int} (hw : Wk (EE' n ea) s v d) (hd : best < 0 ∨ d < best) : v < n ∧ 0 ≤ f v ∧ f v ≤ d := by
  have hpos : ∀ u v x, EE' n ea u v x → 0 ≤ x := fun u v x ⟨hu, e, he, _, hx⟩ => by have := ok.e u hu e he; omega
  have hdom : ∀ u v x, EE' n ea u v x → u < n → v < n := fun u v x ⟨hu, e, he, hv, _⟩ _ => by have := ok.e u hu e he; omega
  obtain ⟨h1, h2⟩ := h.d.ex hpos hdom hw
  rcases h.d.d v h1 with q | ⟨q1, q2, _⟩
  · exfalso
    obtain ⟨e, he, hle⟩ := h2 q
    obtain ⟨u, u1, u2, rfl⟩ := mem_opnL.1 he
    obtain ⟨m, m1, m2, m3⟩ := IsFst.ex (Nat.le_refl n) ⟨u, u1, u2⟩
    refine hno m ⟨⟨m1, m2, m3⟩, ?_⟩
    have hmu := m3 u u1 u2
    have hle : o u ≤ d := hle
    rcases hd with hd | hd
    · exact .inl hd
    · exact .inr (by rcases hmu with r | ⟨r, _⟩ <;> omega)
  · exact ⟨h1, q2, (q1.min hw).2⟩
end
end Go.Sh

/- To many, and from many. -/
set_option maxRecDepth 100000
namespace Go.Sh
open Go.RowKit

/-- The least, -1 where there is none. -/
def mvS (o d : Int) : Int := if o = -1 ∨ d < o then d else o
theorem meet_mv {d : List (Rc2 × Rc2)} (h0 : ∀ p ∈ d, 0 ≤ p.1.1) (hs : ∀ p ∈ d, 0 ≤ sumP p) : (meetD d).1 = (d.map sumP).foldl mvS (-1) := by
  suffices h : ∀ n, n ≤ d.length → (meetD (d.take n)).1 = ((d.take n).map sumP).foldl mvS (-1) ∧ ((meetD (d.take n)).2 = -1 ↔ (meetD (d.take n)).1 = -1) by
    have := (h d.length (Nat.le_refl _)).1
    rw [List.take_length] at this; exact this
  intro n
  induction n with
  | zero => intro _; exact ⟨rfl, Iff.rfl⟩
  | succ n ih =>
    intro hn
    have hn' : n < d.length := by omega
    obtain ⟨i1, i2⟩ := ih (by omega)
    have e : d.take (n + 1) = d.take n ++ [d[n]] := by rw [List.take_add_one, List.getElem?_eq_getElem hn']; rfl
    have p0 := h0 _ (List.getElem_mem hn')
    have s0 := hs _ (List.getElem_mem hn')
    rw [e, meetD_snoc, List.map_append, List.foldl_append, ← i1]
    show (meetS (meetD (d.take n)) d[n]).1 = mvS _ (sumP d[n]) ∧ _
    unfold meetS mvS
    change 0 ≤ IntKind.i64.wrap (d[n].1.2 + d[n].2.2) at s0
    unfold sumP
    by_cases h1 : (meetD (d.take n)).2 = -1
    · rw [if_pos (.inl h1), if_pos (.inl (i2.1 h1))]
      refine ⟨rfl, ?_⟩
      simp only
      constructor <;> intro q <;> omega
    · have h1' : ¬ (meetD (d.take n)).1 = -1 := fun q => h1 (i2.2 q)
      by_cases h2 : IntKind.i64.wrap (d[n].1.2 + d[n].2.2) ≤ (meetD (d.take n)).1
      · rw [if_pos (.inr h2)]
        refine ⟨?_, ?_⟩
        · simp only
          split <;> omega
        · simp only
          constructor <;> intro q <;> omega
      · rw [if_neg (fun q => q.elim h1 h2), if_neg (fun q => q.elim h1' fun q => by omega)]
        exact ⟨rfl, i2⟩

section
variable {CV : CVT} {w : World} {p : Option Addr} {rank : List Int} {ways : List Wy} {F : Nat → Prop}

/-- What lies in a place's bucket, of the first i targets. -/
noncomputable def bkL (rank : List Int) (ways : List Wy) (ts : List Int) : Nat → Nat → List Rc2
  | 0, _ => []
  | i + 1, v => bkL rank ways ts i v ++ ((bckL rank ways (ts.getD i 0)).filter fun e => e.1 == (v : Int)).map fun e => ((i : Int), e.2)
theorem bkL_succ (ts : List Int) (i v : Nat) : bkL rank ways ts (i + 1) v = bkL rank ways ts i v ++ ((bckL rank ways (ts.getD i 0)).filter fun e => e.1 == (v : Int)).map fun e => ((i : Int), e.2) := rfl
theorem bkL_lt {ts : List Int} {i v : Nat} {e : Rc2} (h : e ∈ bkL rank ways ts i v) : 0 ≤ e.1 ∧ e.1 < i := by
  induction i with
  | zero => simp [bkL] at h
  | succ i ih =>
    rw [bkL_succ] at h
    rcases List.mem_append.1 h with h | h
    · have := ih h; omega
    · obtain ⟨x, _, rfl⟩ := List.mem_map.1 h
      simp only; omega
theorem bkL_filter {ts : List Int} {v k : Nat} : ∀ {i : Nat}, (bkL rank ways ts i v).filter (fun e => e.1 == (k : Int)) = if k < i then ((bckL rank ways (ts.getD k 0)).filter fun e => e.1 == (v : Int)).map fun e => ((k : Int), e.2) else []
  | 0 => by simp [bkL]
  | i + 1 => by
    rw [bkL_succ, List.filter_append, bkL_filter]
    by_cases h : k = i
    · subst h
      rw [if_neg (by omega), if_pos (by omega), List.nil_append, List.filter_eq_self.2]
      intro e he
      obtain ⟨x, _, rfl⟩ := List.mem_map.1 he
      simp
    · rw [show (((bckL rank ways (ts.getD i 0)).filter fun e => e.1 == (v : Int)).map fun e => ((i : Int), e.2)).filter (fun e => e.1 == (k : Int)) = [] by
        rw [List.filter_eq_nil_iff]
        intro e he
        obtain ⟨x, _, rfl⟩ := List.mem_map.1 he
        simp; omega, List.append_nil]
      by_cases h' : k < i
      · rw [if_pos h', if_pos (by omega)]
      · rw [if_neg h', if_neg (by omega)]
theorem filter_one {l : List Rc2} (h : Rz l) (v : Int) : (l.filter fun e => e.1 == v).length ≤ 1 := by
  induction l with
  | nil => simp
  | cons x l ih =>
    obtain ⟨h1, h2⟩ := List.pairwise_cons.1 h
    by_cases e : x.1 = v
    · rw [List.filter_cons_of_pos (by simpa using e), show (l.filter fun e => e.1 == v) = [] by
        rw [List.filter_eq_nil_iff]; intro y hy; have := h1 y hy; simp; omega]
      simp
    · rw [List.filter_cons_of_neg (by simpa using e)]; exact ih h2
theorem bkL_len (ts : List Int) (i v : Nat) : (bkL rank ways ts i v).length ≤ i := by
  induction i with
  | zero => exact Nat.le_refl _
  | succ i ih =>
    rw [bkL_succ, List.length_append, List.length_map]
    have := filter_one (bck_rz (rank := rank) (ways := ways) (ts.getD i 0)) (v : Int)
    omega

/-- Buckets in memory. -/
structure BkM (w0 w : World) (r : Nat) (mm : List (List Int × Value)) (sv : Nat → SV) (bk : Nat → List Rc2) : Prop where
  e : Ext w0 w
  m : MapIs false 1 w r mm
  rg : w0.heap.size ≤ r
  a : ∀ v : Nat, (assoc mm [(v : Int)]).getD (.slice none 0 0) = .slice (sv v).a (sv v).len (sv v).cap
  o : ∀ v, Own RE w (sv v) (bk v)
  f : ∀ v k, (sv v).blk k → w0.heap.size ≤ k ∧ k ≠ r
  d : ∀ u v k, u ≠ v → (sv u).blk k → ¬ (sv v).blk k
theorem BkM.ext {w0 w w' : World} {r : Nat} {mm : List (List Int × Value)} {sv : Nat → SV} {bk : Nat → List Rc2} (h : BkM w0 w r mm sv bk) (e : Ext w w') : BkM w0 w' r mm sv bk :=
  ⟨h.e.trans e, h.m.grow e, h.rg, h.a, fun v => (h.o v).ext e, h.f, h.d⟩
theorem buckets_ok (hcv : SpaceCV CV) {st : SV} {ts : List Int} {K : Option Nat → World → Prop} (hH : HierA w p rank ways F) (fit : FitH rank ways) (ht : View RI w st ts) (hn : ts.length ≤ 4096)
    (hk : ∀ r w' mm sv, BkM w w' r mm sv (bkL rank ways ts ts.length) → K (some r) w') : sh_query_buckets CV p st K w := by
  unfold sh_query_buckets
  have lt := ht.len
  have hfn := fit.n
  intro r w2 e2 g2 hm
  have h0 : BkM w w2 r [] (fun _ => ⟨none, 0, 0⟩) (bkL rank ways ts 0) := ⟨e2, MapIs.nil hm, g2, fun _ => rfl, fun _ => Own.nil, fun _ _ ⟨_, h, _⟩ => (by cases h), fun _ _ _ _ ⟨_, h, _⟩ => (by cases h)⟩
  refine LoopT.gh (γ := Nat) (fun i (st : Int × Unit) w' => st.1 = i ∧ i ≤ ts.length ∧ ∃ mm sv, BkM w w' r mm sv (bkL rank ways ts i)) (fun i => ts.length - i) 0 ⟨rfl, Nat.zero_le _, _, _, h0⟩ ?_
  rintro i ⟨x, _⟩ w5 ⟨hx, hi, mm, sv, hB⟩ J1 hJ1
  simp only at hx; subst hx
  dsimp only
  rw [Bool.cond_decide]
  by_cases hc : (i : Int) < (st.len : Int)
  · rw [if_pos hc]
    have hi' : i < ts.length := by omega
    refine int_idx (ht.ext hB.e) hi' fun _ a0 => ⟨_, a0, ?_⟩
    refine Back_ok hcv (hH.ext hB.e) fit fun s8 w9 e9 h8 f8 => ?_
    have lt5 : ∀ v k, (sv v).blk k → k < w5.heap.size := fun v k hk => (hB.o v).lt hk
    have lr5 := hB.m.lt
    have hB := hB.ext e9
    have hgd : ts.getD i 0 = ts[i] := by rw [List.getD_eq_getElem?_getD, List.getElem?_eq_getElem hi']; rfl
    change Own RE w9 s8 (bckL rank ways ts[i]) at h8
    have ll := rowsL_len rank.length (clF rank ways rank.length true ts[i]) fun _ => true
    change (bckL rank ways ts[i]).length ≤ _ at ll
    have hmem : ∀ e ∈ bckL rank ways ts[i], ∃ v : Nat, v < rank.length ∧ e.1 = (v : Int) := fun e he => by
      obtain ⟨v, hv, _, _, rfl⟩ := rowsL_mem.1 he; exact ⟨v, hv, rfl⟩
    have hfin : ∀ v, bkL rank ways ts (i + 1) v = bkL rank ways ts i v ++ ((bckL rank ways ts[i]).filter fun e => e.1 == (v : Int)).map fun e => ((i : Int), e.2) := fun v => by rw [bkL_succ, hgd]
    have lt8 : ∀ k, s8.blk k → w5.heap.size ≤ k ∧ k < w9.heap.size := fun k hk => ⟨f8 k hk, h8.lt hk⟩
    have d8 : ∀ v k, (sv v).blk k → ¬ s8.blk k := fun v k h1 h2 => by have := lt5 v k h1; have := (lt8 k h2).1; omega
    generalize bckL rank ways ts[i] = l at h8 ll hmem hfin
    have v8 := h8.view
    have l8 := v8.len
    refine LoopT.gh (γ := Nat) (fun j (st : Int × Unit) w' => st.1 = j ∧ j ≤ l.length ∧ w9.heap.size ≤ w'.heap.size ∧ View RE w' s8 l ∧ ∃ mm sv, BkM w w' r mm sv (fun v => bkL rank ways ts i v ++ ((l.take j).filter fun e => e.1 == (v : Int)).map fun e => ((i : Int), e.2)) ∧ ∀ v k, (sv v).blk k → ¬ s8.blk k) (fun j => l.length - j) 0
      ⟨rfl, Nat.zero_le _, Nat.le_refl _, v8, mm, sv, by simpa using hB, d8⟩ ?_
    clear hB v8 d8
    rintro j ⟨x, _⟩ w12 ⟨hx, hj, z12, v8, mm, sv, hB, d8⟩ J2 hJ2
    simp only at hx; subst hx
    dsimp only
    rw [Bool.cond_decide]
    by_cases hcj : (j : Int) < (s8.len : Int)
    · rw [if_pos hcj]
      have hj' : j < l.length := by omega
      obtain ⟨v, hv, hve⟩ := hmem _ (List.getElem_mem hj')
      refine re_idx v8 hj' fun _ a0 a1 => ⟨_, a0, _, a1, ?_⟩
      intro b16 w17 e17 g16 g16' w18 o18
      have z17 := e17.size; have z18 := o18.size
      have e18 : Ext w12 w18 := ext_off e17 o18 g16
      have hB18 := hB.ext e18
      refine ⟨mm, hB18.m, sv v, by rw [hve]; exact hB.a v, ?_⟩
      intro w21 e21
      have z21 := e21.size
      have hB21 := hB18.ext e21
      have lr := hB.m.lt
      have hlen : (bkL rank ways ts i v ++ ((l.take j).filter fun e => e.1 == (v : Int)).map fun e => ((i : Int), e.2)).length ≤ 4096 + 2048 := by
        rw [List.length_append, List.length_map]
        have := bkL_len (rank := rank) (ways := ways) ts i v
        have := List.length_filter_le (fun e : Rc2 => e.1 == (v : Int)) (l.take j)
        rw [List.length_take] at this
        omega
      intro b22 w23 e23 g22 hB22 w24 e24
      have z23 := e23.size; have z24 := e24.size
      have hB24 := hB21.ext (e23.trans e24)
      refine Own.app (R := RE) (hB24.o v) (View.one (R := RE) (x := ((i : Int), l[j].2)) (e24.blkE hB22)) (by simp only [List.length_cons, List.length_nil]; omega) (by simp only [List.length_cons, List.length_nil]; omega) fun s25 w26 c26 hs hO => ?_
      have z26 := c26.size
      refine ⟨kp_chg c26 fun b hb => ?_, fun w27 e27 => ?_⟩
      · simp only [List.mem_cons, List.not_mem_nil, or_false] at hb; subst hb
        exact ⟨by omega, fun hk => by have := (hB.o v).lt hk; omega⟩
      have z27 := e27.size
      have nr : ¬ (sv v).blk r := fun hk => (hB.f v r hk).2 rfl
      have hM27 : MapIs false 1 w27 r mm := (hB24.m.same (c26.block r (by omega) nr)).grow e27
      refine ⟨r, rfl, mm, hM27, fun w28 o28 hM28 => ?_⟩
      have z28 := o28.size
      refine ⟨kp_chg (.of_off (F := fun k => k = r) o28 rfl) fun b hb => ?_, fun w29 e29 => ?_⟩
      · simp only [List.mem_cons, List.not_mem_nil, or_false] at hb; subst hb
        exact ⟨by omega, by omega⟩
      have z29 := e29.size
      have f25 : ∀ k, s25.blk k → w.heap.size ≤ k ∧ k ≠ r := fun k hk => (hs k hk).elim (hB.f v k) fun h => ⟨by have := hB.e.size; omega, by omega⟩
      have e0 : Ext w w26 := ext_chg (hB24.e) c26 fun k hk => (hB.f v k hk).1
      have e28 : Ext w w28 := ext_off (e0.trans e27) o28 hB.rg
      refine hJ2 (j + 1) _ _ ⟨wsucc (m := 2 ^ 40) (by omega) (by omega), by omega, by omega, ?_, upd mm [l[j].1] (.slice s25.a s25.len s25.cap), fun u => if u = v then s25 else sv u, ⟨e28.trans e29, hM28.grow e29, hB.rg, fun u => ?_, fun u => ?_, fun u k hk => ?_, fun a b k hab ha hb => ?_⟩, fun u k hk h8k => ?_⟩ (by omega)
      · refine ((((v8.ext e18).ext e21).ext (e23.trans e24)).chg c26 fun k h1 h2 => d8 v k h2 h1).ext e27 |>.chg (.of_off (F := fun k => k = r) o28 rfl) (fun k h1 h2 => ?_) |>.ext e29
        have h9 := (lt8 k h1).1
        omega
      · rw [assoc_upd, hve]
        by_cases q : u = v
        · subst q; rw [if_pos rfl, if_pos rfl]; rfl
        · rw [if_neg (by simp only [List.cons.injEq, and_true]; omega), if_neg q]; exact hB.a u
      · have et : l.take (j + 1) = l.take j ++ [l[j]] := by rw [List.take_add_one, List.getElem?_eq_getElem hj']; rfl
        rw [et, List.filter_append, List.map_append, ← List.append_assoc]
        by_cases q : u = v
        · subst q
          rw [if_pos rfl, List.filter_cons_of_pos (by rw [hve]; simp)]
          exact ((hO.ext e27).chg (.of_off (F := fun k => k = r) o28 rfl) fun k hk e => (f25 k hk).2 e).ext e29
        · rw [if_neg q, List.filter_cons_of_neg (by rw [hve]; simp; omega)]
          simp only [List.filter_nil, List.map_nil, List.append_nil]
          exact ((((hB24.o u).chg c26 fun k h1 h2 => hB.d u v k q h1 h2).ext e27).chg (.of_off (F := fun k => k = r) o28 rfl) fun k hk e => (hB.f u k hk).2 e).ext e29
      · by_cases q : u = v
        · subst q; rw [if_pos rfl] at hk; exact f25 k hk
        · rw [if_neg q] at hk; exact hB.f u k hk
      · by_cases qa : a = v
        · rw [if_pos qa] at ha
          have qb : ¬ b = v := fun h => hab (qa.trans h.symm)
          rw [if_neg qb] at hb
          rcases hs k ha with h | h
          · exact hB.d v b k (fun h => qb h.symm) h hb
          · have := (hB.o b).lt hb; omega
        · rw [if_neg qa] at ha
          by_cases qb : b = v
          · rw [if_pos qb] at hb
            rcases hs k hb with h | h
            · exact hB.d a v k qa ha h
            · have := (hB.o a).lt ha; omega
          · rw [if_neg qb] at hb
            exact hB.d a b k hab ha hb
      · dsimp only at hk
        by_cases q : u = v
        · rw [if_pos q] at hk
          rcases hs k hk with h | h
          · exact d8 v k h h8k
          · have := (lt8 k h8k).2; omega
        · rw [if_neg q] at hk; exact d8 u k hk h8k
    · rw [if_neg hcj]
      have : j = l.length := by omega
      subst this
      rw [List.take_length] at hB
      refine hJ1 (i + 1) _ _ ⟨wsucc (m := 2 ^ 40) (by omega) (by omega), by omega, mm, sv, ?_⟩ (by omega)
      rw [show bkL rank ways ts (i + 1) = fun v => bkL rank ways ts i v ++ (l.filter fun e => e.1 == (v : Int)).map fun e => ((i : Int), e.2) from funext hfin]
      exact hB
  · rw [if_neg hc]
    have : i = ts.length := by omega
    subst this
    exact hk r w5 mm sv hB

/-- Sums of what both lists have are of numbers. -/
theorem com_nn (fit : FitH rank ways) {s t : Int} {pq : Rc2 × Rc2} (h : pq ∈ com (fwdL rank ways s) (bckL rank ways t)) : 0 ≤ pq.1.1 ∧ 0 ≤ sumP pq := by
  obtain ⟨c1, c2, c3⟩ := com_mem.1 h
  unfold fwdL at c1; unfold bckL at c2
  obtain ⟨a, a1, a2, _, a3⟩ := rowsL_mem.1 c1
  obtain ⟨b, b1, b2, _, b3⟩ := rowsL_mem.1 c2
  rw [a3, b3] at c3
  have : a = b := by simp only at c3; omega
  subst this
  have hs : 0 ≤ s ∧ s < rank.length := by
    by_cases q : 0 ≤ s ∧ s < rank.length
    · exact q
    · rw [clF_no q] at a2; omega
  have ht : 0 ≤ t ∧ t < rank.length := by
    by_cases q : 0 ≤ t ∧ t < rank.length
    · exact q
    · rw [clF_no q] at b2; omega
  obtain ⟨s, rfl⟩ := Int.eq_ofNat_of_zero_le hs.1
  obtain ⟨t, rfl⟩ := Int.eq_ofNat_of_zero_le ht.1
  unfold sumP
  rw [a3, b3]
  simp only
  rw [sum_w fit (by omega) (by omega) a1 a2 b2]
  exact ⟨by omega, by omega⟩
theorem where_mv (fit : FitH rank ways) (s t : Int) : (whereF rank ways s t).1 = ((com (fwdL rank ways s) (bckL rank ways t)).map sumP).foldl mvS (-1) :=
  meet_mv (fun _ h => (com_nn fit h).1) fun _ h => (com_nn fit h).2

/-- How far it is to each of many. -/
noncomputable def manyL (rank : List Int) (ways : List Wy) (s : Int) (ts : List Int) : List Int := fi ts.length fun k => (whereF rank ways s (ts.getD k 0)).1

theorem row_ok (hcv : SpaceCV CV) {w0 : World} {r : Nat} {mm : List (List Int × Value)} {sv : Nat → SV} {ts : List Int} {s0 : Int} {K : SV → World → Prop} (hH : HierA w p rank ways F) (fit : FitH rank ways) (hn : ts.length ≤ 4096) (hB : BkM w0 w r mm sv (bkL rank ways ts ts.length))
    (hk : ∀ s w', Ext w w' → Own RI w' s (manyL rank ways s0 ts) → Fsh w s → K s w') : sh_query_row CV p s0 (ts.length : Int) (some r) K w := by
  unfold sh_query_row
  have hfn := fit.n
  refine own_mk (R := RI) (by omega) (by omega) (by omega) fun s1 w2 e2 f2 o2 => ?_
  rw [Int.toNat_natCast, show RI.z = (0 : Int) from rfl, fi_rep] at o2
  have hA : Acc RI w w.heap.size w2 s1 (fi ts.length fun _ => 0) := ⟨e2, Nat.le_refl _, e2.size, o2, f2⟩
  have l1 := o2.view.len
  rw [fi_len] at l1
  refine Join.cut (fun _ w' => Acc RI w w.heap.size w' s1 (fi ts.length fun _ => -1)) (fun J hJ => ?_) ?_
  · refine LoopT.gh (γ := Nat) (fun i (st : Int × Unit) w' => st.1 = i ∧ i ≤ ts.length ∧ Acc RI w w.heap.size w' s1 (fi ts.length fun j => if j < i then -1 else 0)) (fun i => ts.length - i) 0 ⟨rfl, Nat.zero_le _, by simpa using hA⟩ ?_
    rintro i ⟨x, _⟩ w6 ⟨hx, hi, hA⟩ J1 hJ1
    simp only at hx; subst hx
    dsimp only
    rw [Bool.cond_decide]
    by_cases hci : (i : Int) < (s1.len : Int)
    · rw [if_pos hci]
      refine hA.wr (show i < ts.length by omega) fun p put => put w6 (-1) _ (.refl _) fun w8 c8 hA1 => ?_
      refine hJ1 (i + 1) _ _ ⟨wsucc (m := 2 ^ 40) (by omega) (by omega), by omega, ?_⟩ (by omega)
      rw [show fi ts.length (fun j => if j < i + 1 then (-1 : Int) else 0) = fi ts.length (up1 (fun j => if j < i then (-1 : Int) else 0) i (-1)) from fi_congr fun j hj => by
        unfold up1
        by_cases e : j = i
        · subst e; simp
        · rw [if_neg e]; dsimp only; by_cases q : j < i
          · rw [if_pos q, if_pos (by omega)]
          · rw [if_neg q, if_neg (by omega)]]
      exact hA1
    · rw [if_neg hci]
      have : i = ts.length := by omega
      subst this
      refine hJ _ _ ?_
      rw [show fi ts.length (fun _ => (-1 : Int)) = fi ts.length (fun j => if j < ts.length then (-1 : Int) else 0) from fi_congr fun j hj => by rw [if_pos hj]]
      exact hA
  · rintro _ w10 hA
    refine Forward_ok hcv (hH.ext hA.e) fit fun s11 w12 e12 h11 f11 => ?_
    have lf := rowsL_len rank.length (clF rank ways rank.length false s0) fun _ => true
    change Own RE w12 s11 (fwdL rank ways s0) at h11
    change (fwdL rank ways s0).length ≤ _ at lf
    have hmem : ∀ e ∈ fwdL rank ways s0, ∃ v : Nat, v < rank.length ∧ e.1 = (v : Int) := fun e he => by
      obtain ⟨v, hv, _, _, rfl⟩ := rowsL_mem.1 he; exact ⟨v, hv, rfl⟩
    have hwm := fun t => where_mv fit s0 t
    have hA12 := hA.ext e12
    have d11 : ∀ k, s11.blk k → ¬ s1.blk k := fun k h1 h2 => by have := f11 k h1; have := hA.o.lt h2; omega
    have lt11 : ∀ k, s11.blk k → k < w12.heap.size := fun k hk => h11.lt hk
    generalize hl : fwdL rank ways s0 = l at *
    have v11 := h11.view
    have l11 := v11.len
    let g : Nat → Nat → Int := fun i k => ((com (l.take i) (bckL rank ways (ts.getD k 0))).map sumP).foldl mvS (-1)
    refine LoopT.gh (γ := Nat) (fun i (st : Int × Unit) w' => st.1 = i ∧ i ≤ l.length ∧ w12.heap.size ≤ w'.heap.size ∧ View RE w' s11 l ∧ Acc RI w w.heap.size w' s1 (fi ts.length (g i))) (fun i => l.length - i) 0 ⟨rfl, Nat.zero_le _, Nat.le_refl _, v11, hA12⟩ ?_
    clear v11
    rintro i ⟨x, _⟩ w15 ⟨hx, hi, z15, v11, hA⟩ J1 hJ1
    simp only at hx; subst hx
    dsimp only
    rw [Bool.cond_decide]
    by_cases hc : (i : Int) < (s11.len : Int)
    · rw [if_pos hc]
      have hi' : i < l.length := by omega
      obtain ⟨u, hu, hue⟩ := hmem _ (List.getElem_mem hi')
      refine re_idx v11 hi' fun _ a0 a1 => ⟨_, a0, _, a1, ?_⟩
      intro b19 w20 e20 g19 g19' w21 o21
      have z20 := e20.size; have z21 := o21.size
      have e21 : Ext w15 w21 := ext_off e20 o21 g19
      have hA21 := hA.ext e21
      have hB21 := hB.ext hA21.e
      refine ⟨mm, hB21.m, sv u, by rw [hue]; exact hB.a u, ?_⟩
      have lbk := bkL_len (rank := rank) (ways := ways) ts ts.length u
      have hbl := fun e (he : e ∈ bkL rank ways ts ts.length u) => bkL_lt he
      have hbf := fun k => @bkL_filter rank ways ts u k ts.length
      have vb := hB.o u
      have lbs := vb.view.len
      generalize hbk : bkL rank ways ts ts.length u = bk at *
      let g2 : Nat → Nat → Int := fun j k => ((com (l.take i) (bckL rank ways (ts.getD k 0))).map sumP ++ ((bk.take j).filter fun e => e.1 == (k : Int)).map fun e => IntKind.i64.wrap (l[i].2 + e.2)).foldl mvS (-1)
      refine LoopT.gh (γ := Nat) (fun j (st : Int × Unit) w' => st.1 = j ∧ j ≤ bk.length ∧ w21.heap.size ≤ w'.heap.size ∧ View RE w' s11 l ∧ Acc RI w w.heap.size w' s1 (fi ts.length (g2 j))) (fun j => bk.length - j) 0
        ⟨rfl, Nat.zero_le _, Nat.le_refl _, v11.ext e21, by
          rw [show fi ts.length (g2 0) = fi ts.length (g i) from fi_congr fun k _ => by simp [g, g2]]
          exact hA21⟩ ?_
      have nA := hA.o
      clear v11
      rintro j ⟨x, _⟩ w26 ⟨hx, hj, z26, v11, hA26⟩ J2 hJ2
      simp only at hx; subst hx
      dsimp only
      rw [Bool.cond_decide]
      by_cases hcj : (j : Int) < ((sv u).len : Int)
      · rw [if_pos hcj]
        have hj' : j < bk.length := by omega
        obtain ⟨k0, k1⟩ := hbl _ (List.getElem_mem hj')
        obtain ⟨k, hke⟩ := Int.eq_ofNat_of_zero_le k0
        have hkn : k < ts.length := by omega
        refine re_idx (vb.ext hA26.e).view hj' fun _ a0 a1 => ⟨_, a0, _, a1, ?_⟩
        intro b30 w31 e31 g30 g30' w32 o32
        have z31 := e31.size; have z32 := o32.size
        have e32 : Ext w26 w32 := ext_off e31 o32 g30
        have hA32 := hA26.ext e32
        have v32 := v11.ext e32
        rw [hke]
        have et : bk.take (j + 1) = bk.take j ++ [bk[j]] := by rw [List.take_add_one, List.getElem?_eq_getElem hj']; rfl
        have step : ∀ k', g2 (j + 1) k' = if k' = k then mvS (g2 j k) (IntKind.i64.wrap (l[i].2 + bk[j].2)) else g2 j k' := fun k' => by
          show List.foldl _ _ (_ ++ List.map _ (List.filter _ (bk.take (j + 1)))) = _
          rw [et, List.filter_append]
          by_cases q : k' = k
          · subst q
            rw [if_pos rfl, List.filter_cons_of_pos (by rw [hke]; simp), List.map_append, ← List.append_assoc, List.foldl_append]
            rfl
          · rw [if_neg q, List.filter_cons_of_neg (by rw [hke]; simp; omega)]
            simp only [List.filter_nil, List.append_nil]
            rfl
        have nb : ∀ b, w15.heap.size ≤ b → b < w26.heap.size → ¬ s1.blk b ∨ True := fun _ _ _ => .inr trivial
        have n19 : ¬ s1.blk b19 := fun hk => by have := nA.lt hk; omega
        have n30 : ¬ s1.blk b30 := fun hk => by have := nA.lt hk; omega
        have write : mvS (g2 j k) (IntKind.i64.wrap (l[i].2 + bk[j].2)) = IntKind.i64.wrap (l[i].2 + bk[j].2) → Idx s1.a s1.len (k : Int) 1 (fun a35 => stL w32 a35 [(.int .i64 (IntKind.i64.wrap (l[i].2 + bk[j].2)))] 0 (fun w36 => Keeps [b30, b19] w32 w36 ∧ J2 ((IntKind.i64.wrap ((j : Int) + (1 : Int))), ()) w36)) := fun hm => by
          refine hA32.wr hkn fun _ put => put w32 _ _ (.refl _) fun w36 c36 hA36 => ?_
          have z36 := c36.size
          refine ⟨kp_chg c36 fun b hb => ?_, ?_⟩
          · simp only [List.mem_cons, List.not_mem_nil, or_false] at hb
            rcases hb with rfl | rfl
            · exact ⟨by omega, n30⟩
            · exact ⟨by omega, n19⟩
          · refine hJ2 (j + 1) _ _ ⟨wsucc (m := 2 ^ 40) (by omega) (by omega), by omega, by omega, v32.chg c36 d11, ?_⟩ (by omega)
            rw [show fi ts.length (g2 (j + 1)) = fi ts.length (up1 (g2 j) k (IntKind.i64.wrap (l[i].2 + bk[j].2))) from fi_congr fun k' _ => by rw [step, hm]; rfl]
            exact hA36
        refine fi_rd hA32.o.view hkn fun _ r1 => ⟨_, r1, ?_⟩
        by_cases h1 : g2 j k = -1
        · rw [show (g2 j k == -1) = true by rw [beq_iff_eq]; exact h1, cond_true]
          exact write (by unfold mvS; rw [if_pos (.inl h1)])
        · rw [show (g2 j k == -1) = false by rw [beq_eq_false_iff_ne]; exact h1, cond_false]
          refine fi_rd hA32.o.view hkn fun _ r1 => ⟨_, r1, ?_⟩
          rw [Bool.cond_decide]
          by_cases h2 : IntKind.i64.wrap (l[i].2 + bk[j].2) < g2 j k
          · rw [if_pos h2]
            exact write (by unfold mvS; rw [if_pos (.inr h2)])
          · rw [if_neg h2]
            refine hJ2 (j + 1) _ _ ⟨wsucc (m := 2 ^ 40) (by omega) (by omega), by omega, by omega, v32, ?_⟩ (by omega)
            rw [show fi ts.length (g2 (j + 1)) = fi ts.length (g2 j) from fi_congr fun k' _ => by
              rw [step]
              by_cases q : k' = k
              · subst q; rw [if_pos rfl]; unfold mvS; rw [if_neg (fun q => q.elim h1 h2)]
              · rw [if_neg q]]
            exact hA32
      · rw [if_neg hcj]
        have : j = bk.length := by omega
        subst this
        refine hJ1 (i + 1) _ _ ⟨wsucc (m := 2 ^ 40) (by omega) (by omega), by omega, by omega, v11, ?_⟩ (by omega)
        rw [show fi ts.length (g (i + 1)) = fi ts.length (g2 bk.length) from fi_congr fun k hk => by
          show List.foldl _ _ (List.map sumP (com (l.take (i + 1)) _)) = List.foldl _ _ (_ ++ List.map _ (List.filter _ (bk.take bk.length)))
          have et : l.take (i + 1) = l.take i ++ [l[i]] := by rw [List.take_add_one, List.getElem?_eq_getElem hi']; rfl
          rw [List.take_length, hbf k, if_pos hk, et, com_append, List.map_append, com_cons, com_nil, List.append_nil, hue, List.map_map, List.map_map]
          rfl]
        exact hA26
    · rw [if_neg hc]
      have : i = l.length := by omega
      subst this
      refine hk s1 w15 hA.e ?_ hA.f
      unfold manyL
      rw [show fi ts.length (fun k => (whereF rank ways s0 (ts.getD k 0)).1) = fi ts.length (g l.length) from fi_congr fun k _ => by
        rw [hwm]
        show _ = List.foldl _ _ (List.map sumP (com (l.take l.length) _))
        rw [List.take_length]]
      exact hA.o

theorem Many_ok (hcv : SpaceCV CV) {st : SV} {ts : List Int} {s0 : Int} {K : SV → World → Prop} (hH : HierA w p rank ways F) (fit : FitH rank ways) (ht : View RI w st ts) (hn : ts.length ≤ 4096)
    (hk : ∀ s w', Ext w w' → Own RI w' s (manyL rank ways s0 ts) → Fsh w s → K s w') : sh_query_Many CV p s0 st K w := by
  unfold sh_query_Many
  refine buckets_ok hcv hH fit ht hn fun r w2 mm sv hB => ?_
  rw [ht.len]
  exact row_ok hcv (hH.ext hB.e) fit hn hB fun s w' e hO hF => hk s w' (hB.e.trans e) hO (hF.ext hB.e)
end
end Go.Sh

/- Where both searches end: as far as where climbs meet. -/
set_option maxRecDepth 100000
namespace Go.Sh
open Go.RowKit

theorem cnt_rows {n : Nat} {f g : Nat → Int} (h : ∀ v, v < n → 0 ≤ g v → 0 ≤ f v) : cntR g n ≤ (rowsL n f fun _ => true).length := by
  induction n with
  | zero => exact Nat.le_refl _
  | succ n ih =>
    have ih := ih fun v hv => h v (by omega)
    rw [rowsL_succ]
    unfold cntR
    by_cases q : 0 ≤ g n
    · rw [if_pos q, if_pos ⟨h n (by omega) q, rfl⟩]
      simp only [List.length_append, List.length_cons, List.length_nil]; omega
    · rw [if_neg q]
      split
      · simp only [List.length_append, List.length_cons, List.length_nil]; omega
      · omega

section
variable {rank : List Int} {ways : List Wy} {s t : Nat} {x : BS}
abbrev eA (rank : List Int) (ways : List Wy) : Nat → List Edg := edS rank ways rank.length false
abbrev eB (rank : List Int) (ways : List Wy) : Nat → List Edg := edS rank ways rank.length true
abbrev BI (rank : List Int) (ways : List Wy) (s t : Nat) (x : BS) : Prop := BInv rank.length s t 1125899906842624 (eA rank ways) (eB rank ways) x

theorem BI.fa (fit : FitH rank ways) (h : BI rank ways s t x) (hs : s < rank.length) {m : Nat} (hm : m < rank.length) (h0 : 0 ≤ x.fa m) : x.fa m = clF rank ways rank.length false s m := by
  rcases h.a.d.d m hm with q | ⟨q, _, _⟩
  · omega
  · exact q.uniq (clF_is fit hs m)
theorem BI.fb (fit : FitH rank ways) (h : BI rank ways s t x) (ht : t < rank.length) {m : Nat} (hm : m < rank.length) (h0 : 0 ≤ x.fb m) : x.fb m = clF rank ways rank.length true t m := by
  rcases h.b.d.d m hm with q | ⟨q, _, _⟩
  · omega
  · exact q.uniq (clF_is fit ht m)

theorem look_far (fit : FitH rank ways) (hs : s < rank.length) (ht : t < rank.length) (h : BI rank ways s t x) (hS : BStop rank.length x) : x.best = (whereF rank ways s t).1 := by
  have oka : EdOk rank.length 1125899906842624 (eA rank ways) := edS_ok fit
  have okb : EdOk rank.length 1125899906842624 (eB rank ways) := edS_ok fit
  have near : ∀ m, m < rank.length → 0 ≤ clF rank ways rank.length false s m → 0 ≤ clF rank ways rank.length true t m → (x.best < 0 ∨ clF rank ways rank.length false s m + clF rank ways rank.length true t m < x.best) → 0 ≤ x.fa m ∧ 0 ≤ x.fb m := fun m hm h1 h2 hd => by
    have a := h.a.near oka hS.1 ((clF_is (top := (rank.length : Int)) (back := false) fit hs m).wk h1) (hd.imp id fun q => by omega)
    have b := h.b.near okb hS.2 ((clF_is (top := (rank.length : Int)) (back := true) fit ht m).wk h2) (hd.imp id fun q => by omega)
    exact ⟨a.2.1, b.2.1⟩
  have mem : ∀ pq, pq ∈ com (fwdL rank ways s) (bckL rank ways t) ↔ ∃ m : Nat, m < rank.length ∧ 0 ≤ clF rank ways rank.length false s m ∧ 0 ≤ clF rank ways rank.length true t m ∧ pq = (((m : Int), clF rank ways rank.length false s m), ((m : Int), clF rank ways rank.length true t m)) := fun pq => by
    rw [com_mem]
    unfold fwdL bckL
    rw [rowsL_mem, rowsL_mem]
    constructor
    · rintro ⟨⟨a, a1, a2, _, a3⟩, ⟨b, b1, b2, _, b3⟩, h⟩
      rw [a3, b3] at h
      have : a = b := by simp only at h; omega
      subst this
      exact ⟨a, a1, a2, b2, Prod.ext a3 b3⟩
    · rintro ⟨m, m1, m2, m3, rfl⟩
      exact ⟨⟨m, m1, m2, rfl, rfl⟩, ⟨m, m1, m3, rfl, rfl⟩, rfl⟩
  unfold whereF meetF
  rcases meet_at (d := com (fwdL rank ways s) (bckL rank ways t)) (fun _ q => (com_nn fit q).1) with ⟨he, hm⟩ | ⟨pq, hpq, hm, hmin⟩
  · rw [hm]
    rcases h.best with ⟨q, _⟩ | ⟨_, ⟨m, m1, m2, m3, _⟩, _⟩
    · exact q
    · have := (mem _).2 ⟨m, m1, by rw [← BI.fa fit h hs m1 m2]; exact m2, by rw [← BI.fb fit h ht m1 m3]; exact m3, rfl⟩
      rw [he] at this; simp at this
  · rw [hm]
    obtain ⟨m, m1, m2, m3, rfl⟩ := (mem pq).1 hpq
    unfold sumP
    simp only
    rw [sum_w fit hs ht m1 m2 m3]
    rcases h.best with ⟨q, q2⟩ | ⟨q0, ⟨k, k1, k2, k3, k4⟩, q⟩
    · exact absurd (near m m1 m2 m3 (.inl (by omega))) (q2 m m1)
    · have f1 := BI.fa fit h hs k1 k2
      have f2 := BI.fb fit h ht k1 k3
      have hle := hmin _ ((mem _).2 ⟨k, k1, by rw [← f1]; exact k2, by rw [← f2]; exact k3, rfl⟩)
      unfold sumP at hle
      simp only at hle
      rw [sum_w fit hs ht m1 m2 m3, sum_w fit hs ht k1 (by rw [← f1]; exact k2) (by rw [← f2]; exact k3), ← f1, ← f2] at hle
      by_cases hlt : clF rank ways rank.length false s m + clF rank ways rank.length true t m < x.best
      · obtain ⟨g1, g2⟩ := near m m1 m2 m3 (.inr hlt)
        have := q m m1 g1 g2
        rw [BI.fa fit h hs m1 g1, BI.fb fit h ht m1 g2] at this
        omega
      · omega

theorem look_steps (fit : FitH rank ways) (hs : s < rank.length) (ht : t < rank.length) (h : BI rank ways s t x) (hS : BStop rank.length x) : 1 ≤ x.steps ∧ x.steps ≤ (fwdL rank ways s).length + (bckL rank ways t).length := by
  have c1 : cntR x.fa rank.length ≤ (fwdL rank ways s).length := cnt_rows fun v hv h0 => by rw [← BI.fa fit h hs hv h0]; exact h0
  have c2 : cntR x.fb rank.length ≤ (bckL rank ways t).length := cnt_rows fun v hv h0 => by rw [← BI.fb fit h ht hv h0]; exact h0
  have := h.st
  refine ⟨?_, by omega⟩
  apply Classical.byContradiction
  intro hno
  have hz : ∀ m, m < rank.length → ¬ 0 ≤ x.fa m := fun m hm h0 => by have := cntR_pos hm h0; omega
  have hb : x.best < 0 := by
    rcases h.best with ⟨q, _⟩ | ⟨_, ⟨m, m1, m2, _⟩, _⟩
    · omega
    · exact absurd m2 (hz m m1)
  rcases h.a.d.z with q | ⟨k, q, _⟩
  · exact hz s hs q
  · obtain ⟨_, q2, _⟩ := opnL_at.1 q
    obtain ⟨m, m1, m2, m3⟩ := IsFst.ex (Nat.le_refl rank.length) ⟨s, hs, q2⟩
    exact hS.1 m ⟨⟨m1, m2, m3⟩, .inl hb⟩
end
end Go.Sh

/- The reference of Look: first, better. -/
set_option maxRecDepth 100000
namespace Go.Sh
open Go.RowKit

section
variable {o : Nat → Int} {i : Nat} {a : Int}
end
theorem rd_idx {w : World} {s : SV} {xs : List (Int × Int × Int)} (h : View RD w s xs) {i : Nat} (hl : i < xs.length) {K : Addr → Prop}
    (hk : ∀ a, w.cell? (a.add 0) = some (.int .i64 xs[i].1) → w.cell? (a.add 1) = some (.int .i64 xs[i].2.1) → w.cell? (a.add 2) = some (.int .i64 xs[i].2.2) → K a) : Idx s.a s.len (i : Int) 3 K := by
  refine View.idx (R := RD) h (by omega) (by simpa using hl) fun a _ hc => ?_
  simp only [Int.toNat_natCast] at hc
  exact hk a (hc 0 _ rfl) (hc 1 _ rfl) (hc 2 _ rfl)
theorem rlxO_snoc {F o : Nat → Int} {d : Int} {ed : List (Int × Int × Int)} {j : Nat} (h : j < ed.length) : (ed.take (j + 1)).foldl (rlxO F d) o = rlxO F d ((ed.take j).foldl (rlxO F d) o) ed[j] := by
  rw [take_snoc' h, List.foldl_append]; rfl
theorem edS_full {rank : List Int} {ways : List Wy} (ok : OkH rank ways) {back : Bool} {u : Nat} (hu : u < rank.length) : edS rank ways rank.length back u = if back = true then dnF rank ways (u : Int) else upF rank ways (u : Int) := by
  unfold edS
  rw [if_pos (by have := okR_rk ok hu; omega)]
end Go.Sh

/- The reference of Look: the walk. -/
set_option maxRecDepth 100000
namespace Go.Sh
open Go.RowKit

section
variable {b c : Nat} {w w' : World} {n : Nat} {f o : Nat → Int} {sd sD : SV}
end

section
variable {n s : Nat} {M : Int} {ed : Nat → List (Int × Int × Int)} {f o : Nat → Int}
theorem Sch.lo (h : Sch n s M ed f o) (ok : EdOk n M ed) {v : Nat} (hv : v < n) : o v < 2 ^ 62 := by
  rcases h.o v hv with q | q
  · omega
  · have h1 : o v ≤ (n : Int) * M := h.d.kb (opnL_at.2 ⟨hv, q, rfl⟩)
    have := ok.b
    omega
theorem Sch.lf (h : Sch n s M ed f o) (ok : EdOk n M ed) {v : Nat} (hv : v < n) : f v < 2 ^ 62 := by
  rcases h.d.d v hv with q | ⟨_, _, q⟩
  · omega
  · have h1 : ((cntR f n : Int) - 1) * M ≤ (n : Int) * M := Int.mul_le_mul_of_nonneg_right (by have := cntR_le f n; omega) h.d.m
    have := ok.b; omega
end

end Go.Sh

/- The program's searches: first, step. -/
set_option maxRecDepth 100000
namespace Go.Sh
open Go.RowKit

theorem opnL_up {n u : Nat} {o : Nat → Int} {x : Int} (e : Int × Int) : e ∈ opnL n (up1 o u x) ↔ (u < n ∧ 0 ≤ x ∧ e = ((u : Int), x)) ∨ e ∈ opnL n o ∧ e.1 ≠ (u : Int) := by
  rw [mem_opnL, mem_opnL]
  constructor
  · rintro ⟨a, a1, a2, rfl⟩
    by_cases q : a = u
    · subst q; rw [up1_at] at a2 ⊢; exact .inl ⟨a1, a2, rfl⟩
    · rw [up1_ne q] at a2 ⊢; exact .inr ⟨⟨a, a1, a2, rfl⟩, by simp only; omega⟩
  · rintro (⟨a1, a2, rfl⟩ | ⟨⟨a, a1, a2, rfl⟩, a3⟩)
    · exact ⟨u, a1, by rw [up1_at]; exact a2, by rw [up1_at]⟩
    · have q : a ≠ u := fun q => a3 (by rw [q])
      exact ⟨a, a1, by rw [up1_ne q]; exact a2, by rw [up1_ne q]⟩

/-- A search as the program keeps it. -/
structure PSr (w : World) (b n : Nat) (f o : Nat → Int) (fv : Value) (q : Option Addr) (r : Nat) (F : Nat → Prop) (L : List (Int × Int)) : Prop where
  bx : Blk w b [.pointer q, .map (some r), fv]
  hp : HeapA w q n L F
  hl : ∀ e, e ∈ L ↔ e ∈ opnL n o
  mp : ∃ mm, MapIs false 1 w r mm ∧ MpF n f mm
  nb : ¬ F b
  br : b ≠ r
  nr : ¬ F r
section
variable {w w' : World} {b n r : Nat} {f o : Nat → Int} {fv : Value} {q : Option Addr} {F : Nat → Prop} {L : List (Int × Int)}
theorem PSr.chg {G : Nat → Prop} (h : PSr w b n f o fv q r F L) (c : Chg G w w') (h1 : ¬ G b) (h2 : ¬ G r) (h3 : ∀ k, F k → ¬ G k) : PSr w' b n f o fv q r F L := by
  obtain ⟨mm, hm, hf⟩ := h.mp
  exact ⟨c.blk h.bx h1, h.hp.chg c h3, h.hl, ⟨mm, hm.same (c.block r hm.lt h2), hf⟩, h.nb, h.br, h.nr⟩
theorem PSr.ext (h : PSr w b n f o fv q r F L) (e : Ext w w') : PSr w' b n f o fv q r F L := h.chg (G := fun _ => False) (.of_ext e) id id fun _ _ => id
theorem PSr.off {c : Nat} (h : PSr w b n f o fv q r F L) (e : Off c w w') (h1 : b ≠ c) (h2 : r ≠ c) (h3 : ¬ F c) : PSr w' b n f o fv q r F L :=
  h.chg (G := fun k => k = c) (.of_off e rfl) h1 h2 fun k hk e => h3 (e ▸ hk)
theorem PSr.c0 (h : PSr w b n f o fv q r F L) : w.cell? ((⟨b, 0, none⟩ : Addr).add 0) = some (.pointer q) := by rw [addm, cell_blk h.bx]; rfl
theorem PSr.c1 (h : PSr w b n f o fv q r F L) : w.cell? ((⟨b, 0, none⟩ : Addr).add 1) = some (.map (some r)) := by rw [addm, cell_blk h.bx]; rfl
theorem PSr.c2 (h : PSr w b n f o fv q r F L) : w.cell? ((⟨b, 0, none⟩ : Addr).add 2) = some fv := by rw [addm, cell_blk h.bx]; rfl
theorem PSr.lt (h : PSr w b n f o fv q r F L) : b < w.heap.size ∧ r < w.heap.size ∧ ∀ k, F k → k < w.heap.size :=
  ⟨blk_lt h.bx, by obtain ⟨mm, hm, _⟩ := h.mp; exact hm.lt, fun _ hk => h.hp.lt hk⟩

theorem least_fst (hl : ∀ e, e ∈ L ↔ e ∈ opnL n o) {m : Int × Int} (h : Least L m) : ∃ v : Nat, m = ((v : Int), o v) ∧ IsFst n o v := by
  obtain ⟨v, h1, h2, rfl⟩ := mem_opnL.1 ((hl m).1 h.1)
  refine ⟨v, rfl, h1, h2, fun u hu hu0 => ?_⟩
  have := h.2 _ ((hl ((u : Int), o u)).2 (opnL_at.2 ⟨hu, hu0, rfl⟩))
  unfold eLt at this
  simp only [Bool.or_eq_false_iff, decide_eq_false_iff_not, Bool.and_eq_false_iff, beq_eq_false_iff_ne] at this
  obtain ⟨a, c⟩ := this
  by_cases e : o u = o v
  · right; exact ⟨e.symm, by rcases c with c | c <;> omega⟩
  · left; omega

/-- What first answers. -/
def FstP (n : Nat) (o : Nat → Int) (best d : Int) (t : Bool) : Prop := (t = true ∧ ∃ v, Avl n o best v ∧ d = o v) ∨ (t = false ∧ ∀ v, ¬ Avl n o best v)
theorem first_ok {best : Int} {K : Int → Bool → World → Prop} (h : PSr w b n f o fv q r F L) (hb : best = -1 ∨ 0 ≤ best) (hk : ∀ d t w', Ext w w' → FstP n o best d t → K d t w') : sh_query_search_first (some ⟨b, 0, none⟩) best K w := by
  unfold sh_query_search_first
  refine ⟨_, rfl, q, h.c0, ?_⟩
  by_cases hL : L = []
  · have hp := h.hp
    rw [hL] at hp
    refine First_no hp ?_
    rw [cond_false]
    refine hk _ _ w (.refl _) (.inr ⟨rfl, fun v hv => ?_⟩)
    have := (h.hl ((v : Int), o v)).2 (opnL_at.2 ⟨hv.1.1, hv.1.2.1, rfl⟩)
    rw [hL] at this; simp at this
  · refine First_ok h.hp hL fun m w6 hm e6 => ?_
    obtain ⟨v, rfl, hv⟩ := least_fst h.hl hm
    rw [cond_true]
    rcases hb with rfl | hb
    · rw [show ((-1 : Int) == -1) = true from rfl, cond_true]
      exact hk _ _ w6 e6 (.inl ⟨rfl, v, ⟨hv, .inl (by decide)⟩, rfl⟩)
    · rw [show (best == -1) = false by rw [beq_eq_false_iff_ne]; omega, cond_false]
      by_cases hlt : o v < best
      · rw [decide_eq_true hlt]
        exact hk _ _ w6 e6 (.inl ⟨rfl, v, ⟨hv, .inr hlt⟩, rfl⟩)
      · rw [decide_eq_false hlt]
        refine hk _ _ w6 e6 (.inr ⟨rfl, fun u hu => ?_⟩)
        have := hu.1.uniq hv
        subst this
        rcases hu.2 with h | h <;> omega

theorem step_ok {CV : CVT} {w0 : World} {v : Nat} {ed : List Edg} {K : Int → World → Prop} (h : PSr w b n f o fv q r F L) (e0 : Ext w0 w) (hr : w0.heap.size ≤ r) (hF : ∀ k, F k → w0.heap.size ≤ k) (hv : IsFst n o v) (hn : n ≤ 16777216)
    (hl : ed.length < 2 ^ 40) (hb : ∀ e ∈ ed, 0 ≤ e.1 ∧ e.1 < n ∧ IntKind.i64.wrap (o v + e.2.1) = o v + e.2.1 ∧ 0 ≤ o v + e.2.1)
    (hcall : ∀ w1, Ext w0 w1 → ∀ K' : Value → World → Prop, (∀ t w'', Ext w1 w'' → Own RD w'' t ed → Fsh w1 t → K' (.slice t.a t.len t.cap) w'') → CV fv [.int .i64 (v : Int)] K' w1)
    (hk : ∀ w' F' L', Ext w0 w' → Chg (fun k => k = r ∨ F k) w w' → (∀ k, F' k → F k ∨ w.heap.size ≤ k) → PSr w' b n (setF f o v) (setO f o v ed) fv q r F' L' → K v w') : sh_query_search_step CV (some ⟨b, 0, none⟩) K w := by
  unfold sh_query_search_step
  refine ⟨_, rfl, q, h.c0, ?_⟩
  obtain ⟨lb, lr, lF⟩ := h.lt
  have hL : L ≠ [] := fun e => by
    have := (h.hl ((v : Int), o v)).2 (opnL_at.2 ⟨hv.1, hv.2.1, rfl⟩)
    rw [e] at this; simp at this
  refine Pop_ok h.hp hL fun m w6 F6 hm c6 f6 h6 => ?_
  obtain ⟨v', rfl, hv'⟩ := least_fst h.hl hm
  obtain rfl := hv'.uniq hv
  dsimp only at h6 ⊢
  have z6 := c6.size
  obtain ⟨mm, hM, hmf⟩ := h.mp
  have M6 : MapIs false 1 w6 r mm := hM.same (c6.block r lr h.nr)
  have B6 := c6.blk h.bx h.nb
  refine ⟨_, rfl, some r, by rw [addm, cell_blk B6]; rfl, r, rfl, mm, M6, fun w9 o9 M9 => ?_⟩
  have z9 := o9.size
  have hmf := hmf.set hv.1 hv.2.1
  have n6 : ∀ k, F6 k → k ≠ b ∧ k ≠ r := fun k hk => by
    rcases f6 k hk with q | q
    · exact ⟨fun e => h.nb (e ▸ q), fun e => h.nr (e ▸ q)⟩
    · omega
  have P9 : PSr w9 b n (setF f o v') (up1 o v' (-1)) fv q r F6 (rid L (v' : Int)) := by
    refine ⟨B6.off o9 h.br, h6.chg (G := fun k => k = r) (.of_off o9 rfl) fun k h1 h2 => (n6 k h1).2 h2, fun e => ?_, ⟨_, M9, hmf⟩, fun hk => (n6 _ hk).1 rfl, h.br, fun hk => (n6 _ hk).2 rfl⟩
    rw [rid_mem, opnL_up, h.hl]
    exact ⟨.inr, fun q => q.resolve_left fun q => by omega⟩
  have e6 : Ext w0 w6 := ext_chg e0 c6 hF
  have e9 : Ext w0 w9 := ext_off e6 o9 hr
  have c9 : Chg (fun k => k = r ∨ F k) w w9 := (c6.mono fun _ _ => .inr).trans (.of_off o9 (.inl rfl)) fun _ _ => id
  refine ⟨_, rfl, fv, P9.c2, ?_⟩
  refine hcall w9 e9 _ fun t w14 e14 hO f14 => ⟨t, rfl, ?_⟩
  have z14 := e14.size
  have lt := hO.view.len
  have Fv : setF f o v' v' = o v' := up1_at
  let g := fun j => (ed.take j).foldl (rlxO (setF f o v') (o v')) (up1 o v' (-1))
  have F6' : ∀ k, F6 k → k < w6.heap.size := fun k hk => h6.lt hk
  refine LoopT.gh (γ := Nat × List (Int × Int) × (Nat → Prop)) (fun gh (st : Int × Unit) w' => st.1 = gh.1 ∧ gh.1 ≤ ed.length ∧ Ext w0 w' ∧ Chg (fun k => k = r ∨ F k) w w' ∧ w14.heap.size ≤ w'.heap.size ∧ (∀ k, gh.2.2 k → F k ∨ w.heap.size ≤ k) ∧ (∀ k, t.blk k → ¬ gh.2.2 k) ∧ Own RD w' t ed ∧ PSr w' b n (setF f o v') (g gh.1) fv q r gh.2.2 gh.2.1) (fun gh => ed.length - gh.1)
    (0, rid L (v' : Int), F6) ⟨rfl, Nat.zero_le _, e9.trans e14, c9.trans (.of_ext (F := fun _ => False) e14) fun _ _ h => h.elim, Nat.le_refl _, f6, fun k hk h2 => by have := f14 k hk; have := F6' k h2; omega, hO, P9.ext e14⟩ ?_
  rintro ⟨i, L1, F1⟩ ⟨x, _⟩ w17 ⟨hx, hi, e17, c17, z17, f17, d17, hO, P⟩ J1 hJ1
  simp only at hx hi f17 d17 P hJ1; subst hx
  dsimp only
  rw [Bool.cond_decide]
  by_cases hc : (i : Int) < (t.len : Int)
  · rw [if_pos hc]
    have hi' : i < ed.length := by omega
    obtain ⟨q0, q1, q2, q3⟩ := hb _ (List.getElem_mem hi')
    obtain ⟨u, hu⟩ := Int.eq_ofNat_of_zero_le q0
    have hun : u < n := by omega
    refine rd_idx hO.view hi' fun _ a0 a1 a2 => ⟨_, a0, _, a1, _, a2, ?_⟩
    intro b22 w23 e23 g22 g22' w24 o24
    have z23 := e23.size; have z24 := o24.size
    have c1724 : Chg (fun k => k = r ∨ F k) w w24 := (c17.trans (.of_ext (F := fun _ => False) e23) fun _ _ h => h.elim).trans (Chg.of_off (F := fun k => k = b22) o24 rfl) fun i hi e => by subst e; have := c17.size; omega
    obtain ⟨lb1, lr1, lF1⟩ := P.lt
    have P24 : PSr w24 b n (setF f o v') (g i) fv q r F1 L1 := (P.ext e23).off o24 (by omega) (by omega) fun hk => by have := lF1 _ hk; omega
    have e24 : Ext w0 w24 := ext_off (e17.trans e23) o24 (by have := e17.size; omega)
    have hO24 : Own RD w24 t ed := (hO.ext e23).off o24 fun hk => by have := hO.lt hk; omega
    have gs : g (i + 1) = rlxO (setF f o v') (o v') (g i) ed[i] := rlxO_snoc hi'
    have key : ∀ k, ((u : Int), k) ∈ L1 ↔ 0 ≤ g i u ∧ k = g i u := fun k => by
      rw [P24.hl, opnL_at]; exact ⟨fun q => q.2, fun q => ⟨hun, q⟩⟩
    rw [hu]
    refine ⟨_, rfl, q, P24.c0, ?_⟩
    refine Quiet.mk (if 0 ≤ g i u then (g i u, true) else (0, false)) (fun w1 e1 K1 hK1 => ?_) ?_
    · refine Key_ok (P24.ext e1).hp (fun k hk w2 e2 => ?_) fun hno => ?_
      · obtain ⟨k1, k2⟩ := (key k).1 hk
        have := hK1 w2 e2
        rw [if_pos k1] at this; rw [k2]; exact this
      · have : ¬ 0 ≤ g i u := fun q => hno _ ((key _).2 ⟨q, rfl⟩)
        have h2 := hK1 w1 (.refl _)
        rw [if_neg this] at h2; exact h2
    intro w32 e32
    have P32 := P24.ext e32
    obtain ⟨mm1, M32, F32⟩ := P32.mp
    refine ⟨_, rfl, some r, P32.c1, mm1, M32, ?_⟩
    have at1 := F32.at hun
    have next : ∀ (L2 : List (Int × Int)) (F2 : Nat → Prop) (w' : World), Ext w0 w' → Chg (fun k => k = r ∨ F k) w w' → w14.heap.size ≤ w'.heap.size → (∀ k, F2 k → F k ∨ w.heap.size ≤ k) → (∀ k, t.blk k → ¬ F2 k) → Own RD w' t ed → PSr w' b n (setF f o v') (g (i + 1)) fv q r F2 L2 → J1 (IntKind.i64.wrap ((i : Int) + 1), ()) w' := fun L2 F2 w' k1 k2 k3 k4 k5 k6 k7 =>
      hJ1 (i + 1, L2, F2) _ _ ⟨wsucc (m := 2 ^ 40) (by omega) (by omega), by simp only; omega, k1, k2, k3, k4, k5, k6, k7⟩ (by simp only; omega)
    have same : ¬ (setF f o v' u < 0 ∧ (g i u < 0 ∨ o v' + ed[i].2.1 < g i u)) → ∀ w', Ext w24 w' → J1 (IntKind.i64.wrap ((i : Int) + 1), ()) w' := fun hno w' e' => by
      refine next L1 F1 w' (e24.trans e') (c1724.trans (.of_ext (F := fun _ => False) e') fun _ _ h => h.elim) (by have := e'.size; omega) f17 d17 (hO24.ext e') ?_
      rw [gs]; unfold rlxO; rw [hu, Int.toNat_natCast, if_neg hno]; exact P24.ext e'
    have set : setF f o v' u < 0 → (g i u < 0 ∨ o v' + ed[i].2.1 < g i u) → ∀ w37, Ext w24 w37 → (Nn (some (⟨b, 0, none⟩ : Addr)) (fun a38 => ∃ p39 : Option Addr, w37.cell? (a38.add 0) = some (.pointer p39) ∧ ∀ w41, Ext w37 w41 →
        sh_heap_Heap_Set p39 (u : Int) (IntKind.i64.wrap (o v' + ed[i].2.1)) (fun _ w42 => Keeps [b22] w41 w42 ∧ ∀ w43, Ext w42 w43 → J1 (IntKind.i64.wrap ((i : Int) + 1), ()) w43) w41)) := fun h1 h2 w37 e37 => by
      have P37 := P24.ext e37
      refine ⟨_, rfl, q, P37.c0, fun w41 e41 => ?_⟩
      have e2441 := e37.trans e41
      have z41 := e2441.size
      have P41 := P24.ext e2441
      rw [q2]
      refine Set_ok P41.hp (by omega) (by omega) fun w42 F2 c2 f2 h2' => ⟨kc1 c2 (by omega) fun hk => by have := lF1 _ hk; omega, fun w43 e43 => ?_⟩
      have z42 := c2.size
      have f2' : ∀ k, F2 k → F k ∨ w.heap.size ≤ k := fun k hk => by
        rcases f2 k hk with h | h
        · exact f17 k h
        · right; have := c1724.size; omega
      have fr2 : ∀ k, F2 k → F1 k ∨ w24.heap.size ≤ k := fun k hk => (f2 k hk).imp id fun h => by omega
      have P42 : PSr w42 b n (setF f o v') (up1 (g i) u (o v' + ed[i].2.1)) fv q r F2 (((u : Int), o v' + ed[i].2.1) :: rid L1 (u : Int)) := by
        refine ⟨c2.blk P41.bx P41.nb, h2', fun e => ?_, ?_, fun hk => ?_, h.br, fun hk => ?_⟩
        · rw [List.mem_cons, rid_mem, opnL_up, P41.hl]
          exact or_congr ⟨fun k => ⟨hun, q3, k⟩, fun k => k.2.2⟩ Iff.rfl
        · obtain ⟨m2, k1, k2⟩ := P41.mp
          exact ⟨m2, k1.same (c2.block r k1.lt P41.nr), k2⟩
        · rcases fr2 _ hk with k | k
          · exact P41.nb k
          · omega
        · rcases fr2 _ hk with k | k
          · exact P41.nr k
          · omega
      have cc : Chg (fun k => k = r ∨ F k) w w42 := ((c1724.trans (.of_ext (F := fun _ => False) e2441) fun _ _ h => h.elim)).trans c2 fun k hk hF1 => by
        rcases f17 k hF1 with h | h
        · exact .inr h
        · omega
      refine next (((u : Int), o v' + ed[i].2.1) :: rid L1 (u : Int)) F2 w43 ((ext_chg (e24.trans e2441) c2 fun k hk => ?_).trans e43) (cc.trans (.of_ext (F := fun _ => False) e43) fun _ _ h => h.elim) (by have := e43.size; omega) f2' (fun k hk h3 => ?_) (((hO24.ext e2441).chg c2 fun k h3 h4 => d17 k h3 h4).ext e43) ?_
      · rcases f17 k hk with h | h
        · exact hF k h
        · have := e0.size; omega
      · rcases fr2 _ h3 with k1 | k1
        · exact d17 k hk k1
        · have := hO24.lt hk; omega
      · rw [gs]; unfold rlxO; rw [hu, Int.toNat_natCast, if_pos ⟨h1, h2⟩]; exact P42.ext e43
    rw [at1]
    by_cases hfu : 0 ≤ setF f o v' u
    · rw [if_pos hfu]
      refine ⟨_, rfl, fun w37 e37 => ?_⟩
      rw [Option.isSome_some, Bool.not_true, cond_false]
      exact same (fun k => by omega) w37 (e32.trans e37)
    · rw [if_neg hfu]
      refine ⟨0, rfl, fun w37 e37 => ?_⟩
      rw [Option.isSome_none, Bool.not_false, cond_true]
      by_cases hgu : 0 ≤ g i u
      · rw [if_pos hgu, Bool.not_true, cond_false, Bool.cond_decide]
        dsimp only
        rw [q2]
        split
        · rename_i hlt
          have := set (by omega) (.inr hlt) w37 (e32.trans e37)
          rw [q2] at this; exact this
        · rename_i hlt
          exact same (fun k => by rcases k.2 with k | k <;> omega) w37 (e32.trans e37)
      · rw [if_neg hgu, Bool.not_false, cond_true]
        exact set (by omega) (.inl (by omega)) w37 (e32.trans e37)
  · rw [if_neg hc]
    have : i = ed.length := by omega
    subst this
    refine hk w17 F1 L1 e17 c17 f17 ?_
    have e : g ed.length = setO f o v' ed := by show (ed.take ed.length).foldl _ _ = _; rw [List.take_length]; rfl
    rw [← e]; exact P
end
end Go.Sh

/- The program's Look: its beginning, one step of it. -/
set_option maxRecDepth 100000
namespace Go.Sh
open Go.RowKit

def nArr (b5 b7 : Nat) : List Value := [.pointer (some ⟨b5, 0, none⟩), .pointer (some ⟨b7, 0, none⟩)]
theorem opnL_one {n v : Nat} (hv : v < n) (e : Int × Int) : e ∈ opnL n (up1 (fun _ => -1) v 0) ↔ e = ((v : Int), 0) := by
  rw [opnL_up]
  constructor
  · rintro (⟨_, _, h⟩ | ⟨h, _⟩)
    · exact h
    · obtain ⟨u, _, h0, _⟩ := mem_opnL.1 h; omega
  · exact fun h => .inl ⟨hv, by decide, h⟩

section
variable {CV : CVT} {w : World} {p : Option Addr} {rank : List Int} {ways : List Wy} {FH : Nat → Prop}
theorem lookInit_ok {w15 : World} {b9 bk v : Nat} {i : Int} {cs : List Value} {fv : Value} {K : World → Prop} (hH : HierA w p rank ways FH) (e15 : Ext w w15) (hn : rank.length ≤ 16777216) (hB9 : Blk w15 b9 cs) (hcs : cs[i.toNat]? = some (.pointer (some ⟨bk, 0, none⟩))) (hi : 0 ≤ i ∧ i < 2)
    (hbk : Blk w15 bk [.pointer none, .map none, fv]) (hne : bk ≠ b9) (hw : w.heap.size ≤ bk) (hv : v < rank.length)
    (hk : ∀ w41 q r F L, Chg (fun k => k = bk) w15 w41 → PSr w41 bk rank.length (fun _ => -1) (up1 (fun _ => -1) v 0) fv q r F L → w15.heap.size ≤ r → (∀ k, F k → w15.heap.size ≤ k) → K w41) :
    0 ≤ i ∧ i < ((2 : Nat) : Int) ∧
    (∃ p17 : Option Addr, w15.cell? ((⟨b9, 0, none⟩ : Addr).add (i.toNat * 1)) = some (.pointer p17) ∧
    (0 ≤ i ∧ i < ((2 : Nat) : Int) ∧
    (∃ p19 : Option Addr, w15.cell? ((⟨b9, 0, none⟩ : Addr).add (i.toNat * 1)) = some (.pointer p19) ∧
    (Quiet (Int) (fun r22 => (.int .i64 r22)) (fun K23 w24' => sh_hier_Hier_N p (fun x21 w24 => K23 x21 w24) w24') w15 (fun r22 =>
    (∀ w26, Ext w15 w26 →
    (sh_heap_New r22 (fun p25 w27 =>
    (KeepZ (zI (fun _ => False) w15 w26) w26 w27 ∧
    ((∃ y20 : Option Addr, w27.cell? ((⟨b9, 0, none⟩ : Addr).add (i.toNat * 1)) = some (.pointer y20) ∧ ((.pointer y20) : Value) = (.pointer p19)) ∧
    ((∃ y18 : Option Addr, w27.cell? ((⟨b9, 0, none⟩ : Addr).add (i.toNat * 1)) = some (.pointer y18) ∧ ((.pointer y18) : Value) = (.pointer p17)) ∧
    (Nn p17 (fun a28 =>
    (∀ w29, Ext w27 w29 →
    (stL w29 (a28.add 0) [(.pointer p25)] 0 (fun w30 =>
    (KeepZ (zI (zI (fun _ => False) w15 w26) w27 w29) w29 w30 ∧
    ((∃ y20 : Option Addr, w30.cell? ((⟨b9, 0, none⟩ : Addr).add (i.toNat * 1)) = some (.pointer y20) ∧ ((.pointer y20) : Value) = (.pointer p19)) ∧
    (MkMA (zI (zI (fun _ => False) w15 w26) w27 w29) w30 (fun r31 w32 =>
    (Nn p19 (fun a33 =>
    (∀ w34, Ext w32 w34 →
    (stL w34 (a33.add 1) [(.map (some r31))] 0 (fun w35 =>
    (∀ w36, Ext w35 w36 →
    (0 ≤ i ∧ i < ((2 : Nat) : Int) ∧
    (∃ p37 : Option Addr, w36.cell? ((⟨b9, 0, none⟩ : Addr).add (i.toNat * 1)) = some (.pointer p37) ∧
    (Nn p37 (fun a38 =>
    (∃ p39 : Option Addr, w36.cell? (a38.add 0) = some (.pointer p39) ∧
    (sh_heap_Heap_Set p39 (v : Int) (0 : Int) (fun _ w41 => K w41) w36))))))))))))))))))))))))) w26))))))) := by
  have lb9 := blk_lt hB9; have lbk := blk_lt hbk
  have at9 : ∀ {w' : World}, Blk w' b9 cs → w'.cell? ((⟨b9, 0, none⟩ : Addr).add (i.toNat * 1)) = some (.pointer (some ⟨bk, 0, none⟩)) := fun h => by rw [addm, cell_blk h, Nat.zero_add, Nat.mul_one]; exact hcs
  have l9 := at9 hB9
  refine ⟨hi.1, hi.2, _, l9, hi.1, hi.2, _, l9, ?_⟩
  refine Quiet.mk (rank.length : Int) (fun w1 e1 K1 hK1 => HN_ok (hH.ext (e15.trans e1)) (hK1 _ (.refl _))) fun w26 e26 => ?_
  have z26 := e26.size
  refine New_ok (by omega) (by omega) fun q w27 F e27 hP f27 => ?_
  rw [Int.toNat_natCast] at hP
  have z27 := e27.size
  have B27 := (e26.trans e27).blkE hB9
  have e1527 := e26.trans e27
  refine ⟨⟨z27, fun b hb => e27.blk ?_⟩, ⟨_, at9 B27, rfl⟩, ⟨_, at9 B27, rfl⟩, _, rfl, fun w29 e29 => ?_⟩
  · unfold zI at hb
    rcases hb with h | h
    · exact h.elim
    · exact h.2
  have z29 := e29.size
  have bk29 := (e1527.trans e29).blkE hbk
  refine stL_blk (o := 0) [.pointer q] 0 w29 _ _ bk29 (by simp only [List.length_cons, List.length_nil]; omega) fun w30 o30 bk30 => ?_
  have z30 := o30.size
  have bk30 : Blk w30 bk [.pointer q, .map none, fv] := bk30
  have B30 : Blk w30 b9 cs := ((e29.blkE B27).off o30 (Ne.symm hne))
  refine ⟨⟨by omega, fun b hb => o30.block b fun e => ?_⟩, ⟨_, at9 B30, rfl⟩, ?_⟩
  · unfold zI at hb
    rcases hb with (h | h) | h
    · exact h.elim
    · omega
    · omega
  intro r w32 e32 hz hm
  have z32 := e32.size
  have hM : MapIs false 1 w32 r [] := MapIs.nil hm
  have hr : w15.heap.size ≤ r ∧ (r < w26.heap.size ∨ w27.heap.size ≤ r) := by
    unfold zI at hz
    rcases hz with ((h | h) | h) | h
    · exact h.elim
    · exact ⟨h.1, .inl h.2⟩
    · exact ⟨by omega, .inr h.1⟩
    · exact ⟨by omega, .inr (by omega)⟩
  have lr := hM.lt
  have hrb : r ≠ bk := by have := hr.1; omega
  have F27 : ∀ k, F k → k < w27.heap.size := fun k hk => hP.lt hk
  refine ⟨_, rfl, fun w34 e34 => ?_⟩
  have z34 := e34.size
  have bk34 := (e32.trans e34).blkE bk30
  refine stL_blk (o := 1) [.map (some r)] 0 w34 _ _ bk34 (by simp only [List.length_cons, List.length_nil]; omega) fun w35 o35 bk35 w36 e36 => ?_
  have z35 := o35.size; have z36 := e36.size
  have bk36 : Blk w36 bk [.pointer q, .map (some r), fv] := e36.blkE bk35
  have B36 : Blk w36 b9 cs := e36.blkE (((e32.trans e34).blkE B30).off o35 (Ne.symm hne))
  refine ⟨hi.1, hi.2, _, at9 B36, _, rfl, q, by rw [addm, cell_blk bk36]; rfl, ?_⟩
  have nF : ∀ k, F k → k ≠ bk := fun k hk => by have := f27 k hk; omega
  have hP36 : HeapA w36 q rank.length [] F := ((((hP.ext e29).chg (G := fun k => k = bk) (.of_off o30 rfl) nF).ext (e32.trans e34)).chg (G := fun k => k = bk) (.of_off o35 rfl) nF).ext e36
  have M36 : MapIs false 1 w36 r [] := ((hM.grow e34).same (o35.block r hrb)).grow e36
  refine Set_ok hP36 (by omega) (by omega) fun w41 F' c41 f41 hP41 => ?_
  have z41 := c41.size
  have nF' : ∀ k, F' k → w26.heap.size ≤ k ∧ (k < w27.heap.size ∨ w36.heap.size ≤ k) := fun k hk => by
    rcases f41 k hk with h | h
    · exact ⟨f27 k h, .inl (F27 k h)⟩
    · exact ⟨by omega, .inr h⟩
  have c36 : Chg (fun k => k = bk) w15 w36 := ((((Chg.of_ext (F := fun k => k = bk) (e1527.trans e29)).trans (.of_off (F := fun k => k = bk) o30 rfl) fun _ _ h => h).trans (.of_ext (F := fun _ => False) (e32.trans e34)) fun _ _ h => h.elim).trans (.of_off (F := fun k => k = bk) o35 rfl) fun _ _ h => h).trans (.of_ext (F := fun _ => False) e36) fun _ _ h => h.elim
  refine hk w41 q r F' _ (c36.trans c41 fun k hk hF => by have := f27 k hF; omega) ⟨c41.blk bk36 fun h => nF _ h rfl, hP41, fun e => ?_, ⟨[], M36.same (c41.block r (by omega) fun h => by have := F27 r h; have := f27 r h; omega), MpF.nil⟩, fun h => by have := nF' _ h; omega, Ne.symm hrb, fun h => by have := nF' _ h; omega⟩ hr.1 fun k h => by have := nF' k h; omega
  rw [opnL_one hv, List.mem_cons]
  exact ⟨fun h => h.elim id fun h => by simp [rid] at h, .inl⟩

/-- One step: which of both is given by its place. -/
theorem lookStep_ok {w0 w58 : World} {b9 b b' n v r r' : Nat} {k : Int} {cs : List Value} {f o f' o' : Nat → Int} {fv fv' : Value} {q q' : Option Addr} {F F' : Nat → Prop} {L L' : List (Int × Int)} {best : Int} {ed : List Edg} {again : Int → World → Prop}
    (hB9 : Blk w58 b9 cs) (hc : cs[k.toNat]? = some (.pointer (some ⟨b, 0, none⟩))) (hc' : cs[(IntKind.i64.wrap ((1 : Int) - k)).toNat]? = some (.pointer (some ⟨b', 0, none⟩))) (hk0 : 0 ≤ k ∧ k < 2) (hk1 : 0 ≤ IntKind.i64.wrap ((1 : Int) - k) ∧ IntKind.i64.wrap ((1 : Int) - k) < 2)
    (P : PSr w58 b n f o fv q r F L) (P' : PSr w58 b' n f' o' fv' q' r' F' L') (n9 : b9 ≠ r ∧ ¬ F b9) (n1 : b' ≠ r ∧ ¬ F b') (n2 : r' ≠ r ∧ ¬ F r') (n3 : ∀ k, F' k → k ≠ r ∧ ¬ F k)
    (e0 : Ext w0 w58) (hr : w0.heap.size ≤ r) (hF : ∀ k, F k → w0.heap.size ≤ k) (hv : IsFst n o v) (hn : n ≤ 16777216) (hbest : best = -1 ∨ 0 ≤ best)
    (hl : ed.length < 2 ^ 40) (hb : ∀ e ∈ ed, 0 ≤ e.1 ∧ e.1 < n ∧ IntKind.i64.wrap (o v + e.2.1) = o v + e.2.1 ∧ 0 ≤ o v + e.2.1) (hsum : 0 ≤ f' v → IntKind.i64.wrap (f' v + o v) = f' v + o v)
    (hcall : ∀ w1, Ext w0 w1 → ∀ K' : Value → World → Prop, (∀ t w'', Ext w1 w'' → Own RD w'' t ed → Fsh w1 t → K' (.slice t.a t.len t.cap) w'') → CV fv [.int .i64 (v : Int)] K' w1)
    (hk : ∀ w' F1 L1, Ext w0 w' → w58.heap.size ≤ w'.heap.size → (∀ k, F1 k → F k ∨ w58.heap.size ≤ k) → Blk w' b9 cs → PSr w' b n (setF f o v) (setO f o v ed) fv q r F1 L1 → PSr w' b' n f' o' fv' q' r' F' L' → again (bstF (setF f o v) f' v best) w') :
    0 ≤ k ∧ k < ((2 : Nat) : Int) ∧
    (∃ p59 : Option Addr, w58.cell? ((⟨b9, 0, none⟩ : Addr).add (k.toNat * 1)) = some (.pointer p59) ∧
    (sh_query_search_step CV p59 (fun x60 w61 =>
    (0 ≤ (IntKind.i64.wrap ((1 : Int) - k)) ∧ (IntKind.i64.wrap ((1 : Int) - k)) < ((2 : Nat) : Int) ∧
    (∃ p62 : Option Addr, w61.cell? ((⟨b9, 0, none⟩ : Addr).add (((IntKind.i64.wrap ((1 : Int) - k))).toNat * 1)) = some (.pointer p62) ∧
    (Nn p62 (fun a63 =>
    (∃ m64 : Option Nat, w61.cell? (a63.add 1) = some (.map m64) ∧
    (∃ mm65, MapR false 1 w61 m64 mm65 ∧ ∃ x66 : Int, (assoc mm65 [x60]).getD (.int .i64 (0 : Int)) = (.int .i64 x66) ∧
    (cond ((assoc mm65 [x60]).isSome) (0 ≤ k ∧ k < ((2 : Nat) : Int) ∧
    (∃ p67 : Option Addr, w61.cell? ((⟨b9, 0, none⟩ : Addr).add (k.toNat * 1)) = some (.pointer p67) ∧
    (Nn p67 (fun a68 =>
    (∃ m69 : Option Nat, w61.cell? (a68.add 1) = some (.map m69) ∧
    (∃ mm70, MapR false 1 w61 m69 mm70 ∧ ∃ x71 : Int, (assoc mm70 [x60]).getD (.int .i64 (0 : Int)) = (.int .i64 x71) ∧
    (cond (best == (-1 : Int)) (again (IntKind.i64.wrap (x66 + x71)) w61) (cond (decide ((IntKind.i64.wrap (x66 + x71)) < best)) (again (IntKind.i64.wrap (x66 + x71)) w61) (again best w61))))))))) (again best w61))))))))) w58)) := by
  have at9 : ∀ {w' : World} {j : Int} {x : Option Addr}, Blk w' b9 cs → cs[j.toNat]? = some (.pointer x) → w'.cell? ((⟨b9, 0, none⟩ : Addr).add (j.toNat * 1)) = some (.pointer x) := fun h h2 => by rw [addm, cell_blk h, Nat.zero_add, Nat.mul_one]; exact h2
  have hf : f v = -1 ∨ f v ≠ -1 := Classical.em _
  refine ⟨hk0.1, hk0.2, _, at9 hB9 hc, ?_⟩
  refine step_ok P e0 hr hF hv hn hl hb hcall fun w61 F1 L1 e61 c61 f61 P61 => ?_
  have B61 : Blk w61 b9 cs := c61.blk hB9 fun h => h.elim n9.1 n9.2
  have P61' : PSr w61 b' n f' o' fv' q' r' F' L' := P'.chg c61 (fun h => h.elim n1.1 n1.2) (fun h => h.elim n2.1 n2.2) fun k hk h => h.elim (n3 k hk).1 (n3 k hk).2
  have z61 := c61.size
  have yes : (0 ≤ f' v ∧ (best < 0 ∨ o v + f' v < best)) → again (o v + f' v) w61 := fun h => by
    have := hk w61 F1 L1 e61 z61 f61 B61 P61 P61'
    unfold bstF setF at this
    rw [up1_at, if_pos ⟨hv.2.1, h⟩] at this; exact this
  have no : ¬ (0 ≤ f' v ∧ (best < 0 ∨ o v + f' v < best)) → again best w61 := fun h => by
    have := hk w61 F1 L1 e61 z61 f61 B61 P61 P61'
    unfold bstF setF at this
    rw [up1_at, if_neg fun q => h q.2] at this; exact this
  obtain ⟨mm', M', H'⟩ := P61'.mp
  obtain ⟨mm, M, H⟩ := P61.mp
  refine ⟨hk1.1, hk1.2, _, at9 B61 hc', _, rfl, _, P61'.c1, mm', M', ?_⟩
  rw [H'.at hv.1]
  by_cases hg : 0 ≤ f' v
  · rw [if_pos hg]
    refine ⟨_, rfl, ?_⟩
    rw [Option.isSome_some, cond_true]
    refine ⟨hk0.1, hk0.2, _, at9 B61 hc, _, rfl, _, P61.c1, mm, M, ?_⟩
    rw [H.at hv.1]
    have e1 : setF f o v v = o v := up1_at
    rw [e1, if_pos hv.2.1]
    refine ⟨_, rfl, ?_⟩
    rw [hsum hg, Int.add_comm]
    rcases hbest with rfl | hbest
    · rw [show ((-1 : Int) == -1) = true from rfl, cond_true]
      exact yes ⟨hg, .inl (by decide)⟩
    · rw [show (best == -1) = false by rw [beq_eq_false_iff_ne]; omega, cond_false, Bool.cond_decide]
      split
      · rename_i h; exact yes ⟨hg, .inr h⟩
      · rename_i h; exact no fun q => by rcases q.2 with q | q <;> omega
  · rw [if_neg hg]
    refine ⟨_, rfl, ?_⟩
    rw [Option.isSome_none, cond_false]
    exact no fun q => hg q.1
end
end Go.Sh

/- The program's Look. -/
set_option maxRecDepth 100000
namespace Go.Sh
open Go.RowKit

/-- What is known of the searches' function values. -/
structure LookCV (CV : CVT) : Prop where
  up : ∀ h v K w, sh_hier_Hier_Up h v (fun s w' => K (.slice s.a s.len s.cap) w') w → CV (.func (.func fn_hier_Hier_Up) #[.pointer h] #[]) [.int .i64 v] K w
  dn : ∀ h v K w, sh_hier_Hier_Down h v (fun s w' => K (.slice s.a s.len s.cap) w') w → CV (.func (.func fn_hier_Hier_Down) #[.pointer h] #[]) [.int .i64 v] K w

structure PSg where
  q : Option Addr
  r : Nat
  F : Nat → Prop
  L : List (Int × Int)
def upB (p : Option Addr) : Value := .func (.func fn_hier_Hier_Up) #[.pointer p] #[]
def dnB (p : Option Addr) : Value := .func (.func fn_hier_Hier_Down) #[.pointer p] #[]
/-- Both searches in memory. -/
structure LSt (p : Option Addr) (w w11 w' : World) (b5 b7 b9 n : Nat) (x : BS) (A B : PSg) : Prop where
  e : Ext w w'
  z : w11.heap.size ≤ w'.heap.size
  b9 : Blk w' b9 (nArr b5 b7)
  sA : PSr w' b5 n x.fa x.oa (upB p) A.q A.r A.F A.L
  sB : PSr w' b7 n x.fb x.ob (dnB p) B.q B.r B.F B.L
  rA : w11.heap.size ≤ A.r
  rB : w11.heap.size ≤ B.r
  fA : ∀ k, A.F k → w11.heap.size ≤ k
  fB : ∀ k, B.F k → w11.heap.size ≤ k
  d1 : A.r ≠ B.r
  d2 : ¬ A.F B.r
  d3 : ¬ B.F A.r
  d4 : ∀ k, A.F k → ¬ B.F k
theorem LSt.ext {p : Option Addr} {w w11 w' w'' : World} {b5 b7 b9 n : Nat} {x : BS} {A B : PSg} (h : LSt p w w11 w' b5 b7 b9 n x A B) (e : Ext w' w'') : LSt p w w11 w'' b5 b7 b9 n x A B :=
  ⟨h.e.trans e, Nat.le_trans h.z e.size, e.blkE h.b9, h.sA.ext e, h.sB.ext e, h.rA, h.rB, h.fA, h.fB, h.d1, h.d2, h.d3, h.d4⟩

section
variable {CV : CVT} {w : World} {p : Option Addr} {rank : List Int} {ways : List Wy} {FH : Nat → Prop}
theorem Look_ok (hcv : LookCV CV) {s t : Int} {K : Int → Int → World → Prop} (hH : HierA w p rank ways FH) (fit : FitH rank ways)
    (hno : ¬ (0 ≤ s ∧ s < rank.length ∧ 0 ≤ t ∧ t < rank.length) → K (-1) 0 w)
    (hk : ∀ (a b : Nat) (x : BS) (w' : World), s = a → t = b → a < rank.length → b < rank.length → Ext w w' → BRun rank.length (eA rank ways) (eB rank ways) (BS.start a b) x → BStop rank.length x → K x.best x.steps w') : sh_query_Look CV p s t K w := by
  have hn := fit.n
  unfold sh_query_Look
  refine Rank_ok hH ?_
  rw [Bool.cond_decide]; split
  · rename_i h; rw [rankF_neg hH.ok] at h; exact hno fun q => h ⟨q.1, q.2.1⟩
  rename_i h1
  rw [rankF_neg hH.ok, Classical.not_not] at h1
  refine Rank_ok hH ?_
  rw [Bool.cond_decide]; split
  · rename_i h; rw [rankF_neg hH.ok] at h; exact hno fun q => h q.2.2
  rename_i h2
  rw [rankF_neg hH.ok, Classical.not_not] at h2
  obtain ⟨a, rfl⟩ := Int.eq_ofNat_of_zero_le h1.1
  obtain ⟨b, rfl⟩ := Int.eq_ofNat_of_zero_le h2.1
  have ha : a < rank.length := by omega
  have hb : b < rank.length := by omega
  intro b5 w6 e6 g5 g5' b7 w8 e8 g7 g7' h5 h7 b9 w10 e10 g9 g9' w11 o11 h9
  have z6 := e6.size; have z8 := e8.size; have z10 := e10.size; have z11 := o11.size
  have e11 : Ext w w11 := ext_off ((e6.trans e8).trans e10) o11 (by omega)
  have H5 : Blk w11 b5 [.pointer none, .map none, upB p] := (e10.blkE h5).off o11 (by omega)
  have H7 : Blk w11 b7 [.pointer none, .map none, dnB p] := (e10.blkE h7).off o11 (by omega)
  have n57 : b5 ≠ b7 := by omega
  have n59 : b5 ≠ b9 := by omega
  have n79 : b7 ≠ b9 := by omega
  have l5 : b5 < w11.heap.size := by omega
  have l7 : b7 < w11.heap.size := by omega
  have l9 : b9 < w11.heap.size := by omega
  have h9 : Blk w11 b9 (nArr b5 b7) := h9
  refine Join.cut (fun _ w' => ∃ A B, LSt p w w11 w' b5 b7 b9 rank.length (BS.start a b) A B) (fun J hJ => ?_) ?_
  · refine LoopT.gh (γ := Nat) (fun i (st : Int × Unit) w' => st.1 = i ∧ i ≤ 2 ∧ Ext w w' ∧ w11.heap.size ≤ w'.heap.size ∧ Blk w' b9 (nArr b5 b7) ∧ (i = 0 → Blk w' b5 [.pointer none, .map none, upB p] ∧ Blk w' b7 [.pointer none, .map none, dnB p]) ∧
      (i = 1 → ∃ A : PSg, PSr w' b5 rank.length (fun _ => -1) (up1 (fun _ => -1) a 0) (upB p) A.q A.r A.F A.L ∧ w11.heap.size ≤ A.r ∧ (∀ k, A.F k → w11.heap.size ≤ k) ∧ Blk w' b7 [.pointer none, .map none, dnB p]) ∧
      (i = 2 → ∃ A B, LSt p w w11 w' b5 b7 b9 rank.length (BS.start a b) A B)) (fun i => 2 - i) 0 ⟨rfl, by decide, e11, Nat.le_refl _, h9, fun _ => ⟨H5, H7⟩, fun h => absurd h (by decide), fun h => absurd h (by decide)⟩ ?_
    rintro i ⟨x, _⟩ w15 ⟨hx, hi, e15, z15, h9, i0, i1, i2⟩ J1 hJ1
    simp only at hx; subst hx
    dsimp only
    rw [Bool.cond_decide]
    by_cases hc : (i : Int) < 2
    · rw [if_pos hc]
      have hi01 : i = 0 ∨ i = 1 := by omega
      rcases hi01 with rfl | rfl
      · obtain ⟨q5, q7⟩ := i0 rfl
        refine ⟨by decide, by decide, (a : Int), rfl, ?_⟩
        refine lookInit_ok (cs := nArr b5 b7) (bk := b5) hH e15 (by omega) h9 rfl ⟨by decide, by decide⟩ q5 n59 (by omega) ha fun w41 q r F L c41 P hr hF => ?_
        have z41 := c41.size
        refine hJ1 1 _ _ ⟨by dsimp only; exact wsucc (m := 2 ^ 40) (by omega) (by omega), by decide, ext_chg e15 c41 fun k hk => by omega, by omega, c41.blk h9 fun h => n59 h.symm, fun h => absurd h (by decide), fun _ => ⟨⟨q, r, F, L⟩, P, by dsimp only; omega, fun k hk => by have := hF k hk; omega, c41.blk q7 fun h => n57 h.symm⟩, fun h => absurd h (by decide)⟩ (by decide)
      · obtain ⟨A, q5, hrA, hFA, q7⟩ := i1 rfl
        obtain ⟨_, lr5, lF5⟩ := q5.lt
        refine ⟨by decide, by decide, (b : Int), rfl, ?_⟩
        refine lookInit_ok (cs := nArr b5 b7) (bk := b7) hH e15 (by omega) h9 rfl ⟨by decide, by decide⟩ q7 n79 (by omega) hb fun w41 q r F L c41 P hr hF => ?_
        have z41 := c41.size
        have e41 : Ext w w41 := ext_chg e15 c41 fun k hk => by omega
        have h941 := c41.blk h9 fun h => n79 h.symm
        refine hJ1 2 _ _ ⟨by dsimp only; exact wsucc (m := 2 ^ 40) (by omega) (by omega), by decide, e41, by omega, h941, fun h => absurd h (by decide), fun h => absurd h (by decide), fun _ => ⟨A, ⟨q, r, F, L⟩, e41, by omega, h941, ?_, P, hrA, by dsimp only; omega, hFA, fun k hk => by have := hF k hk; omega, ?_, fun h => ?_, fun h => ?_, fun k k1 k2 => ?_⟩⟩ (by decide)
        · exact q5.chg c41 n57 (by omega) fun k hk => by have := hFA k hk; omega
        · dsimp only; omega
        · have := lF5 _ h; dsimp only at this; omega
        · have := hF _ h; omega
        · have := hF k k2; have := lF5 k k1; omega
    · rw [if_neg hc]
      exact hJ _ _ (i2 (by omega))
  rintro _ w43 ⟨A0, B0, hS0⟩
  have oka : EdOk rank.length 1125899906842624 (eA rank ways) := edS_ok fit
  have okb : EdOk rank.length 1125899906842624 (eB rank ways) := edS_ok fit
  refine Join.cut (fun (t : Int × Int × Unit) w' => K t.1 t.2.1 w') (fun J hJ => ?_) fun _ _ h => h
  refine LoopT.gh (γ := BS × PSg × PSg) (fun g st w' => st = (g.1.best, (g.1.steps : Int), ()) ∧ BRun rank.length (eA rank ways) (eB rank ways) (BS.start a b) g.1 ∧ LSt p w w11 w' b5 b7 b9 rank.length g.1 g.2.1 g.2.2) (fun g => 2 * rank.length - g.1.steps) (BS.start a b, A0, B0) ⟨rfl, .nil, hS0⟩ ?_
  rintro ⟨x, A, B⟩ st w47 ⟨rfl, hrun, hS⟩ J1 hJ1
  dsimp only at hrun hS ⊢
  have inv := (BInv.begin (n := rank.length) (ea := eA rank ways) (eb := eB rank ways) (M := 1125899906842624) ha hb (by decide)).run oka okb hrun
  have hbest : x.best = -1 ∨ 0 ≤ x.best := inv.best.imp (·.1) (·.1)
  have at0 : ∀ {w' : World}, Blk w' b9 (nArr b5 b7) → w'.cell? ((⟨b9, 0, none⟩ : Addr).add ((0 : Int).toNat * 1)) = some (.pointer (some ⟨b5, 0, none⟩)) := fun h => by rw [addm, cell_blk h]; rfl
  have at1 : ∀ {w' : World}, Blk w' b9 (nArr b5 b7) → w'.cell? ((⟨b9, 0, none⟩ : Addr).add ((1 : Int).toNat * 1)) = some (.pointer (some ⟨b7, 0, none⟩)) := fun h => by rw [addm, cell_blk h]; rfl
  have w10 : IntKind.i64.wrap ((1 : Int) - 0) = 1 := by decide
  have w11' : IntKind.i64.wrap ((1 : Int) - 1) = 0 := by decide
  have up : ∀ v : Nat, v < rank.length → upF rank ways (v : Int) = eA rank ways v := fun v hv => by
    have := edS_full (back := false) fit.ok hv
    rw [if_neg (by decide)] at this; exact this.symm
  have dn : ∀ v : Nat, v < rank.length → dnF rank ways (v : Int) = eB rank ways v := fun v hv => by
    have := edS_full (back := true) fit.ok hv
    rw [if_pos rfl] at this; exact this.symm
  have stp : ∀ {y : BS}, BStep rank.length (eA rank ways) (eB rank ways) x y → y.steps = x.steps + 1 ∧ x.steps < 2 * rank.length := fun {y} h => by
    have inv' := inv.step oka okb h
    have h1 := h.steps
    have := inv'.st; have := cntR_le y.fa rank.length; have := cntR_le y.fb rank.length
    omega
  have hw : ∀ {y : BS}, BStep rank.length (eA rank ways) (eB rank ways) x y → IntKind.i64.wrap ((x.steps : Int) + 1) = (y.steps : Int) := fun {y} h => by
    obtain ⟨q1, q2⟩ := stp h
    rw [q1]; exact wsucc (m := 2 ^ 40) (by omega) (by omega)
  refine ⟨by decide, by decide, _, at0 hS.b9, ?_⟩
  refine first_ok hS.sA hbest fun d1 t1 w51 e51 hp => ?_
  have hS51 := hS.ext e51
  refine ⟨by decide, by decide, _, at1 hS51.b9, ?_⟩
  refine first_ok hS51.sB hbest fun d2 t2 w55 e55 hq => ?_
  have hS55 := hS51.ext e55
  have z55 := hS55.z
  obtain ⟨lA1, lA2, lA3⟩ := hS55.sA.lt
  obtain ⟨lB1, lB2, lB3⟩ := hS55.sB.lt
  refine Join.cut (fun (k : Int × Unit) w' => w' = w55 ∧ ((k.1 = 0 ∧ ∃ v, Avl rank.length x.oa x.best v ∧ ∀ u, Avl rank.length x.ob x.best u → x.oa v ≤ x.ob u) ∨ (k.1 = 1 ∧ ∃ v, Avl rank.length x.ob x.best v ∧ ∀ u, Avl rank.length x.oa x.best u → x.ob v < x.oa u))) (fun J6 hJ6 => ?_) ?_
  · rcases hp with ⟨rfl, v, hv, rfl⟩ | ⟨rfl, hpn⟩ <;> rcases hq with ⟨rfl, u, hu, rfl⟩ | ⟨rfl, hqn⟩
    · simp only [Bool.not_true, cond_false, cond_true]
      rw [Bool.cond_decide]; split
      · rename_i hlt
        exact hJ6 _ _ ⟨rfl, .inr ⟨rfl, u, hu, fun v' hv' => by rw [hv'.uniq hv]; exact hlt⟩⟩
      · rename_i hlt
        exact hJ6 _ _ ⟨rfl, .inl ⟨rfl, v, hv, fun u' hu' => by rw [hu'.uniq hu]; omega⟩⟩
    · simp only [Bool.not_true, cond_false]
      exact hJ6 _ _ ⟨rfl, .inl ⟨rfl, v, hv, fun u' hu' => absurd hu' (hqn u')⟩⟩
    · simp only [Bool.not_true, Bool.not_false, cond_false, cond_true]
      exact hJ6 _ _ ⟨rfl, .inr ⟨rfl, u, hu, fun v' hv' => absurd hv' (hpn v')⟩⟩
    · simp only [Bool.not_false, cond_true]
      exact hJ _ _ (hk a b x w55 rfl rfl ha hb hS55.e hrun ⟨hpn, hqn⟩)
  · rintro ⟨k, _⟩ w58 ⟨rfl, hk⟩
    simp only at hk
    rcases hk with ⟨rfl, v, hv, hle⟩ | ⟨rfl, v, hv, hle⟩
    · have st := BStep.a (ea := eA rank ways) (eb := eB rank ways) hv hle
      have hst := stp st
      dsimp only
      rw [hw st]
      have hsum : 0 ≤ x.fb v → IntKind.i64.wrap (x.fb v + x.oa v) = x.fb v + x.oa v := fun h0 => by
        have q1 : x.oa v < 2 ^ 62 := inv.a.lo oka hv.1.1
        have q2 : x.fb v < 2 ^ 62 := inv.b.lf okb hv.1.1
        have := hv.1.2.1
        exact w64 (by omega) (by omega)
      refine lookStep_ok (cs := nArr b5 b7) (b := b5) (b' := b7) (again := fun y => J1 (y, ((x.goA (eA rank ways) v).steps : Int), ())) (ed := eA rank ways v) hS55.b9 rfl (by rw [w10]; rfl) ⟨by decide, by decide⟩ (by rw [w10]; exact ⟨by decide, by decide⟩) hS55.sA hS55.sB ⟨by have := hS55.rA; omega, fun h => by have := hS55.fA _ h; omega⟩ ⟨by have := hS55.rA; omega, fun h => by have := hS55.fA _ h; omega⟩
        ⟨Ne.symm hS55.d1, hS55.d2⟩ (fun k hk => ⟨fun e => hS55.d3 (e ▸ hk), fun h => hS55.d4 k h hk⟩) hS55.e (by have := hS55.rA; have := e11.size; omega) (fun k hk => by have := hS55.fA k hk; have := e11.size; omega) hv.1 (by omega) hbest (oka.l v hv.1.1) (fun e he => ?_) hsum
        (fun w1 e1 K' hK' => hcv.up p _ _ _ (Up_ok (hH.ext e1) fun t w'' e h f => hK' t w'' e (by rw [up v hv.1.1] at h; exact h) f)) fun w' F1 L1 e' z' f1 k9 kA kB => ?_
      · obtain ⟨q0, q1, q2, q3⟩ := oka.e v hv.1.1 e he
        have q4 : x.oa v < 2 ^ 62 := inv.a.lo oka hv.1.1
        have := hv.1.2.1
        exact ⟨q0, q1, w64 (by omega) (by omega), by omega⟩
      · refine hJ1 (x.goA (eA rank ways) v, ⟨A.q, A.r, F1, L1⟩, B) _ w' ⟨rfl, hrun.snoc st, ⟨e', by omega, k9, kA, kB, hS55.rA, hS55.rB, fun k hk => ?_, hS55.fB, hS55.d1, fun h => ?_, hS55.d3, fun k h1 h2 => ?_⟩⟩ (by dsimp only; omega)
        · rcases f1 k hk with h | h
          · exact hS55.fA k h
          · omega
        · rcases f1 _ h with h | h
          · exact hS55.d2 h
          · exact absurd (Nat.lt_of_lt_of_le lB2 h) (Nat.lt_irrefl _)
        · rcases f1 _ h1 with h | h
          · exact hS55.d4 k h h2
          · have := lB3 k h2; omega
    · have st := BStep.b (ea := eA rank ways) (eb := eB rank ways) hv hle
      have hst := stp st
      dsimp only
      rw [hw st]
      have hsum : 0 ≤ x.fa v → IntKind.i64.wrap (x.fa v + x.ob v) = x.fa v + x.ob v := fun h0 => by
        have q1 : x.ob v < 2 ^ 62 := inv.b.lo okb hv.1.1
        have q2 : x.fa v < 2 ^ 62 := inv.a.lf oka hv.1.1
        have := hv.1.2.1
        exact w64 (by omega) (by omega)
      refine lookStep_ok (cs := nArr b5 b7) (b := b7) (b' := b5) (again := fun y => J1 (y, ((x.goB (eB rank ways) v).steps : Int), ())) (ed := eB rank ways v) hS55.b9 rfl (by rw [w11']; rfl) ⟨by decide, by decide⟩ (by rw [w11']; exact ⟨by decide, by decide⟩) hS55.sB hS55.sA ⟨by have := hS55.rB; omega, fun h => by have := hS55.fB _ h; omega⟩ ⟨by have := hS55.rB; omega, fun h => by have := hS55.fB _ h; omega⟩
        ⟨hS55.d1, hS55.d3⟩ (fun k hk => ⟨fun e => hS55.d2 (e ▸ hk), fun h => hS55.d4 k hk h⟩) hS55.e (by have := hS55.rB; have := e11.size; omega) (fun k hk => by have := hS55.fB k hk; have := e11.size; omega) hv.1 (by omega) hbest (okb.l v hv.1.1) (fun e he => ?_) hsum
        (fun w1 e1 K' hK' => hcv.dn p _ _ _ (Down_ok (hH.ext e1) fun t w'' e h f => hK' t w'' e (by rw [dn v hv.1.1] at h; exact h) f)) fun w' F1 L1 e' z' f1 k9 kB kA => ?_
      · obtain ⟨q0, q1, q2, q3⟩ := okb.e v hv.1.1 e he
        have q4 : x.ob v < 2 ^ 62 := inv.b.lo okb hv.1.1
        have := hv.1.2.1
        exact ⟨q0, q1, w64 (by omega) (by omega), by omega⟩
      · rw [bstF_comm]
        refine hJ1 (x.goB (eB rank ways) v, A, ⟨B.q, B.r, F1, L1⟩) _ w' ⟨rfl, hrun.snoc st, ⟨e', by omega, k9, kA, kB, hS55.rA, hS55.rB, hS55.fA, fun k hk => ?_, hS55.d1, hS55.d2, fun h => ?_, fun k h1 h2 => ?_⟩⟩ (by dsimp only; omega)
        · rcases f1 k hk with h | h
          · exact hS55.fB k h
          · omega
        · rcases f1 _ h with h | h
          · exact hS55.d3 h
          · exact absurd (Nat.lt_of_lt_of_le lA2 h) (Nat.lt_irrefl _)
        · rcases f1 _ h2 with h | h
          · exact hS55.d4 k h1 h
          · have := lA3 k h1; omega
end
end Go.Sh

/- Tables; QueryMany, QueryTables. -/
set_option maxRecDepth 100000
namespace Go.Sh
open Go.RowKit

section
variable {w0 w w' : World} {s : SV} {svs : List SV} {L : List (List Int)}
end

section
variable {CV : CVT} {w : World} {p : Option Addr} {rank : List Int} {ways : List Wy} {F : Nat → Prop} {sr sy : SV}
end
end Go.Sh

/- QueryTables. -/
set_option maxRecDepth 100000
namespace Go.Sh
open Go.RowKit

section
variable {CV : CVT} {w : World} {p : Option Addr} {rank : List Int} {ways : List Wy} {F : Nat → Prop} {sr sy : SV}

end
end Go.Sh

/- The reference's answers out of the table; what is known. -/
set_option maxRecDepth 100000
namespace Go.Sh
open Go.RowKit

section
variable {CV : CVT} {w : World} {N : Int} {s : SV} {arcs : List Arc}

section
variable {t : SV} {svs : List SV} {n : Nat}
end

end
end Go.Sh

/- How far it is, and how both searches go: the laws. -/
set_option maxRecDepth 100000
namespace Go.Sh
open Go.RowKit

structure QueryCV (CV : CVT) : Prop where
  sp : SpaceCV CV
  lk : LookCV CV

/-- What Look tells. -/
def LookAt (rank : List Int) (ways : List Wy) (s t : Int) (x : BS) : Prop := ∃ a b : Nat, s = a ∧ t = b ∧ a < rank.length ∧ b < rank.length ∧ BRun rank.length (eA rank ways) (eB rank ways) (BS.start a b) x ∧ BStop rank.length x
noncomputable def lookF (rank : List Int) (ways : List Wy) (s t : Int) : Int × Int := by
  classical exact if h : ∃ x, LookAt rank ways s t x then (h.choose.best, (h.choose.steps : Int)) else (-1, 0)

section
variable {CV : CVT} {w : World} {p : Option Addr} {rank : List Int} {ways : List Wy} {FH : Nat → Prop} {sr sy : SV}
theorem lookF_of {s t : Int} {x : BS} (h : LookAt rank ways s t x) : lookF rank ways s t = (x.best, (x.steps : Int)) := by
  unfold lookF
  have hx : ∃ x, LookAt rank ways s t x := ⟨x, h⟩
  rw [dif_pos hx]
  obtain ⟨a, b, rfl, rfl, _, _, h3, h4⟩ := hx.choose_spec
  obtain ⟨a', b', e1, e2, _, _, k3, k4⟩ := h
  have e1 : a = a' := by omega
  have e2 : b = b' := by omega
  subst e1 e2
  rw [BRun.end_ _ h3 h4 k3 k4 (Nat.le_refl _)]
theorem lookF_no {s t : Int} (h : ¬ (0 ≤ s ∧ s < rank.length ∧ 0 ≤ t ∧ t < rank.length)) : lookF rank ways s t = (-1, 0) := by
  unfold lookF
  rw [dif_neg]
  rintro ⟨x, a, b, rfl, rfl, h1, h2, _⟩
  exact h ⟨by omega, by omega, by omega, by omega⟩
theorem Look_at (hcv : LookCV CV) {s t : Int} {K : Int → Int → World → Prop} (hH : HierA w p rank ways FH) (fit : FitH rank ways)
    (hk : ∀ w', Ext w w' → ((0 ≤ s ∧ s < rank.length ∧ 0 ≤ t ∧ t < rank.length) → ∃ x, LookAt rank ways s t x) → K (lookF rank ways s t).1 (lookF rank ways s t).2 w') : sh_query_Look CV p s t K w := by
  refine Look_ok hcv hH fit (fun hno => ?_) fun a b x w' e1 e2 ha hb e hr hS => ?_
  · have := hk w (.refl _) fun h => absurd h hno
    rw [lookF_no hno] at this; exact this
  · have h : LookAt rank ways s t x := ⟨a, b, e1, e2, ha, hb, hr, hS⟩
    have := hk w' e fun _ => ⟨x, h⟩
    rw [lookF_of h] at this; exact this
theorem look_in (fit : FitH rank ways) {s t : Int} {x : BS} (h : LookAt rank ways s t x) : (lookF rank ways s t).1 = (whereF rank ways s t).1 ∧ 1 ≤ (lookF rank ways s t).2 ∧ (lookF rank ways s t).2 ≤ ((fwdL rank ways s).length : Int) + (bckL rank ways t).length := by
  rw [lookF_of h]
  obtain ⟨a, b, rfl, rfl, ha, hb, hr, hS⟩ := h
  have inv := (BInv.begin (n := rank.length) (ea := eA rank ways) (eb := eB rank ways) (M := 1125899906842624) ha hb (by decide)).run (edS_ok fit) (edS_ok fit) hr
  obtain ⟨q1, q2⟩ := look_steps fit ha hb inv hS
  exact ⟨look_far fit ha hb inv hS, by simp only; omega, by simp only; omega⟩

end
end Go.Sh

/- Of any map's hierarchy it is as far as in the map. -/
set_option maxRecDepth 100000
namespace Go.Sh
open Go.RowKit

section
variable {CV : CVT} {w : World}
theorem QueryExact_ok (hcv : QueryCV CV) {n0 a0 : Int} {s : SV} {arcs0 : List Arc} {K : Bool → World → Prop} (h : View RD w s arcs0) (ha : 0 ≤ a0 ∧ a0 < 256) (hk : ∀ w', Ext w w' → K true w') : sh_postroadlaw12_QueryExact CV n0 s a0 K w := by
  unfold sh_postroadlaw12_QueryExact
  refine Of07_ok h fun x1 s2 w3 arcs e3 h1 h12 ok _ hA fA => ?_
  intro b4 w5 e5 g4 g4' w6 o6
  have z3 := e3.size; have z5 := e5.size; have z6 := o6.size
  have e36 : Ext w3 w6 := ext_off e5 o6 g4
  obtain ⟨n, rfl⟩ := Int.eq_ofNat_of_zero_le (show 0 ≤ x1 by omega)
  refine Of9_ok (hA.ext e36).view ok (by omega) fun s7 s8 w9 rank ways e9 hR hW fR fW dRW hM => ⟨kp1 e9 (by omega), ?_⟩
  have z9 := e9.size
  have e09 := (e3.trans e36).trans e9
  have hok := hM.ok
  have fit := hM.fit (by omega)
  have hrn := hM.n
  refine HNew_ok hR.view hW.view (by have := hok.n; omega) (by have := hok.k; omega) (fun _ p w11 F e11 hH hF => ⟨kp1 e11 (by omega), ?_⟩) fun hno => absurd hok hno
  have z11 := e11.size
  have e011 := e09.trans e11
  refine rAll_ok ok (by omega) ((hA.ext e36).ext (e9.trans e11)).view fun s12 svs w13 e13 hT fT fS => ⟨kp1 e13 (by omega), ?_⟩
  have z13 := e13.size
  have e013 := e011.trans e13
  rw [if_neg (by omega)]
  obtain ⟨u, hu, hue⟩ : ∃ v : Nat, v < n ∧ (IntKind.i64.wrap a0).tmod (n : Int) = (v : Int) := by
    have : 0 ≤ (IntKind.i64.wrap a0).tmod (n : Int) ∧ (IntKind.i64.wrap a0).tmod (n : Int) < n := by
      rw [w64 (by omega) (by omega), Int.tmod_eq_emod_of_nonneg ha.1]
      exact ⟨Int.emod_nonneg _ (by omega), Int.emod_lt_of_pos _ (by omega)⟩
    obtain ⟨v, hv⟩ := Int.eq_ofNat_of_zero_le this.1
    exact ⟨v, by omega, hv⟩
  rw [hue]
  have hlen : svs.length = n := by rw [hT.len, allL_len]
  have rd2 : ∀ {w' : World} (_ : Ext w13 w') {a b : Nat} (_ : a < n) (_ : b < n) {K : Addr → SV → Addr → Int → Prop}, (∀ x s y, w'.cell? x = some (.slice s.a s.len s.cap) → w'.cell? y = some (.int .i64 (dst arcs a b)) → K x s y (dst arcs a b)) →
      Idx s12.a s12.len (a : Int) 1 (fun x => ∃ s : SV, w'.cell? x = some (.slice s.a s.len s.cap) ∧ Idx s.a s.len (b : Int) 1 (fun y => ∃ z : Int, w'.cell? y = some (.int .i64 z) ∧ K x s y z)) := fun {w'} e {a b} ha hb {K} hK => by
    refine slot_idx (hT.ext e).so.view (i := a) (by omega) fun x hx => ⟨svs[a], hx, ?_⟩
    have hrow := (hT.ext e).row a (by omega) (by rw [allL_len]; exact ha)
    rw [allL_get, distL_get (by omega), Int.toNat_natCast, Int.toNat_natCast] at hrow
    exact fi_rd hrow.view hb fun y hy => ⟨_, hy, hK x _ y hx hy⟩
  have far : ∀ {a b : Nat}, a < n → b < n → (whereF rank ways (a : Int) (b : Int)).1 = dst arcs a b := fun {a b} ha hb => far_dst ok hM (by omega) ha hb
  have look : ∀ {a b : Nat}, a < n → b < n → ((0 ≤ (a : Int) ∧ (a : Int) < rank.length ∧ 0 ≤ (b : Int) ∧ (b : Int) < rank.length) → ∃ x, LookAt rank ways (a : Int) (b : Int) x) → (lookF rank ways (a : Int) (b : Int)).1 = dst arcs a b := fun {a b} ha hb hl => by
    obtain ⟨x, hx⟩ := hl ⟨by omega, by omega, by omega, by omega⟩
    rw [(look_in fit hx).1, far ha hb]
  refine Join.cut (fun (t : SV × Unit) w' => Ext w13 w' ∧ Own RI w' t.1 (fi n fun v => (v : Int))) (fun J hJ => ?_) ?_
  · refine LoopT.gh (γ := Nat) (fun i (st : SV × Int × Unit) w' => st.2.1 = i ∧ i ≤ n ∧ Ext w13 w' ∧ Fsh w13 st.1 ∧ Own RI w' st.1 (fi i fun v => (v : Int))) (fun i => n - i) 0 ⟨rfl, Nat.zero_le _, .refl _, fsh_nil, Own.nil⟩ ?_
    rintro i ⟨ts, x, _⟩ w17 ⟨hx, hi, e17, f17, o17⟩ J1 hJ1
    simp only at hx; subst hx
    dsimp only at f17 o17 ⊢
    have z17 := e17.size
    rw [Bool.cond_decide]
    by_cases hc : (i : Int) < (n : Int)
    · rw [if_pos hc]
      have hin : i < n := by omega
      refine push_ok (R := RI) (x := (i : Int)) o17 (by rw [fi_len]; omega) (by rw [fi_len]; omega) fun w19 s20 w21 e19 c21 hs20 o21 => ?_
      have z19 := e19.size; have z21 := c21.size
      have f20 : Fsh w13 s20 := fun k hk => by
        rcases hs20 k hk with h' | h'
        · exact f17 k h'
        · omega
      have e21 : Ext w13 w21 := ext_chg (e17.trans e19) c21 f17
      refine ⟨kc1 c21 (by omega) fun hk => by have := f17 _ hk; omega, ?_⟩
      refine Look_at hcv.lk (hH.ext (e13.trans e21)) fit fun w24 e24 hlk => ⟨kp1 e24 (by omega), ?_⟩
      have z24 := e24.size
      rw [look hu hin hlk]
      have e24' := e21.trans e24
      refine rd2 e24' hu hin fun a25 s26 a28 c25 c28 w32 e32 => ?_
      have z32 := e32.size
      refine Far_ok hcv.sp (hH.ext (e13.trans (e24'.trans e32))) fit fun w33 e33 => ⟨kp1 e33 (by omega), ⟨_, (e32.trans e33).cell c28, rfl⟩, ⟨_, (e32.trans e33).cell c25, rfl⟩, ?_⟩
      have z33 := e33.size
      rw [far hu hin, bne_self_eq_false, cond_false]
      have e33' := e24'.trans (e32.trans e33)
      refine rd2 e33' hu hin fun a35 s36 a37 c35 c37 => ?_
      rw [bne_self_eq_false, cond_false]
      refine rd2 e33' hin hu fun a40 s41 a43 c40 c43 w47 e47 => ?_
      have z47 := e47.size
      refine Far_ok hcv.sp (hH.ext (e13.trans (e33'.trans e47))) fit fun w48 e48 => ⟨kp1 e48 (by omega), ⟨_, (e47.trans e48).cell c43, rfl⟩, ⟨_, (e47.trans e48).cell c40, rfl⟩, fun w49 e49 => ?_⟩
      rw [far hin hu, bne_self_eq_false, cond_false]
      have e2149 := (e24.trans (e32.trans e33)).trans (e47.trans (e48.trans e49))
      refine hJ1 (i + 1) _ _ ⟨wsucc (m := 2 ^ 40) (by omega) (by omega), by omega, e21.trans e2149, f20, ?_⟩ (by omega)
      dsimp only
      rw [fi_succ]
      exact o21.ext e2149
    · rw [if_neg hc]
      have : i = n := by omega
      subst this
      exact hJ _ _ ⟨e17, o17⟩
  · rintro ⟨ts, _⟩ w51 ⟨e51, o51⟩
    have z51 := e51.size
    dsimp only at o51 ⊢
    refine slot_idx (hT.ext e51).so.view (i := u) (by omega) fun a52 c52 => ⟨svs[u], c52, fun w56 e56 => ?_⟩
    have z56 := e56.size
    have e1356 := e51.trans e56
    refine Many_ok hcv.sp (hH.ext (e13.trans e1356)) fit (o51.ext e56).view (by rw [fi_len]; omega) fun s55 w57 e57 h55 _ => ⟨kp1 e57 (by omega), ⟨_, (e56.trans e57).cell c52, rfl⟩, ?_⟩
    have z57 := e57.size
    have hrow := (hT.ext (e1356.trans e57)).row u (by omega) (by rw [allL_len]; exact hu)
    rw [allL_get, distL_get (by omega), Int.toNat_natCast, Int.toNat_natCast] at hrow
    have hmany : manyL rank ways (u : Int) (fi n fun v => (v : Int)) = fi n fun v => dst arcs u v := by
      unfold manyL
      rw [fi_len]
      refine fi_congr fun j hj => ?_
      rw [List.getD_eq_getElem?_getD, List.getElem?_eq_getElem (by rw [fi_len]; exact hj), fi_get, Option.getD_some, far hu hj]
    rw [hmany] at h55
    refine sameI_quiet h55.view hrow.view (by rw [fi_len]; omega) ?_
    rw [cond_true]
    intro w63 e63
    have z63 := e63.size
    exact known12_ok hcv.sp fun w64 e64 => ⟨kp1 e64 (by omega), fun w65 e65 => hk w65 (((e013.trans e1356).trans (e57.trans e63)).trans (e64.trans e65))⟩
end
end Go.Sh
