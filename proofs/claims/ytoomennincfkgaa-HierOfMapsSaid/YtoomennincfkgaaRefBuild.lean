/- The reference hierarchy of a map. -/
import Derived.Test.YtoomennincfkgaaRefTake
set_option maxRecDepth 100000
namespace Go.Sh
open Go.RowKit

theorem kept_ex {N : Int} {arcs : List Arc} (ok : OkMap N arcs) : ∀ (m k : Nat), (wtA arcs k).toNat * arcs.length + k = m → k < arcs.length → frA arcs k ≠ toA arcs k → ∃ j, j < arcs.length ∧ Kept arcs j ∧ Same arcs j k ∧ wtA arcs j ≤ wtA arcs k := by
  intro m
  induction m using Nat.strongRecOn with
  | ind m ih =>
    intro k hm hk hne
    by_cases h : Kept arcs k
    · exact ⟨k, hk, h, .refl _ _, Int.le_refl _⟩
    · have : ∃ i, i < arcs.length ∧ Same arcs i k ∧ Less arcs i k := by
        apply Classical.byContradiction
        intro hno
        exact h ⟨hne, fun i hi hs hl => hno ⟨i, hi, hs, hl⟩⟩
      obtain ⟨i, hi, hs, hl⟩ := this
      have wi : 0 ≤ wtA arcs i := (ok.at hi).2.2.2.2.1
      have wk : 0 ≤ wtA arcs k := (ok.at hk).2.2.2.2.1
      have hlt : (wtA arcs i).toNat * arcs.length + i < m := by
        rcases hl with h1 | ⟨h1, h2⟩
        · have := Nat.mul_le_mul_right arcs.length (show (wtA arcs i).toNat + 1 ≤ (wtA arcs k).toNat by omega)
          rw [Nat.succ_mul] at this; omega
        · rw [h1]; omega
      obtain ⟨j, j1, j2, j3, j4⟩ := ih _ hlt i rfl hi (by rw [hs.1, hs.2]; exact hne)
      refine ⟨j, j1, j2, j3.trans hs, ?_⟩
      rcases hl with h1 | ⟨h1, _⟩ <;> omega

def BB (k : Nat) : Int := ((2147483648 * 2 ^ k : Nat) : Int)
theorem BB_succ (k : Nat) : 2 * BB k = BB (k + 1) := by unfold BB; rw [Nat.pow_succ]; omega
theorem BB_le {k : Nat} (h : k ≤ 12) : BB k ≤ 8796093022208 := by
  unfold BB
  have := Nat.pow_le_pow_right (n := 2) (by decide) h
  omega
theorem BB_nn (k : Nat) : 0 ≤ BB k := by unfold BB; omega

theorem EA_arc {N : Int} {arcs : List Arc} {u v : Nat} {x : Int} (h : EA arcs u v x) (ok : OkMap N arcs) : ∃ k, k < arcs.length ∧ arcA arcs k = ((u : Int), (v : Int), x) ∧ frA arcs k = u ∧ toA arcs k = v ∧ wtA arcs k = x := by
  obtain ⟨k, hk⟩ := h
  obtain ⟨h1, h2⟩ := List.getElem?_eq_some_iff.1 hk
  rw [arcA_get h1] at h2
  exact ⟨k, h1, h2, by unfold frA; rw [h2]; exact Int.toNat_natCast u, by unfold toA; rw [h2]; exact Int.toNat_natCast v, by unfold wtA; rw [h2]⟩

theorem begin8 {n : Nat} {arcs : List Arc} {L : List Wy} (ok : OkMap (n : Int) arcs) (hq : Uq L) (hm : ∀ y, y ∈ L ↔ ∃ k, k < arcs.length ∧ Kept arcs k ∧ y = wyK arcs k) : Ctr (EA arcs) arcs n 0 (BB 0) L [] (fun _ => (n : Int)) := by
  refine Ctr.begin (fun u v x h => ?_) (fun u v x h hu => ?_) hq (fun y hy => ?_) (fun y hy => ?_) (fun u v x h => ?_) fun u v x h hne hu => ?_
  · obtain ⟨k, hk, hA, _⟩ := EA_arc h ok
    have := (ok.at hk).2.2.2.2.1; rw [hA] at this; exact this
  · obtain ⟨k, hk, _, _, ht, _⟩ := EA_arc h ok
    have := ok.to hk; omega
  · obtain ⟨k, hk, hK, rfl⟩ := (hm y).1 hy
    have f := ok.fr hk; have t := ok.to hk; have a := ok.at hk
    refine ⟨⟨frA arcs k, by omega, f.1⟩, ⟨toA arcs k, by omega, t.1⟩, fun e => hK.1 ?_, a.2.2.2.2.1, ?_⟩
    · have e : (arcA arcs k).1 = (arcA arcs k).2.1 := e
      omega
    · have := a.2.2.2.2.2
      show (arcA arcs k).2.2 ≤ BB 0
      unfold BB; simpa using this
  · obtain ⟨k, hk, hK, rfl⟩ := (hm y).1 hy
    exact ⟨rfl, k, rfl, by rw [List.getElem?_eq_getElem hk, arcA_get hk]; rfl⟩
  · obtain ⟨y, hy, h1, h2, h3⟩ := h
    obtain ⟨k, hk, hK, rfl⟩ := (hm y).1 hy
    refine ⟨k, ?_⟩
    rw [List.getElem?_eq_getElem hk, arcA_get hk]
    have h1 : (arcA arcs k).1 = (u : Int) := h1
    have h2 : (arcA arcs k).2.1 = (v : Int) := h2
    have h3 : (arcA arcs k).2.2 = x := h3
    rw [← h1, ← h2, ← h3]
  · obtain ⟨k, hk, hA, hf, ht, hw⟩ := EA_arc h ok
    obtain ⟨j, j1, j2, j3, j4⟩ := kept_ex ok _ k rfl hk (by omega)
    have f := ok.fr j1; have t := ok.to j1
    exact ⟨wtA arcs j, by omega, wyK arcs j, (hm _).2 ⟨j, j1, j2, rfl⟩, by show (arcA arcs j).1 = _; rw [f.1, j3.1, hf], by show (arcA arcs j).2.1 = _; rw [t.1, j3.2, ht], rfl⟩

section
variable {E : Nat → Nat → Int → Prop} {arcs : List (Int × Int × Int)} {n k : Nat} {B : Int} {L H : List Wy} {r : Nat → Int}
theorem Ctr.left (h : Ctr E arcs n k B L H r) (hk : k < n) : ∃ v, v < n ∧ r v = n := by
  apply Classical.byContradiction
  intro hno
  have hno : ∀ v, v < n → 0 ≤ r v ∧ r v < k := fun v hv => (h.r1 v hv).elim (fun q => absurd ⟨v, hv, q⟩ hno) id
  have hnd : ((List.range n).map r).Nodup := by
    rw [List.nodup_iff_pairwise_ne, List.pairwise_map]
    refine List.Pairwise.imp_of_mem (fun {a c} ha hc hne e => ?_) List.pairwise_lt_range
    have := h.r2 a c (List.mem_range.1 ha) (List.mem_range.1 hc) e (hno a (List.mem_range.1 ha)).2
    omega
  have := sub_len _ ((List.range k).map fun (i : Nat) => (i : Int)) hnd fun x hx => by
    obtain ⟨v, hv, rfl⟩ := List.mem_map.1 hx
    have := hno v (List.mem_range.1 hv)
    rw [List.mem_map]
    exact ⟨(r v).toNat, List.mem_range.2 (by omega), by omega⟩
  simp only [List.length_map, List.length_range] at this
  omega
end

/-- The ways out of a place, as the code lays them. -/
def outW (L : List Wy) (v : Nat) (xs : List Int) : List Wy := xs.map fun c => ((v : Int), c, (wayF L v c).1, (wayF L v c).2.1, (wayF L v c).2.2.1)
def inW (L : List Wy) (v : Nat) (xs : List Int) : List Wy := xs.map fun c => (c, (v : Int), (wayF L c v).1, (wayF L c v).2.1, (wayF L c v).2.2.1)
theorem selL_nodup (p : Nat → Bool) (n : Nat) : (selL p n).Pairwise (· ≠ ·) := by
  unfold selL
  rw [List.pairwise_map]
  exact (List.Pairwise.filter _ List.pairwise_lt_range).imp fun h e => by omega
theorem outW_mem {L : List Wy} {n v : Nat} {M : Int} (hq : Uq L) (he : ∀ y ∈ L, Ends (fun u => u < n) M y) (y : Wy) : y ∈ outW L v (outsF L n v) ↔ y ∈ L ∧ yF y = (v : Int) := by
  unfold outW
  rw [List.mem_map]
  constructor
  · rintro ⟨x, hx, rfl⟩
    obtain ⟨c, hc, hF, rfl⟩ := mem_selL.1 hx
    obtain ⟨z, hz, z1, z2, z3⟩ := hasF_way hF
    rw [z3]
    have : ((v : Int), (c : Int), yW z, yM z, yA z) = z := by rw [← z1, ← z2]; rfl
    simp only [this]
    exact ⟨hz, z1⟩
  · rintro ⟨hy, h1⟩
    obtain ⟨_, ⟨c, hc, h2⟩, _⟩ := he y hy
    have hF := hasF_of hq hy h1 h2
    refine ⟨(c : Int), mem_selL.2 ⟨c, hc, hF, rfl⟩, ?_⟩
    obtain ⟨z, hz, z1, z2, z3⟩ := hasF_way hF
    have := hq.same hz hy (z1.trans h1.symm) (z2.trans h2.symm)
    subst this
    rw [z3, ← z1, ← z2]; rfl
theorem inW_mem {L : List Wy} {n v : Nat} {M : Int} (hq : Uq L) (he : ∀ y ∈ L, Ends (fun u => u < n) M y) (y : Wy) : y ∈ inW L v (insF L n v) ↔ y ∈ L ∧ yT y = (v : Int) := by
  unfold inW
  rw [List.mem_map]
  constructor
  · rintro ⟨x, hx, rfl⟩
    obtain ⟨c, hc, hF, rfl⟩ := mem_selL.1 hx
    obtain ⟨z, hz, z1, z2, z3⟩ := hasF_way hF
    rw [z3]
    have : ((c : Int), (v : Int), yW z, yM z, yA z) = z := by rw [← z1, ← z2]; rfl
    simp only [this]
    exact ⟨hz, z2⟩
  · rintro ⟨hy, h1⟩
    obtain ⟨⟨c, hc, h2⟩, _⟩ := he y hy
    have hF := hasF_of hq hy h2 h1
    refine ⟨(c : Int), mem_selL.2 ⟨c, hc, hF, rfl⟩, ?_⟩
    obtain ⟨z, hz, z1, z2, z3⟩ := hasF_way hF
    have := hq.same hz hy (z1.trans h2.symm) (z2.trans h1.symm)
    subst this
    rw [z3, ← z1, ← z2]; rfl
theorem outW_uq {L : List Wy} {v : Nat} {p : Nat → Bool} {n : Nat} : Uq (outW L v (selL p n)) := by
  unfold Uq outW
  rw [List.pairwise_map]
  exact (selL_nodup p n).imp fun h e => h e.2
theorem inW_uq {L : List Wy} {v : Nat} {p : Nat → Bool} {n : Nat} : Uq (inW L v (selL p n)) := by
  unfold Uq inW
  rw [List.pairwise_map]
  exact (selL_nodup p n).imp fun h e => h e.1

theorem Puts.ends {L N L1 : List Wy} {n v : Nat} {r : Nat → Int} {B : Int} (hP : Puts L N L1) (hN : ∀ y ∈ N, OfN L v y) (hL : ∀ y ∈ L, Ends (fun u => u < n ∧ r u = n) B y) (_hB : 0 ≤ B) : ∀ y ∈ L1, Ends (fun u => u < n ∧ r u = n) (2 * B) y := fun y hy => by
  rcases hP.o y hy with h | h
  · obtain ⟨h1, h2, h3, h4, h5⟩ := hL y h
    exact ⟨h1, h2, h3, h4, by omega⟩
  · obtain ⟨p, hp, q, hq, p1, _, _, q2, hw, _, _, hne⟩ := hN y h
    have a := hL p hp; have b := hL q hq
    exact ⟨by rw [← p1]; exact a.1, by rw [← q2]; exact b.2.1, hne, by have := a.2.2.2.1; have := b.2.2.2.1; omega, by have := a.2.2.2.2; have := b.2.2.2.2; omega⟩
theorem Ends.lt {n : Nat} {r : Nat → Int} {B : Int} {y : Wy} (h : Ends (fun u => u < n ∧ r u = n) B y) : Ends (fun u => u < n) B y := by
  obtain ⟨⟨a, a1, a2⟩, ⟨c, c1, c2⟩, h3⟩ := h
  exact ⟨⟨a, a1.1, a2⟩, ⟨c, c1.1, c2⟩, h3⟩
end Go.Sh
