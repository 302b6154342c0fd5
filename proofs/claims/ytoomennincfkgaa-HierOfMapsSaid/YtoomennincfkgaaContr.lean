/- Places are taken one by one; ways stand in for what goes through them: in plain lists. -/
import Derived.Test.YtoomennincfkgaaWalks
import Derived.Test.YtoomennincfkgaaHierPure
set_option maxRecDepth 100000
namespace Go.Sh

/-- The edges of a list of ways. -/
def EL (L : List Wy) (u v : Nat) (x : Int) : Prop := ∃ y ∈ L, yF y = (u : Int) ∧ yT y = (v : Int) ∧ yW y = x
/-- .. that lead up, by ranks; .. down. -/
def EU (L : List Wy) (r : Nat → Int) (u v : Nat) (x : Int) : Prop := EL L u v x ∧ r u < r v
def ED (L : List Wy) (r : Nat → Int) (u v : Nat) (x : Int) : Prop := EL L u v x ∧ r v < r u
/-- No two of them have the same ends. -/
def Uq (L : List Wy) : Prop := L.Pairwise fun a b => ¬ (yF a = yF b ∧ yT a = yT b)

theorem Uq.same {L : List Wy} (h : Uq L) {a b : Wy} (ha : a ∈ L) (hb : b ∈ L) (h1 : yF a = yF b) (h2 : yT a = yT b) : a = b := by
  obtain ⟨i, hi, rfl⟩ := List.getElem_of_mem ha
  obtain ⟨j, hj, rfl⟩ := List.getElem_of_mem hb
  rcases Nat.lt_trichotomy i j with hlt | rfl | hgt
  · exact absurd ⟨h1, h2⟩ (List.pairwise_iff_getElem.1 h i j hi hj hlt)
  · rfl
  · exact absurd ⟨h1.symm, h2.symm⟩ (List.pairwise_iff_getElem.1 h j i hj hi hgt)
theorem Uq.append {L M : List Wy} (h : Uq L) (k : Uq M) (d : ∀ a ∈ L, ∀ b ∈ M, ¬ (yF a = yF b ∧ yT a = yT b)) : Uq (L ++ M) := List.pairwise_append.2 ⟨h, k, d⟩

/-- What a way stands for: an arc of the map, or two ways that are known. -/
def Stand (arcs : List (Int × Int × Int)) (n : Nat) (r : Nat → Int) (H : List Wy) (y : Wy) : Prop :=
  (yM y = -1 ∧ ∃ k : Nat, yA y = (k : Int) ∧ arcs[k]? = some (yF y, yT y, yW y)) ∨
  (∃ m : Nat, m < n ∧ yM y = (m : Int) ∧ yA y = -1 ∧ (∀ u : Nat, yF y = (u : Int) → r m < r u) ∧ (∀ u : Nat, yT y = (u : Int) → r m < r u) ∧
    ∃ a ∈ H, ∃ b ∈ H, yF a = yF y ∧ yT a = (m : Int) ∧ yF b = (m : Int) ∧ yT b = yT y ∧ yW a + yW b = yW y)
/-- A way's ends are places, its length is no more than b. -/
def Ends (P : Nat → Prop) (b : Int) (y : Wy) : Prop := (∃ u, P u ∧ yF y = (u : Int)) ∧ (∃ u, P u ∧ yT y = (u : Int)) ∧ yF y ≠ yT y ∧ 0 ≤ yW y ∧ yW y ≤ b

/-- When k places are taken: E is the map, L is left, H is told, r are the ranks (n: not taken). -/
structure Ctr (E : Nat → Nat → Int → Prop) (arcs : List (Int × Int × Int)) (n k : Nat) (B : Int) (L H : List Wy) (r : Nat → Int) : Prop where
  r1 : ∀ v, v < n → r v = n ∨ 0 ≤ r v ∧ r v < k
  r2 : ∀ u v, u < n → v < n → r u = r v → r u < k → u = v
  r3 : ∀ i : Nat, i < k → ∃ v, v < n ∧ r v = i
  kn : k ≤ n
  lu : Uq L
  le : ∀ y ∈ L, Ends (fun u => u < n ∧ r u = n) B y
  ls : ∀ y ∈ L, Stand arcs n r H y
  lw : ∀ u v x, EL L u v x → Wk E u v x
  hu : Uq H
  he : ∀ y ∈ H, Ends (fun u => u < n) B y
  hk : ∀ y ∈ H, ∃ u : Nat, u < n ∧ r u < k ∧ (yF y = (u : Int) ∨ yT y = (u : Int))
  hs : ∀ y ∈ H, Stand arcs n r H y
  hw : ∀ u v x, EL H u v x → Wk E u v x
  up : ∀ s t d, s < n → t < n → Wk E s t d →
    (∃ a b x y z, a < n ∧ r a = n ∧ b < n ∧ r b = n ∧ Wk (EU H r) s a x ∧ Wk (EL L) a b y ∧ Wk (ED H r) b t z ∧ x + y + z ≤ d) ∨
    (∃ m x z, Wk (EU H r) s m x ∧ Wk (ED H r) m t z ∧ x + z ≤ d)

/-- What ways stand in for v: by two ways each; all, but those that something without v goes around. -/
structure Need (L : List Wy) (v : Nat) (N : List Wy) : Prop where
  a : ∀ y ∈ N, ∃ p ∈ L, ∃ q ∈ L, yF p = yF y ∧ yT p = (v : Int) ∧ yF q = (v : Int) ∧ yT q = yT y ∧ yW y = yW p + yW q ∧ yM y = (v : Int) ∧ yA y = -1 ∧ yF y ≠ yT y
  b : ∀ p ∈ L, ∀ q ∈ L, yT p = (v : Int) → yF q = (v : Int) → yF p ≠ yT q → (∃ y ∈ N, yF y = yF p ∧ yT y = yT q ∧ yW y = yW p + yW q) ∨
    ∃ (a c : Nat) (d : Int), yF p = (a : Int) ∧ yT q = (c : Int) ∧ d ≤ yW p + yW q ∧ Wk (fun i j x => EL L i j x ∧ i ≠ v ∧ j ≠ v) a c d
/-- L with N put into it. -/
structure Puts (L N L1 : List Wy) : Prop where
  u : Uq L1
  l : ∀ y ∈ L, ∃ z ∈ L1, yF z = yF y ∧ yT z = yT y ∧ yW z ≤ yW y
  n : ∀ y ∈ N, ∃ z ∈ L1, yF z = yF y ∧ yT z = yT y ∧ yW z ≤ yW y
  o : ∀ z ∈ L1, z ∈ L ∨ z ∈ N

theorem Puts.nil {L : List Wy} (h : Uq L) : Puts L [] L := ⟨h, fun y hy => ⟨y, hy, rfl, rfl, Int.le_refl _⟩, fun y hy => by simp at hy, fun z hz => .inl hz⟩
/-- One more is put: kept out by what is no longer, or instead of what is longer. -/
theorem Puts.skip {L N L1 : List Wy} {y z : Wy} (h : Puts L N L1) (hz : z ∈ L1) (h1 : yF z = yF y) (h2 : yT z = yT y) (h3 : yW z ≤ yW y) : Puts L (N ++ [y]) L1 :=
  ⟨h.u, h.l, fun x hx => by
    rcases List.mem_append.1 hx with hx | hx
    · exact h.n x hx
    · simp only [List.mem_singleton] at hx; subst hx; exact ⟨z, hz, h1, h2, h3⟩, fun z hz => (h.o z hz).imp id (List.mem_append_left _)⟩
def offE (u v : Int) (y : Wy) : Bool := !(yF y == u && yT y == v)
theorem offE_iff {u v : Int} {y : Wy} : offE u v y = true ↔ ¬ (yF y = u ∧ yT y = v) := by
  unfold offE
  rw [Bool.not_eq_true', Bool.and_eq_false_iff, beq_eq_false_iff_ne, beq_eq_false_iff_ne]
  constructor
  · rintro (h | h) ⟨h1, h2⟩
    · exact h h1
    · exact h h2
  · intro h
    by_cases h1 : yF y = u
    · exact .inr fun h2 => h ⟨h1, h2⟩
    · exact .inl h1
theorem Puts.put {L N L1 : List Wy} {y : Wy} (h : Puts L N L1) (hb : ∀ z ∈ L1, yF z = yF y → yT z = yT y → yW y ≤ yW z) : Puts L (N ++ [y]) (L1.filter (offE (yF y) (yT y)) ++ [y]) := by
  have one : ∀ x z : Wy, z ∈ L1 → yF z = yF x → yT z = yT x → yW z ≤ yW x → ∃ z' ∈ L1.filter (offE (yF y) (yT y)) ++ [y], yF z' = yF x ∧ yT z' = yT x ∧ yW z' ≤ yW x := by
    intro x z hz h1 h2 h3
    by_cases e : yF z = yF y ∧ yT z = yT y
    · exact ⟨y, by simp, by rw [← e.1, h1], by rw [← e.2, h2], by have := hb z hz e.1 e.2; omega⟩
    · exact ⟨z, List.mem_append_left _ (List.mem_filter.2 ⟨hz, offE_iff.2 e⟩), h1, h2, h3⟩
  refine ⟨?_, fun x hx => ?_, fun x hx => ?_, fun z hz => ?_⟩
  · refine Uq.append (h.u.filter _) (List.pairwise_singleton _ _) fun a ha b hb => ?_
    simp only [List.mem_singleton] at hb; subst hb
    exact offE_iff.1 (List.mem_filter.1 ha).2
  · obtain ⟨z, hz, h1, h2, h3⟩ := h.l x hx
    exact one x z hz h1 h2 h3
  · rcases List.mem_append.1 hx with hx | hx
    · obtain ⟨z, hz, h1, h2, h3⟩ := h.n x hx
      exact one x z hz h1 h2 h3
    · simp only [List.mem_singleton] at hx; subst hx
      exact ⟨x, by simp, rfl, rfl, Int.le_refl _⟩
  · rcases List.mem_append.1 hz with hz | hz
    · exact (h.o z (List.mem_filter.1 hz).1).imp id (List.mem_append_left _)
    · exact .inr (List.mem_append_right _ hz)

section
variable {E : Nat → Nat → Int → Prop} {arcs : List (Int × Int × Int)} {n k : Nat} {B : Int} {L H N L1 : List Wy} {r : Nat → Int} {v : Nat}

/-- What is left without v goes as well. -/
theorem around (h0 : ∀ y ∈ L, 0 ≤ yW y) (he : ∀ y ∈ L, yF y ≠ yT y) (hN : Need L v N) (hP : Puts L N L1) {a : Nat} (ha : a ≠ v) {b : Nat} {d : Int} (hw : Wk (EL L) a b d) :
    (b ≠ v → ∃ d', d' ≤ d ∧ Wk (fun i j x => EL L1 i j x ∧ i ≠ v ∧ j ≠ v) a b d') ∧
    (b = v → ∃ (u : Nat) (d' x : Int), u ≠ v ∧ Wk (fun i j x => EL L1 i j x ∧ i ≠ v ∧ j ≠ v) a u d' ∧ EL L u v x ∧ d' + x ≤ d) := by
  have ed : ∀ i j x, EL L i j x → i ≠ v → j ≠ v → ∃ x', x' ≤ x ∧ (EL L1 i j x' ∧ i ≠ v ∧ j ≠ v) := by
    rintro i j x ⟨y, hy, h1, h2, rfl⟩ hi hj
    obtain ⟨z, hz, q1, q2, q3⟩ := hP.l y hy
    exact ⟨yW z, q3, ⟨z, hz, by rw [q1, h1], by rw [q2, h2], rfl⟩, hi, hj⟩
  induction hw with
  | nil => exact ⟨fun _ => ⟨0, by omega, .nil⟩, fun h => absurd h ha⟩
  | snoc hw e ih =>
    rename_i u b d x
    by_cases huv : u = v
    · subst huv
      obtain ⟨u', d', x', hu', hw', e', hle⟩ := ih.2 rfl
      have hb : b ≠ u := fun eb => by
        obtain ⟨y, hy, h1, h2, _⟩ := e
        exact he y hy (by rw [h1, h2, eb])
      refine ⟨fun _ => ?_, fun h => absurd h hb⟩
      obtain ⟨p, hp, p1, p2, p3⟩ := e'
      obtain ⟨q, hq, q1, q2, q3⟩ := e
      by_cases eub : u' = b
      · subst eub
        have := h0 p hp; have := h0 q hq
        exact ⟨d', by omega, hw'⟩
      · rcases hN.b p hp q hq p2 q1 (fun ee => eub (by rw [p1, q2] at ee; omega)) with ⟨y, hy, y1, y2, y3⟩ | ⟨a', c', d2, h1, h2, h3, h4⟩
        · obtain ⟨z, hz, z1, z2, z3⟩ := hP.n y hy
          refine ⟨d' + yW z, by omega, hw'.snoc ⟨⟨z, hz, by rw [z1, y1, p1], by rw [z2, y2, q2], rfl⟩, hu', hb⟩⟩
        · have e1 : a' = u' := by rw [p1] at h1; omega
          have e2 : c' = b := by rw [q2] at h2; omega
          subst e1 e2
          obtain ⟨d3, hd3, hw3⟩ := h4.le (F := fun i j x => EL L1 i j x ∧ i ≠ u ∧ j ≠ u) fun i j x hx => ed i j x hx.1 hx.2.1 hx.2.2
          exact ⟨d' + d3, by omega, hw'.trans hw3⟩
    · obtain ⟨d', hd', hw'⟩ := ih.1 huv
      refine ⟨fun hb => ?_, fun hb => ?_⟩
      · obtain ⟨x', hx', hh⟩ := ed u b x e huv hb
        exact ⟨d' + x', by omega, hw'.snoc hh⟩
      · subst hb; exact ⟨u, d', x, huv, hw', e, by omega⟩

theorem sub_len : ∀ (l l' : List Int), l.Nodup → (∀ x ∈ l, x ∈ l') → l.length ≤ l'.length
  | [], _, _, _ => Nat.zero_le _
  | x :: l, l', hn, hs => by
    have hx := hs x List.mem_cons_self
    have hn' := List.nodup_cons.1 hn
    have ih := sub_len l (l'.erase x) hn'.2 fun y hy => (List.mem_erase_of_ne (show y ≠ x from fun e => hn'.1 (e ▸ hy))).2 (hs y (List.mem_cons_of_mem _ hy))
    rw [List.length_erase_of_mem hx] at ih
    have : 0 < l'.length := List.length_pos_of_mem hx
    simp only [List.length_cons]; omega
theorem Ctr.full (h : Ctr E arcs n n B L H r) {a : Nat} (ha : a < n) : r a ≠ n := fun e => by
  have hL : ((List.range (n + 1)).map fun (i : Nat) => (i : Int)).Nodup := by
    rw [List.nodup_iff_pairwise_ne, List.pairwise_map]
    exact List.pairwise_lt_range.imp fun h e => by omega
  have := sub_len _ ((List.range n).map r) hL fun x hx => by
    obtain ⟨i, hi, rfl⟩ := List.mem_map.1 hx
    rw [List.mem_range] at hi
    rw [List.mem_map]
    by_cases e2 : i = n
    · subst e2; exact ⟨a, List.mem_range.2 ha, e⟩
    · obtain ⟨v, hv, hr⟩ := h.r3 i (by omega)
      exact ⟨v, List.mem_range.2 hv, hr⟩
  simp only [List.length_map, List.length_range] at this
  omega
theorem Ctr.rlt (h : Ctr E arcs n k B L H r) (hv : v < n) (hrv : r v = n) (hk : k < n) {i j : Nat} (hi : i < n) (hj : j < n) (hlt : r i < r j) : up1 r v k i < up1 r v k j := by
  have hri := h.r1 i hi
  have hrj := h.r1 j hj
  by_cases e1 : i = v
  · subst e1; omega
  · rw [up1_ne e1]
    by_cases e2 : j = v
    · subst e2; rw [up1_at]; omega
    · rw [up1_ne e2]; exact hlt
theorem EL.app {L M : List Wy} {u v : Nat} {x : Int} (h : EL L u v x) : EL (L ++ M) u v x := by
  obtain ⟨y, hy, q⟩ := h; exact ⟨y, List.mem_append_left _ hy, q⟩
theorem EL.app' {L M : List Wy} {u v : Nat} {x : Int} (h : EL M u v x) : EL (L ++ M) u v x := by
  obtain ⟨y, hy, q⟩ := h; exact ⟨y, List.mem_append_right _ hy, q⟩

theorem Ctr.step (h : Ctr E arcs n k B L H r) (hv : v < n) (hrv : r v = n) (hk : k < n) (_hB : 0 ≤ B) (hN : Need L v N) (hP : Puts L N L1) {O I L2 : List Wy}
    (hO : ∀ y, y ∈ O ↔ y ∈ L1 ∧ yF y = (v : Int)) (hI : ∀ y, y ∈ I ↔ y ∈ L1 ∧ yT y = (v : Int)) (uO : Uq O) (uI : Uq I) (hL2 : ∀ y, y ∈ L2 ↔ y ∈ L1 ∧ yF y ≠ (v : Int) ∧ yT y ≠ (v : Int)) (u2 : Uq L2) :
    Ctr E arcs n (k + 1) (2 * B) L2 (H ++ (O ++ I)) (up1 r v k) := by
  have ne : ∀ y ∈ L, yF y ≠ yT y := fun y hy => (h.le y hy).2.2.1
  have n0 : ∀ y ∈ L, 0 ≤ yW y := fun y hy => (h.le y hy).2.2.2.1
  have nN : ∀ y ∈ N, yF y ≠ (v : Int) ∧ yT y ≠ (v : Int) := fun y hy => by
    obtain ⟨p, hp, q, hq, p1, p2, q1, q2, _⟩ := hN.a y hy
    exact ⟨fun e => ne p hp (by rw [p1, e, p2]), fun e => ne q hq (by rw [q1, q2, e])⟩
  have inL : ∀ y ∈ L1, yF y = (v : Int) ∨ yT y = (v : Int) → y ∈ L := fun y hy he => by
    rcases hP.o y hy with h1 | h1
    · exact h1
    · have := nN y h1; rcases he with e | e
      · exact absurd e this.1
      · exact absurd e this.2
  have inL1 : ∀ y ∈ L, yF y = (v : Int) ∨ yT y = (v : Int) → y ∈ L1 := fun y hy he => by
    obtain ⟨z, hz, z1, z2, _⟩ := hP.l y hy
    have := inL z hz (by rw [z1, z2]; exact he)
    rw [h.lu.same hy this z1.symm z2.symm]; exact hz
  have lO : ∀ y ∈ O, y ∈ L := fun y hy => inL y ((hO y).1 hy).1 (.inl ((hO y).1 hy).2)
  have lI : ∀ y ∈ I, y ∈ L := fun y hy => inL y ((hI y).1 hy).1 (.inr ((hI y).1 hy).2)
  have rlt : ∀ {i j : Nat}, i < n → j < n → r i < r j → up1 r v k i < up1 r v k j := fun hi hj => h.rlt hv hrv hk hi hj
  have rn : ∀ u, u < n → r u = n → u ≠ v → up1 r v k u = n := fun u _ e hne => by rw [up1_ne hne]; exact e
  have eu : ∀ i j x, EU H r i j x → EU (H ++ (O ++ I)) (up1 r v k) i j x := fun i j x ⟨h1, h2⟩ => by
    refine ⟨h1.app, ?_⟩
    obtain ⟨y, hy, y1, y2, _⟩ := h1
    obtain ⟨⟨a, ha, a1⟩, ⟨b, hb, b1⟩, _⟩ := h.he y hy
    exact rlt (by omega) (by omega) h2
  have edd : ∀ i j x, ED H r i j x → ED (H ++ (O ++ I)) (up1 r v k) i j x := fun i j x ⟨h1, h2⟩ => by
    refine ⟨h1.app, ?_⟩
    obtain ⟨y, hy, y1, y2, _⟩ := h1
    obtain ⟨⟨a, ha, a1⟩, ⟨b, hb, b1⟩, _⟩ := h.he y hy
    exact rlt (by omega) (by omega) h2
  have el2 : ∀ i j x, (EL L1 i j x ∧ i ≠ v ∧ j ≠ v) → EL L2 i j x := fun i j x ⟨⟨y, hy, y1, y2, y3⟩, h1, h2⟩ => ⟨y, (hL2 y).2 ⟨hy, by omega, by omega⟩, y1, y2, y3⟩
  have mono : ∀ y, (∀ u : Nat, yF y = (u : Int) → u < n) → (∀ u : Nat, yT y = (u : Int) → u < n) → Stand arcs n r H y → Stand arcs n (up1 r v k) (H ++ (O ++ I)) y := by
    rintro y hf ht (h1 | ⟨m, m1, m2, m3, m4, m5, a, ha, b, hb, q⟩)
    · exact .inl h1
    · exact .inr ⟨m, m1, m2, m3, fun u hu => rlt m1 (hf u hu) (m4 u hu), fun u hu => rlt m1 (ht u hu) (m5 u hu), a, List.mem_append_left _ ha, b, List.mem_append_left _ hb, q⟩
  have endsF : ∀ {P : Nat → Prop} {b : Int} {y : Wy}, Ends P b y → (∀ u : Nat, yF y = (u : Int) → P u) ∧ (∀ u : Nat, yT y = (u : Int) → P u) := fun {P b y} he => by
    obtain ⟨⟨a, ha, a1⟩, ⟨c, hc, c1⟩, _⟩ := he
    refine ⟨fun u hu => ?_, fun u hu => ?_⟩
    · have : u = a := by omega
      subst this; exact ha
    · have : u = c := by omega
      subst this; exact hc
  constructor
  · intro i hi
    by_cases e : i = v
    · subst e; rw [up1_at]; right; omega
    · rw [up1_ne e]; have := h.r1 i hi; omega
  · intro i j hi hj he hlt
    have hri := h.r1 i hi; have hrj := h.r1 j hj
    by_cases e1 : i = v
    · by_cases e2 : j = v
      · rw [e1, e2]
      · rw [e1, up1_at, up1_ne e2] at he; omega
    · by_cases e2 : j = v
      · rw [e2, up1_at, up1_ne e1] at he; omega
      · rw [up1_ne e1, up1_ne e2] at he
        rw [up1_ne e1] at hlt
        exact h.r2 i j hi hj he (by omega)
  · intro i hi
    by_cases e : i = k
    · subst e; exact ⟨v, hv, up1_at⟩
    · obtain ⟨u, hu, hr⟩ := h.r3 i (by omega)
      exact ⟨u, hu, by rw [up1_ne (fun e => by subst e; omega)]; exact hr⟩
  · omega
  · exact u2
  · intro y hy
    obtain ⟨hy1, hf, ht⟩ := (hL2 y).1 hy
    rcases hP.o y hy1 with hL | hNy
    · obtain ⟨⟨a, ⟨ha, ha2⟩, a1⟩, ⟨c, ⟨hc, hc2⟩, c1⟩, q1, q2, q3⟩ := h.le y hL
      exact ⟨⟨a, ⟨ha, rn a ha ha2 (by omega)⟩, a1⟩, ⟨c, ⟨hc, rn c hc hc2 (by omega)⟩, c1⟩, q1, q2, by omega⟩
    · obtain ⟨p, hp, q, hq, p1, p2, q1, q2, w1, _, _, w2⟩ := hN.a y hNy
      obtain ⟨⟨a, ⟨ha, ha2⟩, a1⟩, _, _, a2, a3⟩ := h.le p hp
      obtain ⟨_, ⟨c, ⟨hc, hc2⟩, c1⟩, _, c2, c3⟩ := h.le q hq
      exact ⟨⟨a, ⟨ha, rn a ha ha2 (by omega)⟩, by omega⟩, ⟨c, ⟨hc, rn c hc hc2 (by omega)⟩, by omega⟩, w2, by omega, by omega⟩
  · intro y hy
    obtain ⟨hy1, hf, ht⟩ := (hL2 y).1 hy
    rcases hP.o y hy1 with hL | hNy
    · obtain ⟨e1, e2⟩ := endsF (h.le y hL)
      exact mono y (fun u hu => (e1 u hu).1) (fun u hu => (e2 u hu).1) (h.ls y hL)
    · obtain ⟨p, hp, q, hq, p1, p2, q1, q2, w1, m1, m2, _⟩ := hN.a y hNy
      obtain ⟨e1, _⟩ := endsF (h.le p hp)
      obtain ⟨_, e2⟩ := endsF (h.le q hq)
      refine .inr ⟨v, hv, m1, m2, fun u hu => ?_, fun u hu => ?_, p, ?_, q, ?_, p1, p2, q1, q2, w1.symm⟩
      · have := e1 u (by rw [p1, hu])
        rw [up1_at, rn u this.1 this.2 (by omega)]; omega
      · have := e2 u (by rw [q2, hu])
        rw [up1_at, rn u this.1 this.2 (by omega)]; omega
      · exact List.mem_append_right _ (List.mem_append_right _ ((hI p).2 ⟨inL1 p hp (.inr p2), p2⟩))
      · exact List.mem_append_right _ (List.mem_append_left _ ((hO q).2 ⟨inL1 q hq (.inl q1), q1⟩))
  · rintro i j x ⟨y, hy, y1, y2, rfl⟩
    obtain ⟨hy1, hf, ht⟩ := (hL2 y).1 hy
    rcases hP.o y hy1 with hL | hNy
    · exact h.lw i j _ ⟨y, hL, y1, y2, rfl⟩
    · obtain ⟨p, hp, q, hq, p1, p2, q1, q2, w1, m1, m2, _⟩ := hN.a y hNy
      rw [w1]
      exact (h.lw i v _ ⟨p, hp, by rw [p1, y1], p2, rfl⟩).trans (h.lw v j _ ⟨q, hq, q1, by rw [q2, y2], rfl⟩)
  · refine Uq.append h.hu (Uq.append uO uI fun a ha b hb hh => ?_) fun a ha b hb hh => ?_
    · have h1 := ((hO a).1 ha).2
      have h2 := ((hI b).1 hb).2
      exact ne b (lI b hb) (by rw [← hh.1, h1, h2])
    · obtain ⟨u, hu, hru, hor⟩ := h.hk a ha
      have hbL : b ∈ L := by
        rcases List.mem_append.1 hb with hb | hb
        · exact lO b hb
        · exact lI b hb
      obtain ⟨e1, e2⟩ := endsF (h.le b hbL)
      rcases hor with e | e
      · have := (e1 u (by rw [← hh.1, e])).2; omega
      · have := (e2 u (by rw [← hh.2, e])).2; omega
  · intro y hy
    rcases List.mem_append.1 hy with hy | hy
    · obtain ⟨a, b, c, d, e⟩ := h.he y hy
      exact ⟨a, b, c, d, by omega⟩
    · have hyL : y ∈ L := by
        rcases List.mem_append.1 hy with hy | hy
        · exact lO y hy
        · exact lI y hy
      obtain ⟨⟨a, ⟨ha, _⟩, a1⟩, ⟨c, ⟨hc, _⟩, c1⟩, q1, q2, q3⟩ := h.le y hyL
      exact ⟨⟨a, ha, a1⟩, ⟨c, hc, c1⟩, q1, q2, by omega⟩
  · intro y hy
    rcases List.mem_append.1 hy with hy | hy
    · obtain ⟨u, hu, hru, hor⟩ := h.hk y hy
      exact ⟨u, hu, by rw [up1_ne (fun e => by subst e; omega)]; omega, hor⟩
    · refine ⟨v, hv, by rw [up1_at]; omega, ?_⟩
      rcases List.mem_append.1 hy with hy | hy
      · exact .inl ((hO y).1 hy).2
      · exact .inr ((hI y).1 hy).2
  · intro y hy
    rcases List.mem_append.1 hy with hy | hy
    · obtain ⟨e1, e2⟩ := endsF (h.he y hy)
      exact mono y e1 e2 (h.hs y hy)
    · have hyL : y ∈ L := by
        rcases List.mem_append.1 hy with hy | hy
        · exact lO y hy
        · exact lI y hy
      obtain ⟨e1, e2⟩ := endsF (h.le y hyL)
      exact mono y (fun u hu => (e1 u hu).1) (fun u hu => (e2 u hu).1) (h.ls y hyL)
  · rintro i j x ⟨y, hy, q⟩
    rcases List.mem_append.1 hy with hy | hy
    · exact h.hw i j x ⟨y, hy, q⟩
    · have hyL : y ∈ L := by
        rcases List.mem_append.1 hy with hy | hy
        · exact lO y hy
        · exact lI y hy
      exact h.lw i j x ⟨y, hyL, q⟩
  · intro s t d hs ht hw
    rcases h.up s t d hs ht hw with ⟨a, b, x, y, z, ha, ha2, hb, hb2, w1, w2, w3, hle⟩ | ⟨m, x, z, w1, w2, hle⟩
    · have w1' := w1.mono eu
      have w3' := w3.mono edd
      have lL : ∀ {i j x}, EL L i j x → (i < n ∧ r i = n) ∧ (j < n ∧ r j = n) := fun {i j x} ⟨y, hy, y1, y2, _⟩ => by
        obtain ⟨e1, e2⟩ := endsF (h.le y hy); exact ⟨e1 i y1, e2 j y2⟩
      have neL : ∀ {i j x}, EL L i j x → i ≠ j := fun {i j x} ⟨y, hy, y1, y2, _⟩ e => ne y hy (by rw [y1, y2, e])
      have outE : ∀ {j x}, EL L v j x → EU (H ++ (O ++ I)) (up1 r v k) v j x := fun {j x} he => by
        have hj := (lL he).2
        have hne := neL he
        obtain ⟨y, hy, y1, y2, y3⟩ := he
        refine ⟨⟨y, List.mem_append_right _ (List.mem_append_left _ ((hO y).2 ⟨inL1 y hy (.inl y1), y1⟩)), y1, y2, y3⟩, ?_⟩
        rw [up1_at, rn j hj.1 hj.2 (Ne.symm hne)]; omega
      have inE : ∀ {j x}, EL L j v x → ED (H ++ (O ++ I)) (up1 r v k) j v x := fun {j x} he => by
        have hj := (lL he).1
        have hne := neL he
        obtain ⟨y, hy, y1, y2, y3⟩ := he
        refine ⟨⟨y, List.mem_append_right _ (List.mem_append_right _ ((hI y).2 ⟨inL1 y hy (.inr y2), y2⟩)), y1, y2, y3⟩, ?_⟩
        rw [up1_at, rn j hj.1 hj.2 hne]; omega
      have fin : ∀ (a : Nat) (x : Int) (y : Int), a < n → r a = n → a ≠ v → Wk (EU (H ++ (O ++ I)) (up1 r v k)) s a x → Wk (EL L) a b y → x + y + z ≤ d →
          (∃ a b x y z, a < n ∧ up1 r v k a = n ∧ b < n ∧ up1 r v k b = n ∧ Wk (EU (H ++ (O ++ I)) (up1 r v k)) s a x ∧ Wk (EL L2) a b y ∧ Wk (ED (H ++ (O ++ I)) (up1 r v k)) b t z ∧ x + y + z ≤ d) ∨
          (∃ m x z, Wk (EU (H ++ (O ++ I)) (up1 r v k)) s m x ∧ Wk (ED (H ++ (O ++ I)) (up1 r v k)) m t z ∧ x + z ≤ d) := by
        intro a x y ha ha2 hav hx hy hle
        obtain ⟨g1, g2⟩ := around n0 ne hN hP hav hy
        by_cases hbv : b = v
        · obtain ⟨u, d', x', hu, hw', he', hle'⟩ := g2 hbv
          subst hbv
          have hu2 := (lL he').1
          exact .inl ⟨a, u, x, d', x' + z, ha, rn a ha ha2 hav, hu2.1, rn u hu2.1 hu2.2 hu, hx, hw'.mono el2, Wk.cons (inE he') w3', by omega⟩
        · obtain ⟨d', hd', hw'⟩ := g1 hbv
          exact .inl ⟨a, b, x, d', z, ha, rn a ha ha2 hav, hb, rn b hb hb2 hbv, hx, hw'.mono el2, w3', by omega⟩
      by_cases hav : a = v
      · subst hav
        rcases w2.first with ⟨rfl, rfl⟩ | ⟨c, x1, y1, he, hw', rfl⟩
        · exact .inr ⟨b, x, z, w1', w3', by omega⟩
        · have hc := (lL he).2
          exact fin c (x + x1) y1 hc.1 hc.2 (Ne.symm (neL he)) (w1'.snoc (outE he)) hw' (by omega)
      · exact fin a x y ha ha2 hav w1' w2 hle
    · exact .inr ⟨m, x, z, w1.mono eu, w2.mono edd, hle⟩

theorem Ctr.begin (hE : ∀ u v x, E u v x → 0 ≤ x) (hEn : ∀ u v x, E u v x → u < n → v < n) (lu : Uq L) (le : ∀ y ∈ L, Ends (fun u => u < n) B y) (ls : ∀ y ∈ L, yM y = -1 ∧ ∃ k : Nat, yA y = (k : Int) ∧ arcs[k]? = some (yF y, yT y, yW y))
    (lw : ∀ u v x, EL L u v x → E u v x) (al : ∀ u v x, E u v x → u ≠ v → u < n → ∃ y, y ≤ x ∧ EL L u v y) : Ctr E arcs n 0 B L [] (fun _ => (n : Int)) := by
  refine ⟨fun v _ => .inl rfl, fun u v _ _ _ h => by omega, fun i h => by omega, by omega, lu, fun y hy => ?_, fun y hy => .inl (ls y hy), fun u v x h => .edge (lw u v x h), List.Pairwise.nil, fun y hy => by simp at hy, fun y hy => by simp at hy, fun y hy => by simp at hy, fun u v x ⟨y, hy, _⟩ => by simp at hy, ?_⟩
  · obtain ⟨⟨a, ha, a1⟩, ⟨c, hc, c1⟩, q1, q2, q3⟩ := le y hy
    exact ⟨⟨a, ⟨ha, rfl⟩, a1⟩, ⟨c, ⟨hc, rfl⟩, c1⟩, q1, q2, q3⟩
  · intro s t d hs ht hw
    have key : t < n ∧ ∃ y, y ≤ d ∧ Wk (EL L) s t y := by
      clear ht
      induction hw with
      | nil => exact ⟨hs, 0, by omega, .nil⟩
      | snoc hw0 e ih =>
        rename_i u v d x
        obtain ⟨hu, y, hy, hw⟩ := ih
        refine ⟨hEn _ _ _ e hu, ?_⟩
        by_cases huv : u = v
        · subst huv
          have := hE _ _ _ e
          exact ⟨y, by omega, hw⟩
        · obtain ⟨z, hz, hz2⟩ := al u v x e huv hu
          exact ⟨y + z, by omega, hw.snoc hz2⟩
    obtain ⟨_, y, hy, hw⟩ := key
    exact .inl ⟨s, t, 0, y, 0, hs, rfl, ht, rfl, .nil, hw, .nil, by omega⟩

/-- All are taken: as far as by a way up, and a way down. -/
theorem Ctr.all (h : Ctr E arcs n n B L H r) {s t : Nat} {d : Int} (hs : s < n) (ht : t < n) (hw : Wk E s t d) : ∃ m x z, Wk (EU H r) s m x ∧ Wk (ED H r) m t z ∧ x + z ≤ d := by
  rcases h.up s t d hs ht hw with ⟨a, b, x, y, z, ha, ha2, hb, hb2, _⟩ | h'
  · exact absurd ha2 (h.full ha)
  · exact h'
end
end Go.Sh
