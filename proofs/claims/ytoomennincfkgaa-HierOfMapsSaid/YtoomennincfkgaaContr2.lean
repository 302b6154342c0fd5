/- When all places are taken: the hierarchy may be, and is as far as the map. -/
import Derived.Test.YtoomennincfkgaaContr
set_option maxRecDepth 100000
namespace Go.Sh

/-- A map's edges: its arcs. -/
def EA (arcs : List (Int × Int × Int)) (u v : Nat) (x : Int) : Prop := ∃ k : Nat, arcs[k]? = some ((u : Int), (v : Int), x)
def rkN (rank : List Int) (v : Nat) : Int := rkA rank (v : Int)
theorem rkN_fi {n : Nat} {r : Nat → Int} {v : Nat} (h : v < n) : rkN (fi n r) v = r v := by
  unfold rkN; rw [← rk_get (by rw [fi_len]; exact h), fi_get]

/-- What is known of a map's hierarchy. -/
structure MapH (N : Nat) (arcs : List (Int × Int × Int)) (rank : List Int) (ways : List Wy) : Prop where
  ok : OkH rank ways
  n : rank.length = N
  b : ∀ y ∈ ways, yW y ≤ 1125899906842624
  k : ways.length ≤ N * N
  st : ∀ y ∈ ways, yM y = -1 → ∃ k : Nat, yA y = (k : Int) ∧ arcs[k]? = some (yF y, yT y, yW y)
  so : ∀ u v x, EL ways u v x → Wk (EA arcs) u v x
  co : ∀ s t d, s < N → t < N → Wk (EA arcs) s t d → ∃ m x z, Wk (EU ways (rkN rank)) s m x ∧ Wk (ED ways (rkN rank)) m t z ∧ x + z ≤ d

theorem Uq.len {H : List Wy} {n : Nat} {b : Int} (h : Uq H) (he : ∀ y ∈ H, Ends (fun u => u < n) b y) : H.length ≤ n * n := by
  have hnd : (H.map fun y => yF y * n + yT y).Nodup := by
    rw [List.nodup_iff_pairwise_ne, List.pairwise_map]
    refine List.Pairwise.imp_of_mem (fun {a c} ha hc hne e => ?_) h
    obtain ⟨⟨f, hf, f1⟩, ⟨t, ht, t1⟩, _⟩ := he a ha
    obtain ⟨⟨f', hf', f1'⟩, ⟨t', ht', t1'⟩, _⟩ := he c hc
    apply hne
    rw [f1, t1, f1', t1'] at e
    rw [f1, t1, f1', t1']
    have e' : f * n + t = f' * n + t' := by exact_mod_cast e
    have h1 : f = f' := by
      have a1 : (f * n + t) / n = f := by rw [Nat.mul_comm, Nat.mul_add_div (by omega), Nat.div_eq_of_lt ht]; rfl
      have a2 : (f' * n + t') / n = f' := by rw [Nat.mul_comm, Nat.mul_add_div (by omega), Nat.div_eq_of_lt ht']; rfl
      rw [← a1, ← a2, e']
    subst h1
    exact ⟨rfl, by omega⟩
  have := sub_len _ ((List.range (n * n)).map fun (i : Nat) => (i : Int)) hnd fun x hx => by
    obtain ⟨y, hy, rfl⟩ := List.mem_map.1 hx
    obtain ⟨⟨f, hf, f1⟩, ⟨t, ht, t1⟩, _⟩ := he y hy
    rw [List.mem_map]
    refine ⟨f * n + t, List.mem_range.2 ?_, by rw [f1, t1]; simp⟩
    calc f * n + t < f * n + n := by omega
      _ = (f + 1) * n := by rw [Nat.add_mul, Nat.one_mul]
      _ ≤ n * n := Nat.mul_le_mul_right _ hf
  simpa using this

theorem Uq.find {H : List Wy} (h : Uq H) {a : Wy} (ha : a ∈ H) {u v : Int} (h1 : yF a = u) (h2 : yT a = v) : ∃ k, findW H u v = some k ∧ wW H k = yW a := by
  cases hf : findW H u v with
  | none =>
    obtain ⟨i, hi, rfl⟩ := List.getElem_of_mem ha
    exact absurd ⟨h1, h2⟩ (findW_none hf i hi)
  | some k =>
    obtain ⟨hk, q1, q2, _⟩ := findW_some hf
    refine ⟨k, rfl, ?_⟩
    have : H[k] = a := h.same (List.getElem_mem hk) ha (q1.trans h1.symm) (q2.trans h2.symm)
    unfold wW
    rw [List.getD_eq_getElem?_getD, List.getElem?_eq_getElem hk, Option.getD_some, this]

theorem Ctr.mapH {arcs : List (Int × Int × Int)} {n : Nat} {B : Int} {L H : List Wy} {r : Nat → Int} (h : Ctr (EA arcs) arcs n n B L H r) (hn : n ≤ 4096) (ha : arcs.length ≤ 67108864) (hB : B ≤ 1125899906842624) : MapH n arcs (fi n r) H := by
  have hlen := h.hu.len h.he
  have hr : ∀ v, v < n → 0 ≤ r v ∧ r v < n := fun v hv => by
    have h1 := h.r1 v hv; have h2 := h.full hv; omega
  have hok : OkH (fi n r) H := by
    refine ⟨by rw [fi_len]; omega, ?_, ⟨fun x hx => ?_, ?_⟩, fun i hi => ?_, fun y hy => ?_⟩
    · have : n * n ≤ 4096 * 4096 := Nat.mul_le_mul hn hn
      omega
    · rw [fi_len]
      unfold fi at hx
      obtain ⟨v, hv, rfl⟩ := List.mem_map.1 hx
      exact hr v (List.mem_range.1 hv)
    · unfold fi
      rw [List.nodup_iff_pairwise_ne, List.pairwise_map]
      refine List.Pairwise.imp_of_mem (fun {a c} ha hc hne e => ?_) List.pairwise_lt_range
      have ha' := List.mem_range.1 ha; have hc' := List.mem_range.1 hc
      have := h.r2 a c ha' hc' e (hr a ha').2
      omega
    · obtain ⟨⟨f, hf, f1⟩, ⟨t, ht, t1⟩, q1, q2, q3⟩ := h.he _ (List.getElem_mem hi)
      rw [fi_len]
      refine ⟨?_, q1, by omega, by omega, by omega, by omega, q2, by omega⟩
      cases hfn : findW (H.take i) (yF H[i]) (yT H[i]) with
      | none => rfl
      | some j =>
        obtain ⟨hj, e1, e2, _⟩ := findW_some hfn
        rw [List.length_take] at hj
        rw [List.getElem_take] at e1 e2
        exact absurd ⟨e1, e2⟩ (List.pairwise_iff_getElem.1 h.hu j i (by omega) hi (by omega))
    · obtain ⟨⟨f, hf, f1⟩, ⟨t, ht, t1⟩, q1, q2, q3⟩ := h.he y hy
      unfold OkW
      rcases h.hs y hy with ⟨m1, k, k1, k2⟩ | ⟨m, m1, m2, m3, m4, m5, a, hA, b, hb, a1, a2, b1, b2, e⟩
      · rw [if_pos m1]
        have : k < arcs.length := (List.getElem?_eq_some_iff.1 k2).1
        omega
      · rw [if_neg (by omega), fi_len]
        have g1 : rkA (fi n r) (yM y) = r m := by rw [m2]; exact rkN_fi m1
        have g2 : rkA (fi n r) (yF y) = r f := by rw [f1]; exact rkN_fi hf
        have g3 : rkA (fi n r) (yT y) = r t := by rw [t1]; exact rkN_fi ht
        obtain ⟨i, hi1, hi2⟩ := h.hu.find hA a1 (a2.trans m2.symm)
        obtain ⟨j, hj1, hj2⟩ := h.hu.find hb (b1.trans m2.symm) b2
        exact ⟨m3, by omega, by omega, by rw [g1, g2]; exact m4 f f1, by rw [g1, g3]; exact m5 t t1, i, j, hi1, hj1, by omega⟩
  have heq : ∀ u v x, EL H u v x → u < n ∧ v < n := fun u v x ⟨y, hy, y1, y2, _⟩ => by
    obtain ⟨⟨f, hf, f1⟩, ⟨t, ht, t1⟩, _⟩ := h.he y hy
    exact ⟨by omega, by omega⟩
  refine ⟨hok, fi_len _ _, fun y hy => by have := (h.he y hy).2.2.2.2; omega, hlen, fun y hy hm => ?_, h.hw, fun s t d hs ht hw => ?_⟩
  · rcases h.hs y hy with ⟨_, q⟩ | ⟨m, _, m2, _⟩
    · exact q
    · omega
  · obtain ⟨m, x, z, w1, w2, hle⟩ := h.all hs ht hw
    refine ⟨m, x, z, w1.mono fun i j q ⟨e1, e2⟩ => ⟨e1, ?_⟩, w2.mono fun i j q ⟨e1, e2⟩ => ⟨e1, ?_⟩, hle⟩
    · obtain ⟨a, b⟩ := heq i j q e1
      rw [rkN_fi a, rkN_fi b]; exact e2
    · obtain ⟨a, b⟩ := heq i j q e1
      rw [rkN_fi a, rkN_fi b]; exact e2
end Go.Sh
