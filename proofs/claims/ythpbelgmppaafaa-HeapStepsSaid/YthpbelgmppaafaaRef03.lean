/- The reference of layer 3: a list of pairs. -/
import Derived.Test.YthpbelgmppaafaaHeapTwo
set_option maxRecDepth 100000
namespace Go.Sh
open Go.RowKit

theorem ext_off {w a a' : World} {b : Nat} (e : Ext w a) (o : Off b a a') (hb : w.heap.size ≤ b) : Ext w a' :=
  ((Chg.of_ext (F := fun k => k = b) e).trans (Chg.of_off (F := fun k => k = b) o rfl) fun _ _ h => h).ext fun i hi e => by omega
theorem Own.off {α : Type} {R : Rc α} {w w' : World} {s : SV} {xs : List α} {b : Nat} (h : Own R w s xs) (o : Off b w w') (hb : ¬ s.blk b) : Own R w' s xs :=
  h.chg (F := fun k => k = b) (.of_off o rfl) fun _ hk e => hb (e ▸ hk)
theorem HeapA.off {w w' : World} {p : Option Addr} {N : Nat} {L : List (Int × Int)} {F : Nat → Prop} {b : Nat} (h : HeapA w p N L F) (o : Off b w w') (hb : ¬ F b) : HeapA w' p N L F :=
  h.chg (G := fun k => k = b) (.of_off o rfl) fun _ hk e => hb (e ▸ hk)
/-- A slice laid since a world. -/
def Fsh (w : World) (s : SV) : Prop := ∀ k, s.blk k → w.heap.size ≤ k
theorem fsh_nil {w : World} {n c : Nat} : Fsh w ⟨none, n, c⟩ := fun k ⟨p, hp, _⟩ => by cases hp

theorem pair_idx {w : World} {s : SV} {xs : List (Int × Int)} (h : View RE w s xs) {i : Nat} (hl : i < xs.length) {K : Addr → Prop}
    (hk : ∀ a, w.cell? (a.add 0) = some (.int .i64 xs[i].1) → w.cell? (a.add 1) = some (.int .i64 xs[i].2) → K a) : Idx s.a s.len (i : Int) 2 K := by
  refine View.idx (R := RE) h (by omega) (by simpa using hl) fun a _ hc => ?_
  simp only [Int.toNat_natCast] at hc
  exact hk a (hc 0 _ rfl) (hc 1 _ rfl)

theorem rNew_ok {n : Int} {w : World} {K : Int → SV → Bool → World → Prop} (hk : ∀ w', Ext w w' → K n ⟨none, 0, 0⟩ (decide (0 ≤ n ∧ n ≤ 16777216)) w') : sh_postroadref03_New n K w := by
  unfold sh_postroadref03_New
  intro b1 w2 e2 h1 h2
  rw [Bool.cond_decide]
  split
  · rename_i hn
    intro w3 o3
    have := hk w3 (ext_off e2 o3 h1)
    have he : decide (0 ≤ n ∧ n ≤ 16777216) = decide (n ≤ 16777216) := decide_eq_decide.2 ⟨fun h => h.2, fun h => ⟨hn, h⟩⟩
    rw [he] at this; exact this
  · rename_i hn
    intro w3 o3
    have := hk w3 (ext_off e2 o3 h1)
    rw [decide_eq_false (fun h => hn h.1)] at this; exact this

def minD (L : List (Int × Int)) : Int × Int := (minE L).getD (0, 0)
theorem Least.minD {L : List (Int × Int)} {m : Int × Int} (h : Least L m) : minD L = m := by unfold Go.Sh.minD; rw [h.min]; rfl

theorem least_one {L : List (Int × Int)} {x : Int × Int} (h : L[0]? = some x) : Least (L.take 1) x := by
  cases L with
  | nil => simp at h
  | cons y l => simp at h; subst h; exact ⟨by simp, fun z hz => by simp at hz; subst hz; exact eLt_irrefl _⟩
theorem least_snoc {L : List (Int × Int)} {m x : Int × Int} (h : Least L m) : Least (L ++ [x]) (if eLt x m then x else m) := by
  split
  · rename_i hx
    refine ⟨by simp, fun y hy => ?_⟩
    rcases List.mem_append.1 hy with hy | hy
    · exact eLt_trans (eLt_asymm hx) (h.2 y hy)
    · simp at hy; subst hy; exact eLt_irrefl _
  · rename_i hx
    refine ⟨by simp [h.1], fun y hy => ?_⟩
    rcases List.mem_append.1 hy with hy | hy
    · exact h.2 y hy
    · simp at hy; subst hy; simpa using hx

theorem rFirst_ok {n : Int} {s : SV} {L : List (Int × Int)} {w : World} {K : Int → Int → Bool → World → Prop} (h : View RE w s L) (hn : L.length < 2 ^ 40)
    (hk : ∀ w', Ext w w' → K (minD L).1 (minD L).2 (decide (L ≠ [])) w') : sh_postroadref03_First n s K w := by
  unfold sh_postroadref03_First
  intro b1 w2 e2 h1 _ b3 w4 e4 h3 _ b5 w6 e6 h5 _ w7 o7
  have s2 := e2.size; have s4 := e4.size; have s6 := e6.size
  have e7 : Ext w w7 := ext_off ((e2.trans e4).trans e6) o7 (by omega)
  have hl := h.len
  refine Join.cut (fun (x : (Int × Int × Unit) × Unit) w' => Ext w w' ∧ (x.1.1, x.1.2.1) = minD L) (fun J hJ => ?_) ?_
  · refine LoopT.gh (γ := Nat) (fun i (x : Int × (Int × Int × Unit) × Unit) w' => x.1 = i ∧ i ≤ L.length ∧ Ext w w' ∧ (i = 0 ∧ (x.2.1.1, x.2.1.2.1) = (0, 0) ∨ 0 < i ∧ Least (L.take i) (x.2.1.1, x.2.1.2.1))) (fun i => L.length - i) 0
      ⟨rfl, Nat.zero_le _, e7, .inl ⟨rfl, rfl⟩⟩ ?_
    rintro i ⟨x, ⟨a, b, _⟩, _⟩ w1 ⟨hx, hi, e1, hm⟩ J1 hJ1
    simp only at hx hm
    subst hx
    rw [Bool.cond_decide]
    by_cases hc : (i : Int) < (s.len : Int)
    · rw [if_pos hc]
      have hi' : i < L.length := by omega
      refine Join.cut (fun (y : (Int × Int × Unit) × Unit) w' => Ext w w' ∧ Least (L.take (i + 1)) (y.1.1, y.1.2.1)) (fun J2 hJ2 => ?_) ?_
      · refine pair_idx (h.ext e1) hi' fun q q0 q1 => ⟨_, q0, _, q1, ?_⟩
        intro b16 w17 e17 h16 _ w18 o18
        have s1 := e1.size
        have e18 : Ext w w18 := ext_off (e1.trans e17) o18 (by omega)
        have ht : L.take (i + 1) = L.take i ++ [L[i]] := by rw [List.take_add_one, List.getElem?_eq_getElem hi']; rfl
        have go : ∀ (m : Int × Int), Least (L.take (i + 1)) m → ∀ w', Off b5 w18 w' → J2 ((m.1, m.2, ()), ()) w' := fun m hm w' o => hJ2 _ _ ⟨ext_off e18 o (by omega), hm⟩
        by_cases h0 : i = 0
        · subst h0
          simp only [Int.natCast_zero, beq_self_eq_true, cond_true]
          exact go _ (least_one (List.getElem?_eq_getElem hi'))
        · rw [show ((i : Int) == 0) = false by simpa using h0, cond_false]
          rcases hm with ⟨h', _⟩ | ⟨_, hm⟩
          · exact absurd h' h0
          have hs := least_snoc (x := L[i]) hm
          rw [← ht] at hs
          rw [Bool.cond_decide]
          by_cases c1 : L[i].2 < b
          · rw [if_pos c1]
            rw [if_pos (by simp [eLt, c1])] at hs
            exact go _ hs
          · rw [if_neg c1]
            by_cases c2 : L[i].2 = b
            · rw [show (L[i].2 == b) = true by simpa using c2, cond_true, Bool.cond_decide]
              by_cases c3 : L[i].1 < a
              · rw [if_pos c3]
                rw [if_pos (by simp [eLt, c2, c3])] at hs
                exact go _ hs
              · rw [if_neg c3]
                rw [if_neg (by simp [eLt, c2, c3])] at hs
                exact hJ2 _ _ ⟨e18, hs⟩
            · rw [show (L[i].2 == b) = false by simpa using c2, cond_false]
              rw [if_neg (by simp [eLt, c2]; omega)] at hs
              exact hJ2 _ _ ⟨e18, hs⟩
      · rintro ⟨⟨a', b', _⟩, _⟩ w2 ⟨e2, hm2⟩
        exact hJ1 (i + 1) _ _ ⟨wsucc (m := L.length + 1) (by omega) (by omega), by omega, e2, .inr ⟨by omega, hm2⟩⟩ (by omega)
    · rw [if_neg hc]
      have : i = L.length := by omega
      subst this
      refine hJ _ _ ⟨e1, ?_⟩
      rcases hm with ⟨h', hz⟩ | ⟨_, hm⟩
      · have : L = [] := List.eq_nil_of_length_eq_zero h'
        subst this; simpa [minD, minE] using hz
      · rw [List.take_length] at hm; exact hm.minD.symm
  · rintro ⟨⟨a, b, _⟩, _⟩ w25 ⟨e25, hm⟩ w26 e26 w27 o27 w28 e28
    simp only at hm
    have := hk w28 ((ext_off (e25.trans e26) o27 (by omega)).trans e28)
    rw [← hm] at this
    have hd : decide (L ≠ []) = decide ((s.len : Int) > 0) := decide_eq_decide.2 (by
      rw [hl]; cases L with
      | nil => simp
      | cons x l => simp)
    rw [hd] at this
    exact this

theorem rKey_ok {n id : Int} {s : SV} {L : List (Int × Int)} {w : World} {K : Int → Bool → World → Prop} (h : View RE w s L) (hn : L.length < 2 ^ 40)
    (h1 : ∀ key, (id, key) ∈ L → ∀ w', Ext w w' → K key true w') (h2 : (∀ key, (id, key) ∉ L) → ∀ w', Ext w w' → K 0 false w') : sh_postroadref03_Key n s id K w := by
  unfold sh_postroadref03_Key
  intro b1 w2 e2 hb1 _
  have hl := h.len
  refine LoopT.gh (γ := Nat) (fun i (x : Int × Unit) w' => x.1 = i ∧ i ≤ L.length ∧ Ext w w' ∧ ∀ j, j < i → (L.getD j (0, 0)).1 ≠ id) (fun i => L.length - i) 0
      ⟨rfl, Nat.zero_le _, e2, fun j hj => by omega⟩ ?_
  rintro i ⟨x, _⟩ w1 ⟨hx, hi, e1, hm⟩ J1 hJ1
  simp only at hx
  subst hx
  rw [Bool.cond_decide]
  by_cases hc : (i : Int) < (s.len : Int)
  · rw [if_pos hc]
    have hi' : i < L.length := by omega
    refine pair_idx (h.ext e1) hi' fun q q0 q1 => ⟨_, q0, ?_⟩
    by_cases hid : L[i].1 = id
    · rw [show (L[i].1 == id) = true by simpa using hid, cond_true]
      refine pair_idx (h.ext e1) hi' fun q q0 q1 => ⟨_, q1, ?_⟩
      exact h1 _ (by rw [← hid]; exact List.getElem_mem hi') _ e1
    · rw [show (L[i].1 == id) = false by simpa using hid, cond_false]
      refine hJ1 (i + 1) _ _ ⟨wsucc (m := L.length + 1) (by omega) (by omega), by omega, e1, fun j hj => ?_⟩ (by omega)
      by_cases hj' : j = i
      · subst hj'; rw [List.getD_eq_getElem?_getD, List.getElem?_eq_getElem hi']; exact hid
      · exact hm j (by omega)
  · rw [if_neg hc]
    refine h2 (fun key hin => ?_) _ e1
    obtain ⟨j, hj, he⟩ := List.getElem_of_mem hin
    refine hm j (by omega) ?_
    rw [List.getD_eq_getElem?_getD, List.getElem?_eq_getElem hj]
    simp [he]

theorem rid_snoc (L : List (Int × Int)) (x : Int × Int) (id : Int) : rid (L ++ [x]) id = if x.1 = id then rid L id else rid L id ++ [x] := by
  simp only [rid, List.filter_append]
  split
  · rename_i h; simp [h]
  · rename_i h; simp [h]
theorem rid_le (L : List (Int × Int)) (id : Int) : (rid L id).length ≤ L.length := List.length_filter_le _ _

theorem rDrop_ok {n id : Int} {s : SV} {L : List (Int × Int)} {w : World} {K : Int → SV → Bool → World → Prop} (h : View RE w s L) (hn : L.length < 2 ^ 40)
    (hk : ∀ t w', Ext w w' → Own RE w' t (rid L id) → Fsh w t → K n t (decide ((rid L id).length < L.length)) w') : sh_postroadref03_Drop n s id K w := by
  unfold sh_postroadref03_Drop
  intro b1 w2 e2 h1 _ b3 w4 e4 h3 _ b5 w6 e6 h5 h5' w7 o7
  have s2 := e2.size; have s4 := e4.size; have s6 := e6.size; have s7 := o7.size
  have e7 : Ext w w7 := ext_off ((e2.trans e4).trans e6) o7 (by omega)
  have hl := h.len
  refine Join.cut (fun (x : (Int × SV × Unit) × Unit) w' => Ext w w' ∧ x.1.1 = n ∧ Own RE w' x.1.2.1 (rid L id) ∧ Fsh w7 x.1.2.1) (fun J hJ => ?_) ?_
  · refine LoopT.gh (γ := Nat) (fun i (x : Int × (Int × SV × Unit) × Unit) w' => x.1 = i ∧ i ≤ L.length ∧ Ext w w' ∧ w7.heap.size ≤ w'.heap.size ∧ x.2.1.1 = n ∧ Own RE w' x.2.1.2.1 (rid (L.take i) id) ∧ Fsh w7 x.2.1.2.1) (fun i => L.length - i) 0
      ⟨rfl, Nat.zero_le _, e7, Nat.le_refl _, rfl, Own.nil, fsh_nil⟩ ?_
    rintro i ⟨x, ⟨a, t, _⟩, _⟩ w1 ⟨hx, hi, e1, z1, ha, ho, hf⟩ J1 hJ1
    simp only at hx ha ho hf
    subst hx ha
    rw [Bool.cond_decide]
    by_cases hc : (i : Int) < (s.len : Int)
    · rw [if_pos hc]
      have hi' : i < L.length := by omega
      have ht : L.take (i + 1) = L.take i ++ [L[i]] := by rw [List.take_add_one, List.getElem?_eq_getElem hi']; rfl
      refine Join.cut (fun (y : (Int × SV × Unit) × Unit) w' => Ext w w' ∧ w7.heap.size ≤ w'.heap.size ∧ y.1.1 = a ∧ Own RE w' y.1.2.1 (rid (L.take (i + 1)) id) ∧ Fsh w7 y.1.2.1) (fun J2 hJ2 => ?_) ?_
      · refine pair_idx (h.ext e1) hi' fun q q0 q1 => ⟨_, q0, ?_⟩
        by_cases hid : L[i].1 = id
        · rw [show (L[i].1 != id) = false by simpa using hid, cond_false]
          refine hJ2 _ _ ⟨e1, z1, rfl, ?_, hf⟩
          rw [ht, rid_snoc, if_pos hid]; exact ho
        · rw [show (L[i].1 != id) = true by simpa using hid, cond_true]
          refine pair_idx (h.ext e1) hi' fun q q0 q1 => ⟨_, q0, _, q1, ?_⟩
          intro w18 e18 b19 w20 e20 hb19 hB w21 e21
          have hO := ((ho.ext e18).ext e20).ext e21
          have hlen : (rid (L.take i) id).length ≤ L.length := Nat.le_trans (rid_le _ _) (by rw [List.length_take]; omega)
          refine Own.app (R := RE) hO (View.one (R := RE) (x := L[i]) (e21.blkE hB)) (by simp only [List.length_cons, List.length_nil]; omega) (by simp only [List.length_cons, List.length_nil]; omega) fun s22 w23 c23 hs hO2 => ?_
          have s18 := e18.size; have s20 := e20.size; have s21 := e21.size; have s23 := c23.size
          have sw := e1.size
          have nb : ∀ b, b < w7.heap.size → ¬ t.blk b := fun b hb hk => by have := hf b hk; omega
          refine ⟨fun c hc => ?_, fun w24 e24 w25 o25 w26 e26 => ?_⟩
          · simp only [List.mem_cons, List.not_mem_nil, or_false] at hc
            exact c23.block c (by omega) (nb c (by omega))
          · have hf2 : Fsh w7 s22 := fun k hk => by
              rcases hs k hk with h' | h'
              · exact hf k h'
              · omega
            have e24' : Ext w w24 := ((((Chg.of_ext (F := t.blk) (((e1.trans e18).trans e20).trans e21)).trans c23 fun _ _ h => h).ext fun i hi hk => by have := hf i hk; have := e7.size; omega)).trans e24
            refine hJ2 _ _ ⟨(ext_off e24' o25 (by omega)).trans e26, ?_, rfl, ?_, hf2⟩
            · have := e24.size; have := o25.size; have := e26.size; omega
            · rw [ht, rid_snoc, if_neg hid]
              exact ((hO2.ext e24).off o25 fun hk => by have := hf2 _ hk; omega).ext e26
      · rintro ⟨⟨a', t', _⟩, _⟩ w2 ⟨e2, z2, ha2, ho2, hf2⟩
        exact hJ1 (i + 1) _ _ ⟨wsucc (m := L.length + 1) (by omega) (by omega), by omega, e2, z2, ha2, ho2, hf2⟩ (by omega)
    · rw [if_neg hc]
      have : i = L.length := by omega
      subst this
      rw [List.take_length] at ho
      exact hJ _ _ ⟨e1, rfl, ho, hf⟩
  · rintro ⟨⟨a, t, _⟩, _⟩ w25 ⟨e25, ha, ho, hf⟩ w26 e26 w27 o27 w28 e28
    simp only at ha ho hf
    subst ha
    have := hk t w28 ((ext_off (e25.trans e26) o27 (by omega)).trans e28) (((ho.ext e26).off o27 fun hk => by have := hf _ hk; omega).ext e28) (fun k hk => by have := hf k hk; have := e7.size; omega)
    have hd : decide ((rid L id).length < L.length) = decide ((t.len : Int) < (s.len : Int)) := decide_eq_decide.2 (by rw [ho.view.len, hl]; omega)
    rw [hd] at this
    exact this

theorem rSet_ok {n id key : Int} {s : SV} {L : List (Int × Int)} {w : World} {K : Int → SV → Bool → World → Prop} (h : Own RE w s L) (hn : L.length < 2 ^ 40)
    (hk : ∀ t w', Ext w w' → Own RE w' t (if 0 ≤ id ∧ id < n then rid L id ++ [(id, key)] else L) → (∀ k, t.blk k → s.blk k ∨ w.heap.size ≤ k) → K n t (decide (0 ≤ id ∧ id < n)) w') : sh_postroadref03_Set n s id key K w := by
  unfold sh_postroadref03_Set
  intro b1 w2 e2 h1 _ b3 w4 e4 h3 h3'
  have s2 := e2.size; have s4 := e4.size
  have e24 := e2.trans e4
  have out : ¬ (0 ≤ id ∧ id < n) → ∀ w5, Off b3 w4 w5 → K n s false w5 := fun hr w5 o5 => by
    have := hk s w5 (ext_off e24 o5 (by omega)) (by rw [if_neg hr]; exact (h.ext e24).off o5 fun hk => by have := h.lt hk; omega) fun k hk => .inl hk
    rw [decide_eq_false hr] at this; exact this
  rw [Bool.cond_decide]
  by_cases c1 : id < 0
  · rw [if_pos c1]; exact out (by omega)
  rw [if_neg c1, Bool.cond_decide]
  by_cases c2 : id ≥ n
  · rw [if_pos c2]; exact out (by omega)
  rw [if_neg c2]
  have hr : 0 ≤ id ∧ id < n := by omega
  refine rDrop_ok (h.ext e24).view hn fun t w10 e10 ho hf => ?_
  have s10 := e10.size
  refine ⟨fun c hc => ?_, ?_⟩
  · simp only [List.mem_cons, List.not_mem_nil, or_false] at hc
    exact e10.blk (by omega)
  intro b11 w12 e12 h11 h11' w13 o13 b14 w15 e15 hb14 hB
  have s12 := e12.size; have s13 := o13.size; have s15 := e15.size
  have nt : ¬ t.blk b11 := fun hk => by have := ho.lt hk; omega
  have hO := ((ho.ext e12).off o13 nt).ext e15
  have hlen := rid_le L id
  refine Own.app (R := RE) hO (View.one (R := RE) (x := (id, key)) hB) (by simp only [List.length_cons, List.length_nil]; omega) (by simp only [List.length_cons, List.length_nil]; omega) fun s16 w17 c17 hs hO2 => ?_
  have s17 := c17.size
  have hf2 : ∀ k, s16.blk k → k ≠ b11 ∧ w4.heap.size ≤ k := fun k hk => by
    rcases hs k hk with h' | h'
    · have := ho.lt h'; exact ⟨by omega, hf k h'⟩
    · omega
  refine ⟨fun c hc => ?_, ?_⟩
  · simp only [List.mem_cons, List.not_mem_nil, or_false] at hc
    refine c17.block c (by omega) fun hk => ?_
    have h4 := hf c hk
    have := ho.lt hk
    omega
  intro w18 o18 w19 o19
  have e15' : Ext w w15 := (ext_off ((e24.trans e10).trans e12) o13 (by omega)).trans e15
  have e17 : Ext w w17 := ((Chg.of_ext (F := t.blk) e15').trans c17 fun _ _ h => h).ext fun i hi hk => by have := hf i hk; omega
  have := hk s16 w19 (ext_off (ext_off e17 o18 (by omega)) o19 (by omega))
    (by rw [if_pos hr]; exact (hO2.off o18 fun hk => (hf2 _ hk).1 rfl).off o19 fun hk => by have := (hf2 _ hk).2; omega)
    (fun k hk => .inr (by have := (hf2 k hk).2; omega))
  rw [decide_eq_true hr] at this
  exact this

/-- What the reference tells, and what is in then. -/
def refF (n : Int) (L : List (Int × Int)) (kind id key : Int) : (Int × Int × Bool) × List (Int × Int) :=
  if kind = 1 then ((0, 0, decide (0 ≤ id ∧ id < n)), if 0 ≤ id ∧ id < n then rid L id ++ [(id, key)] else L)
  else if kind = 2 then (if L ≠ [] then (((minD L).1, (minD L).2, true), rid L (minD L).1) else ((0, 0, false), L))
  else if kind = 3 then ((0, 0, decide ((rid L id).length < L.length)), rid L id)
  else if kind = 4 then ((0, 0, false), [])
  else ((0, 0, false), L)

theorem ref_step {n : Int} (hn : 0 ≤ n) {L : List (Int × Int)} (kind id key : Int) :
    (stepF n.toNat L kind id key).1 = (refF n L kind id key).1 ∧ (stepF n.toNat L kind id key).2.Perm (refF n L kind id key).2 := by
  unfold stepF refF
  split
  · have : (0 ≤ id ∧ id.toNat < n.toNat) ↔ (0 ≤ id ∧ id < n) := by omega
    by_cases hr : 0 ≤ id ∧ id < n
    · rw [if_pos (this.2 hr), if_pos hr, decide_eq_true hr]
      refine ⟨rfl, ?_⟩
      have := (List.perm_append_comm (l₁ := [(id, key)]) (l₂ := rid L id))
      simpa using this
    · rw [if_neg (fun h => hr (this.1 h)), if_neg hr, decide_eq_false hr]
      exact ⟨rfl, .refl _⟩
  split
  · by_cases hl : L = []
    · subst hl; simp [minE]
    · obtain ⟨m, hm⟩ := minE_some hl
      rw [if_pos hl]
      simp only [minD, hm, Option.getD_some]
      exact ⟨trivial, .refl _⟩
  split
  · by_cases ha : L.any (fun e => e.1 == id) = true
    · rw [if_pos ha]
      obtain ⟨e, he, hi⟩ := List.any_eq_true.1 ha
      simp at hi; subst hi
      rw [decide_eq_true (rid_len he)]
      exact ⟨rfl, .refl _⟩
    · rw [if_neg ha]
      have : rid L id = L := List.filter_eq_self.2 fun e he => by
        simp only [bne_iff_ne]; intro h'; exact ha (List.any_eq_true.2 ⟨e, he, by simpa using h'⟩)
      rw [this, decide_eq_false (Nat.lt_irrefl _)]
      exact ⟨rfl, .refl _⟩
  split
  · exact ⟨rfl, .refl _⟩
  · exact ⟨rfl, .refl _⟩

theorem ref_len {n : Int} {L : List (Int × Int)} (kind id key : Int) : (refF n L kind id key).2.length ≤ L.length + 1 := by
  have h1 := rid_le L id
  have h2 := rid_le L (minD L).1
  unfold refF
  split
  · simp only; split
    · simp; omega
    · omega
  split
  · split <;> simp <;> omega
  split
  · simp; omega
  split <;> simp

theorem rStep_ok {n kind id key : Int} {s : SV} {L : List (Int × Int)} {w : World} {K : Int → SV → Int → Int → Bool → World → Prop} (h : Own RE w s L) (hn : L.length < 2 ^ 40)
    (hk : ∀ t w', Ext w w' → Own RE w' t (refF n L kind id key).2 → (∀ k, t.blk k → s.blk k ∨ w.heap.size ≤ k) → K n t (refF n L kind id key).1.1 (refF n L kind id key).1.2.1 (refF n L kind id key).1.2.2 w') :
    sh_postroadref03_Step n s kind id key K w := by
  unfold sh_postroadref03_Step
  intro b1 w2 e2 h1 h1' b3 w4 e4 h3 h3' b5 w6 e6 h5 h5' b7 w8 e8 h7 h7'
  have s2 := e2.size; have s4 := e4.size; have s6 := e6.size; have s8 := e8.size
  have e08 : Ext w w8 := ((e2.trans e4).trans e6).trans e8
  have kp : ∀ {w'}, Ext w8 w' → Keeps [b7, b5, b3, b1] w8 w' := fun e c hc => by
    simp only [List.mem_cons, List.not_mem_nil, or_false] at hc
    exact e.blk (by omega)
  -- the end of each case
  have fin : ∀ (t : SV) (L' : List (Int × Int)) (wa : World), Ext w8 wa → Own RE wa t L' → (∀ k, t.blk k → s.blk k ∨ w8.heap.size ≤ k) →
      ∀ wb wc, Off b5 wa wb → Off b7 wb wc → Ext w wc ∧ Own RE wc t L' ∧ (∀ k, t.blk k → s.blk k ∨ w.heap.size ≤ k) := fun t L' wa ea ho hf wb wc ob oc => by
    have nb : ∀ b, w.heap.size ≤ b → b < w8.heap.size → ¬ t.blk b := fun b hb hb' hk => by
      rcases hf b hk with h' | h'
      · have := h.lt h'; omega
      · omega
    exact ⟨ext_off (ext_off (e08.trans ea) ob (by omega)) oc (by omega), (ho.off ob (nb _ (by omega) (by omega))).off oc (nb _ (by omega) (by omega)), fun k hk => (hf k hk).imp (fun h => h) fun h => by omega⟩
  -- the box of a result
  have box : ∀ (t : SV) (L' : List (Int × Int)) (wa : World), Own RE wa t L' → ∀ b wb, Ext wa wb → wa.heap.size ≤ b → ∀ wc, Off b wb wc → Own RE wc t L' := fun t L' wa ho b wb e hb wc o =>
    (ho.ext e).off o fun hk => by have := ho.lt hk; omega
  have h8 := h.ext e08
  unfold refF at hk
  by_cases k1 : kind = 1
  · subst k1
    simp only [if_true] at hk
    rw [show ((1 : Int) == 1) = true from rfl, cond_true]
    refine rSet_ok h8 hn fun t w12 e12 ho hf => ⟨kp e12, ?_⟩
    intro b13 w14 e14 h13 _ w15 o15 w16 o16 w17 o17
    have s12 := e12.size
    obtain ⟨q1, q2, q3⟩ := fin t _ w15 (ext_off (e12.trans e14) o15 (by omega)) (box t _ w12 ho b13 w14 e14 h13 w15 o15) hf w16 w17 o16 o17
    exact hk t w17 q1 q2 q3
  rw [if_neg k1] at hk
  rw [show (kind == 1) = false by simpa using k1, cond_false]
  by_cases k2 : kind = 2
  · subst k2
    simp only [if_true] at hk
    rw [show ((2 : Int) == 2) = true from rfl, cond_true]
    refine rFirst_ok h8.view hn fun w21 e21 => ⟨kp e21, ?_⟩
    intro b22 w23 e23 h22 h22' w24 o24
    have s21 := e21.size; have s23 := e23.size; have s24 := o24.size
    have e24 : Ext w8 w24 := ext_off (e21.trans e23) o24 (by omega)
    have h24 := h8.ext e24
    by_cases hl : L = []
    · rw [if_neg (fun h => h hl)] at hk
      simp only [hl, ne_eq, not_true_eq_false, decide_false, Bool.not_false, cond_true]
      intro w25 e25 w26 o26 w27 e27 w28 o28 w29 e29
      have nb : ∀ b, w.heap.size ≤ b → ¬ s.blk b := fun b hb hk => by have := h.lt hk; omega
      subst hl
      refine hk s w29 (((ext_off ((ext_off ((e08.trans e24).trans e25) o26 (by omega)).trans e27) o28 (by omega))).trans e29) ?_ (fun k hk => .inl hk)
      exact ((((h24.ext e25).off o26 (nb _ (by omega))).ext e27).off o28 (nb _ (by omega))).ext e29
    · rw [if_pos hl] at hk
      simp only [hl, ne_eq, not_false_eq_true, decide_true, Bool.not_true, cond_false]
      refine rDrop_ok h24.view hn fun t w33 e33 ho hf => ⟨fun c hc => ?_, ?_⟩
      · simp only [List.mem_cons, List.not_mem_nil, or_false] at hc
        exact e33.blk (by omega)
      intro b34 w35 e35 h34 _ w36 o36 w37 e37 w38 o38 w39 e39 w40 o40 w41 e41
      have s33 := e33.size
      have ho36 := box t _ w33 ho b34 w35 e35 h34 w36 o36
      have e36 : Ext w8 w36 := ext_off ((e24.trans e33).trans e35) o36 (by omega)
      have nb : ∀ b, b < w8.heap.size → ¬ t.blk b := fun b hb hk => by have := hf b hk; omega
      refine hk t w41 ((ext_off ((ext_off ((e08.trans e36).trans e37) o38 (by omega)).trans e39) o40 (by omega)).trans e41) ?_ (fun k hk => .inr (by have := hf k hk; omega))
      exact ((((ho36.ext e37).off o38 (nb _ (by omega))).ext e39).off o40 (nb _ (by omega))).ext e41
  rw [if_neg k2] at hk
  rw [show (kind == 2) = false by simpa using k2, cond_false]
  by_cases k3 : kind = 3
  · subst k3
    simp only [if_true] at hk
    rw [show ((3 : Int) == 3) = true from rfl, cond_true]
    refine rDrop_ok h8.view hn fun t w12 e12 ho hf => ⟨kp e12, ?_⟩
    intro b13 w14 e14 h13 _ w15 o15 w16 o16 w17 o17
    have s12 := e12.size
    obtain ⟨q1, q2, q3⟩ := fin t _ w15 (ext_off (e12.trans e14) o15 (by omega)) (box t _ w12 ho b13 w14 e14 h13 w15 o15) (fun k hk => .inr (hf k hk)) w16 w17 o16 o17
    exact hk t w17 q1 q2 q3
  rw [if_neg k3] at hk
  rw [show (kind == 3) = false by simpa using k3, cond_false]
  by_cases k4 : kind = 4
  · subst k4
    simp only [if_true] at hk
    rw [show ((4 : Int) == 4) = true from rfl, cond_true]
    intro w51 o51 w52 o52
    obtain ⟨q1, q2, q3⟩ := fin ⟨none, 0, 0⟩ [] w8 (.refl _) Own.nil (fun k hk => .inr (fsh_nil k hk)) w51 w52 o51 o52
    exact hk _ w52 q1 q2 q3
  rw [if_neg k4] at hk
  rw [show (kind == 4) = false by simpa using k4, cond_false]
  intro w51 o51 w52 o52
  obtain ⟨q1, q2, q3⟩ := fin s L w8 (.refl _) h8 (fun k hk => .inl hk) w51 w52 o51 o52
  exact hk _ w52 q1 q2 q3
end Go.Sh
