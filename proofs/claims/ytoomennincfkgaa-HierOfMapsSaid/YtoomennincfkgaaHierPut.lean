/- hier's put: an edge into a row, by its other end. -/
import Derived.Test.YtoomennincfkgaaHierCheck
set_option maxRecDepth 100000
namespace Go.Sh
open Go.RowKit

/-- s[lo:] of an owned slice. -/
theorem Own.tail {α : Type} {R : Rc α} {w : World} {s : SV} {xs : List α} (h : Own R w s xs) {lo : Nat} (h1 : lo ≤ xs.length) {K : SV → Prop}
    (hk : ∀ t : SV, View R w t (xs.drop lo) → (∀ b, s.a = some ⟨b, 0, none⟩ → (∃ c, t.a = some ⟨b, c, none⟩) ∧ (lo < xs.length → t.a = some ⟨b, lo * R.sz, none⟩)) → K t) : semSlice R.sz s.a s.len s.cap (some (lo : Int)) none K := by
  obtain ⟨rest, hl, hc, hs⟩ := h
  unfold semSlice
  simp only [Option.getD_some, Option.getD_none, Int.toNat_natCast]
  refine ⟨by omega, fun x hx => (by cases hx), by omega, by omega, hk _ ?_ ?_⟩
  · refine ⟨by simp; omega, ?_, ?_⟩
    · rintro _ p hp
      rcases hs with ⟨ha, _, _⟩ | ⟨b, ha, hB⟩
      · simp only [ha, Option.map_none, ite_self] at hp; cases hp
      · simp only [ha, Option.map_some, addm] at hp
        split at hp <;> (cases hp; rfl)
    · intro i x hx
      have hi' : i < xs.length - lo := by have := (List.getElem?_eq_some_iff.1 hx).1; simp at this; omega
      rw [List.getElem?_drop] at hx
      rcases hs with ⟨ha, hx0, _⟩ | ⟨b, ha, hB⟩
      · subst hx0; simp at hx
      · refine ⟨⟨b, lo * R.sz, none⟩, ?_, fun j v hv => ?_⟩
        · simp only [ha, Option.map_some, addm, Nat.zero_add]
          rw [if_neg (by omega)]
        · have hj : j < R.sz := by rw [← R.len x]; exact (List.getElem?_eq_some_iff.1 hv).1
          have := R.flat_get (xs ++ rest) (lo + i) j x (by rw [List.getElem?_append_left (by omega)]; exact hx) hj
          simp only
          rw [cell_blk hB, show lo * R.sz + i * R.sz + j = (lo + i) * R.sz + j by rw [Nat.add_mul], this]; exact hv
  · intro b hb
    constructor
    · by_cases hcc : s.cap = lo
      · rw [if_pos hcc]; exact ⟨0, hb⟩
      · rw [if_neg hcc, hb]; simp only [Option.map_some, addm]; exact ⟨_, rfl⟩
    · intro hlo
      rw [if_neg (by omega), hb]
      simp only [Option.map_some, addm, Nat.zero_add]

/-- copy(s[k+1:], s[k:]) -/
theorem own_shift {α : Type} {R : Rc α} {w : World} {s : SV} {ys : List α} (h : Own R w s ys) {k : Nat} (hk : k < ys.length) {K : World → World → Prop}
    (hK : ∀ w1 w', Ext w w1 → Chg s.blk w1 w' → Own R w' s (ys.take (k + 1) ++ (ys.drop k).take (ys.length - k - 1)) → K w1 w') :
    semSlice R.sz s.a s.len s.cap (some ((k + 1 : Nat) : Int)) none (fun s16 => semSlice R.sz s.a s.len s.cap (some (k : Int)) none (fun s17 => ∀ w1, Ext w w1 → Cpy R.sz s16 s17 w1 (K w1))) := by
  refine h.tail (by omega) fun t16 v16 a16 => ?_
  refine h.tail (by omega) fun t17 v17 a17 => ?_
  intro w1 e1
  have h1 := h.ext e1
  obtain ⟨rest, hl, hc, hs⟩ := h1
  rcases hs with ⟨_, hx0, _⟩ | ⟨b, ha, hB⟩
  · subst hx0; simp at hk
  have l16 := v16.len; have l17 := v17.len
  rw [List.length_drop] at l16 l17
  have hp17 := (a17 b ha).2 hk
  obtain ⟨c16, hp16⟩ := (a16 b ha).1
  have hsrc := (v17.ext e1).cells
  refine ⟨R.flat ((ys.drop k).take (ys.length - k - 1)), ?_, ?_, ?_, fun w' hnil hoff => ?_⟩
  · rw [R.flat_len, List.length_take, List.length_drop, l16, l17]; congr 1; omega
  · rcases hsrc with hn | ⟨p, hp, hcell⟩
    · left
      have : ys.drop k = [] := by
        cases hd : ys.drop k with
        | nil => rfl
        | cons x l => rw [hd, Rc.flat_cons] at hn; have h3 := R.len x; have h4 := R.pos; rw [(List.append_eq_nil_iff.1 hn).1] at h3; simp at h3; omega
      rw [this]; simp [Rc.flat]
    · refine .inr ⟨p, hp, fun j v hv => hcell j v ?_⟩
      have hd : R.flat (ys.drop k) = R.flat ((ys.drop k).take (ys.length - k - 1)) ++ R.flat ((ys.drop k).drop (ys.length - k - 1)) := by rw [← R.flat_append, List.take_append_drop]
      rw [hd, List.getElem?_append_left (List.getElem?_eq_some_iff.1 hv).1]; exact hv
  · by_cases he : k + 1 < ys.length
    · right
      have hp16' := (a16 b ha).2 he
      refine ⟨_, hp16', rfl, flat_one _, fun j hj => ?_, fun j hj => frozen_blk hB _⟩
      rw [R.flat_len, List.length_take, List.length_drop] at hj
      rw [cell_blk hB, List.getElem?_eq_getElem]; rfl
      rw [R.flat_len, List.length_append]
      have h3 : ((k + 1) + min (ys.length - k - 1) (ys.length - k)) * R.sz ≤ (ys.length + rest.length) * R.sz := Nat.mul_le_mul_right _ (by omega)
      have h4 : ((k + 1) + min (ys.length - k - 1) (ys.length - k)) * R.sz = (k + 1) * R.sz + min (ys.length - k - 1) (ys.length - k) * R.sz := Nat.add_mul _ _ _
      show (k + 1) * R.sz + j < _
      omega
    · left
      rw [show ys.length - k - 1 = 0 by omega]; simp [Rc.flat]
  · obtain ⟨o, hc1, hc2, hcs⟩ := hoff _ hp16
    simp only at o hc1 hc2 hcs
    obtain ⟨cs', hB', hl'⟩ := hcs _ hB
    refine hK w1 w' e1 (.of_off o ⟨_, ha, rfl⟩) ⟨rest, ?_, ?_, .inr ⟨b, ha, ?_⟩⟩
    · rw [hl, List.length_append, List.length_take, List.length_take, List.length_drop]; omega
    · rw [hc, List.length_append, List.length_take, List.length_take, List.length_drop]; omega
    · by_cases he : k + 1 < ys.length
      · have hp16' := (a16 b ha).2 he
        rw [hp16] at hp16'
        have hcc : c16 = (k + 1) * R.sz := by injection hp16' with h; injection h
        subst hcc
        have : cs' = R.flat (ys.take (k + 1) ++ (ys.drop k).take (ys.length - k - 1) ++ rest) := by
          apply List.ext_getElem?
          intro i
          rw [← cell_blk hB', List.append_assoc, R.flat_append, R.flat_append]
          have ht : (R.flat (ys.take (k + 1))).length = (k + 1) * R.sz := by rw [R.flat_len, List.length_take, Nat.min_eq_left (by omega)]
          have hm : (R.flat ((ys.drop k).take (ys.length - k - 1))).length = (ys.length - k - 1) * R.sz := by rw [R.flat_len, List.length_take, List.length_drop]; congr 1; omega
          have hsum : (k + 1) * R.sz + (ys.length - k - 1) * R.sz = ys.length * R.sz := by rw [← Nat.add_mul]; congr 1; omega
          by_cases hi : (k + 1) * R.sz ≤ i ∧ i < ys.length * R.sz
          · have := hc1 (i - (k + 1) * R.sz) _ (List.getElem?_eq_getElem (by rw [hm]; omega))
            rw [show (k + 1) * R.sz + (i - (k + 1) * R.sz) = i by omega] at this
            rw [this, List.getElem?_append_right (by omega), ht, List.getElem?_append_left (by rw [hm]; omega), List.getElem?_eq_getElem (by rw [hm]; omega)]
          · rw [hc2 i (by rw [hm]; omega), cell_blk hB, R.flat_append ys rest]
            by_cases hi2 : i < (k + 1) * R.sz
            · have hy : R.flat ys = R.flat (ys.take (k + 1)) ++ R.flat (ys.drop (k + 1)) := by rw [← R.flat_append, List.take_append_drop]
              rw [List.getElem?_append_left (show i < (R.flat ys).length by rw [R.flat_len]; omega), List.getElem?_append_left (l₁ := R.flat (ys.take (k + 1))) (by omega), hy, List.getElem?_append_left (l₁ := R.flat (ys.take (k + 1))) (by omega)]
            · have hi3 : ys.length * R.sz ≤ i := by omega
              rw [List.getElem?_append_right (show (R.flat ys).length ≤ i by rw [R.flat_len]; exact hi3), List.getElem?_append_right (l₁ := R.flat (ys.take (k + 1))) (by omega), List.getElem?_append_right (by omega), R.flat_len]
              congr 1; omega
        subst this; exact hB'
      · have hz : ys.length - k - 1 = 0 := by omega
        rw [hz] at hnil ⊢
        have hw := hnil (by simp [Rc.flat])
        subst hw
        rw [List.take_zero, List.append_nil, List.take_of_length_le (by omega)]; exact hB

/-- An edge in a row that rises. -/
def insE (e : Int × Int × Int) (l : List (Int × Int × Int)) : List (Int × Int × Int) := l.takeWhile (fun x => decide (x.1 < e.1)) ++ e :: l.dropWhile (fun x => decide (x.1 < e.1))
theorem insE_len (e : Int × Int × Int) (l : List (Int × Int × Int)) : (insE e l).length = l.length + 1 := by
  unfold insE
  have this : (l.takeWhile (fun x => decide (x.1 < e.1)) ++ l.dropWhile (fun x => decide (x.1 < e.1))).length = l.length := by rw [List.takeWhile_append_dropWhile]
  rw [List.length_append] at this
  simp only [List.length_append, List.length_cons]; omega
theorem insE_at {e : Int × Int × Int} : ∀ {l : List (Int × Int × Int)} {k : Nat}, k ≤ l.length → (∀ j (hj : j < l.length), j < k → l[j].1 < e.1) → (∀ h : k < l.length, ¬ l[k].1 < e.1) → insE e l = l.take k ++ e :: l.drop k
  | [], k, hk, _, _ => by simp [insE]
  | x :: l, 0, hk, _, h2 => by
    have := h2 (by simp)
    simp only [List.getElem_cons_zero] at this
    simp [insE, List.takeWhile_cons, List.dropWhile_cons, this]
  | x :: l, k + 1, hk, h1, h2 => by
    have h0 := h1 0 (by simp) (by omega)
    simp only [List.getElem_cons_zero] at h0
    have ih := insE_at (e := e) (l := l) (k := k) (by simpa using hk) (fun j hj hjk => by
      have := h1 (j + 1) (by simp; omega) (by omega); simpa using this) (fun h => by have := h2 (by simp; omega); simpa using this)
    unfold insE at ih ⊢
    simp [List.takeWhile_cons, List.dropWhile_cons, h0, ih]
theorem insE_mem {e x : Int × Int × Int} {l : List (Int × Int × Int)} : x ∈ insE e l ↔ x = e ∨ x ∈ l := by
  have : x ∈ l ↔ x ∈ l.takeWhile (fun x => decide (x.1 < e.1)) ∨ x ∈ l.dropWhile (fun x => decide (x.1 < e.1)) := by
    rw [← List.mem_append, List.takeWhile_append_dropWhile]
  rw [this]; unfold insE
  simp only [List.mem_append, List.mem_cons]
  constructor
  · rintro (h | h | h)
    · exact .inr (.inl h)
    · exact .inl h
    · exact .inr (.inr h)
  · rintro (h | h | h)
    · exact .inr (.inl h)
    · exact .inl h
    · exact .inr (.inr h)
def Rise (l : List (Int × Int × Int)) : Prop := l.Pairwise fun a b => a.1 < b.1
theorem insE_rise {e : Int × Int × Int} {l : List (Int × Int × Int)} (h : Rise l) (hn : ∀ x ∈ l, x.1 ≠ e.1) : Rise (insE e l) := by
  induction l with
  | nil => simp [insE, Rise]
  | cons x l ih =>
    have hp := List.pairwise_cons.1 h
    have hx := hn x List.mem_cons_self
    by_cases hlt : x.1 < e.1
    · have e1 : insE e (x :: l) = x :: insE e l := by simp [insE, List.takeWhile_cons, List.dropWhile_cons, hlt]
      rw [e1]
      refine List.pairwise_cons.2 ⟨fun y hy => ?_, ih hp.2 fun y hy => hn y (List.mem_cons_of_mem _ hy)⟩
      rcases insE_mem.1 hy with rfl | hy
      · exact hlt
      · exact hp.1 y hy
    · have e1 : insE e (x :: l) = e :: x :: l := by simp [insE, List.takeWhile_cons, List.dropWhile_cons, hlt]
      rw [e1]
      refine List.pairwise_cons.2 ⟨fun y hy => ?_, h⟩
      rcases List.mem_cons.1 hy with rfl | hy
      · omega
      · have := hp.1 y hy; omega

theorem put_ok {w : World} {l0 : SV} {xs : List (Int × Int × Int)} {V W A : Int} {K : SV → World → Prop} (h : Own RD w l0 xs) (hr : Rise xs) (hn : xs.length < 2 ^ 40)
    (hk : ∀ s w', Chg l0.blk w w' → (∀ k, s.blk k → l0.blk k ∨ w.heap.size ≤ k) → Own RD w' s (insE (V, W, A) xs) → K s w') : sh_hier_put l0 V W A K w := by
  unfold sh_hier_put
  intro b1 w2 e2 g1 g1'
  have z2 := e2.size
  have hl := h.view.len
  refine Join.cut (fun (x : Int × Unit) w' => Ext w2 w' ∧ ∃ k : Nat, x.1 = (k : Int) ∧ k ≤ xs.length ∧ insE (V, W, A) xs = xs.take k ++ (V, W, A) :: xs.drop k) (fun J hJ => ?_) ?_
  · refine LoopT.gh (γ := Nat) (fun k (st : Int × Unit) w' => st.1 = k ∧ k ≤ xs.length ∧ Ext w2 w' ∧ ∀ h : k < xs.length, ¬ xs[k].1 < V) (fun k => k) xs.length ⟨by simp only; omega, Nat.le_refl _, .refl _, fun h => by omega⟩ ?_
    rintro k ⟨x, _⟩ w6 ⟨hx, hk', e6, hge⟩ J1 hJ1
    simp only at hx; subst hx
    dsimp only
    rw [Bool.cond_decide]
    by_cases hc : (k : Int) > 0
    · rw [if_pos hc, show IntKind.i64.wrap ((k : Int) - 1) = ((k - 1 : Nat) : Int) by rw [w64 (by omega) (by omega)]; omega]
      have hi : k - 1 < xs.length := by omega
      refine do_idx ((h.ext e2).ext e6).view hi fun _ a0 _ _ => ⟨_, a0, ?_⟩
      intro w9 e9
      rw [Bool.cond_decide]
      by_cases hlt : xs[k - 1].1 < V
      · rw [if_pos hlt]
        refine hJ _ _ ⟨e6.trans e9, k, rfl, hk', insE_at hk' (fun j hj hjk => ?_) hge⟩
        by_cases e : j = k - 1
        · subst e; exact hlt
        · have := List.pairwise_iff_getElem.1 hr j (k - 1) hj hi (by omega); simp only; omega
      · rw [if_neg hlt]
        exact hJ1 (k - 1) _ _ ⟨rfl, by omega, e6.trans e9, fun _ => hlt⟩ (by omega)
    · rw [if_neg hc]
      exact hJ _ _ ⟨e6, k, rfl, hk', insE_at hk' (fun j hj hjk => by omega) hge⟩
  · rintro ⟨_, _⟩ w11 ⟨e11, k, rfl, hk', hins⟩
    intro b12 w13 e13 g12 hB
    have z11 := e11.size; have z13 := e13.size
    have h13 := ((h.ext e2).ext e11).ext e13
    refine Own.app (R := RD) h13 (View.one (R := RD) (x := (V, W, A)) hB) (by simp only [List.length_cons, List.length_nil]; omega) (by simp only [List.length_cons, List.length_nil]; omega) fun s14 w15 c15 hs hO => ?_
    have z15 := c15.size
    have nb : ¬ l0.blk b1 := fun hk => by have := h.lt hk; omega
    refine ⟨kp_chg c15 fun c hc => by simp only [List.mem_cons, List.not_mem_nil, or_false] at hc; subst hc; exact ⟨by omega, nb⟩, ?_⟩
    have nb14 : ¬ s14.blk b1 := fun hk => by rcases hs _ hk with h' | h'; exact nb h'; omega
    have hlen : (xs ++ [(V, W, A)]).length = xs.length + 1 := by simp
    simp only
    rw [wsucc (m := 2 ^ 41) (by omega) (by omega)]
    have hsz : (xs ++ [(V, W, A)]).take (k + 1) ++ ((xs ++ [(V, W, A)]).drop k).take ((xs ++ [(V, W, A)]).length - k - 1) = (xs ++ [(V, W, A)]).take (k + 1) ++ xs.drop k := by
      congr 1
      rw [List.drop_append_of_le_length hk', hlen, List.take_append_of_le_length (by rw [List.length_drop]; omega), List.take_of_length_le (by rw [List.length_drop]; omega)]
    refine own_shift (R := RD) hO (k := k) (by omega) (K := fun w18 w19 => Keeps [b1] w18 w19 ∧ ∀ w20, Ext w19 w20 → Idx s14.a s14.len (k : Int) 3 fun a21 => stL w20 a21 [.int .i64 V, .int .i64 W, .int .i64 A] 0 fun w22 => Keeps [b1] w20 w22 ∧ K s14 w22) fun w18 w19 e18 c19 hO19 => ?_
    have z18 := e18.size; have z19 := c19.size
    refine ⟨kp_chg c19 fun c hc => by simp only [List.mem_cons, List.not_mem_nil, or_false] at hc; subst hc; exact ⟨by omega, nb14⟩, fun w20 e20 => ?_⟩
    have z20 := e20.size
    rw [hsz] at hO19
    have hO20 := hO19.ext e20
    have hlt : k < ((xs ++ [(V, W, A)]).take (k + 1) ++ xs.drop k).length := by simp; omega
    refine own_wr (R := RD) hO20 hlt fun b hb hput => ?_
    refine hput (V, W, A) w20 _ hO20 fun w22 o22 hO22 => ⟨kp_chg (.of_off (F := s14.blk) o22 ⟨_, hb, rfl⟩) fun c hc => by simp only [List.mem_cons, List.not_mem_nil, or_false] at hc; subst hc; exact ⟨by omega, nb14⟩, ?_⟩
    have hfin : ((xs ++ [(V, W, A)]).take (k + 1) ++ xs.drop k).set k (V, W, A) = insE (V, W, A) xs := by
      rw [hins, List.set_append_left _ _ (by simp; omega)]
      have : ((xs ++ [(V, W, A)]).take (k + 1)).set k (V, W, A) = xs.take k ++ [(V, W, A)] := by
        apply List.ext_getElem?
        intro j
        rw [List.getElem?_set]
        by_cases hj : k = j
        · subst hj
          rw [if_pos rfl, if_pos (by simp; omega), List.getElem?_append_right (by simp; omega)]
          rw [List.length_take, Nat.min_eq_left hk']; simp
        · rw [if_neg hj, List.getElem?_take]
          by_cases hjk : j < k
          · rw [if_pos (by omega), List.getElem?_append_left (by omega), List.getElem?_append_left (by rw [List.length_take]; omega), List.getElem?_take, if_pos hjk]
          · rw [if_neg (by omega), List.getElem?_eq_none (by simp; omega)]
      rw [this]; simp
    rw [hfin] at hO22
    refine hk s14 w22 ?_ ?_ hO22
    · have c0 : Chg l0.blk w w15 := (Chg.of_ext (F := l0.blk) ((e2.trans e11).trans e13)).trans c15 fun _ _ h => h
      refine (((c0.trans (.of_ext (F := fun _ => False) e18) fun _ _ h => h.elim).trans c19 fun i hi hb => ?_).trans (.of_ext (F := fun _ => False) e20) fun _ _ h => h.elim).trans (.of_off (F := s14.blk) o22 ⟨_, hb, rfl⟩) fun i hi hb => ?_
      · rcases hs i hb with h' | h'
        · exact h'
        · omega
      · rcases hs i hb with h' | h'
        · exact h'
        · omega
    · intro i hi
      rcases hs i hi with h' | h'
      · exact .inl h'
      · right; omega
end Go.Sh
