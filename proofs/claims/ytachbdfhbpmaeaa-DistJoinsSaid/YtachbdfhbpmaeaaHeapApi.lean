/- The heap, as it is handed out. -/
import Derived.Test.YtachbdfhbpmaeaaHeapDrop
set_option maxRecDepth 100000
namespace Go.Sh
open Go.RowKit

/-- A heap of N numbers; what is in is L, in any order; F are its blocks. -/
def HeapA (w : World) (p : Option Addr) (N : Nat) (L : List (Int × Int)) (F : Nat → Prop) : Prop :=
  ∃ hb s t es pl, p = some ⟨hb, 0, none⟩ ∧ HeapI w hb s t es pl ∧ pl.length = N ∧ es.Perm L ∧ ∀ k, F k ↔ (k = hb ∨ hF s t k)

/-- The least of those that are in. -/
def Least (L : List (Int × Int)) (m : Int × Int) : Prop := m ∈ L ∧ ∀ y ∈ L, eLt y m = false
def rid (L : List (Int × Int)) (id : Int) : List (Int × Int) := L.filter (fun e => e.1 != id)

section
variable {w w' : World} {p : Option Addr} {N : Nat} {L : List (Int × Int)} {F : Nat → Prop}

theorem HeapA.lt (h : HeapA w p N L F) {k : Nat} (hk : F k) : k < w.heap.size := by
  obtain ⟨hb, s, t, es, pl, rfl, hi, hn, hp, hF⟩ := h
  rcases (hF k).1 hk with rfl | hk
  · exact blk_lt hi.m.hd
  · exact hi.m.lt hk
theorem HeapA.chg {G : Nat → Prop} (h : HeapA w p N L F) (c : Chg G w w') (hG : ∀ k, F k → ¬ G k) : HeapA w' p N L F := by
  obtain ⟨hb, s, t, es, pl, rfl, hi, hn, hp, hF⟩ := h
  exact ⟨hb, s, t, es, pl, rfl, ⟨hi.m.chg c (hG _ ((hF hb).2 (.inl rfl))) (fun k hk => hG k ((hF k).2 (.inr (.inl hk)))) (fun k hk => hG k ((hF k).2 (.inr (.inr hk)))), hi.b, hi.o, hi.n⟩, hn, hp, hF⟩
theorem HeapA.ext (h : HeapA w p N L F) (e : Ext w w') : HeapA w' p N L F := h.chg (G := fun _ => False) (.of_ext e) (fun _ _ h => h)
theorem HeapA.perm {L' : List (Int × Int)} (h : HeapA w p N L F) (hp : L.Perm L') : HeapA w p N L' F := by
  obtain ⟨hb, s, t, es, pl, h1, hi, hn, hq, hF⟩ := h
  exact ⟨hb, s, t, es, pl, h1, hi, hn, hq.trans hp, hF⟩
theorem HeapA.nodup (h : HeapA w p N L F) : (L.map (·.1)).Nodup := by
  obtain ⟨hb, s, t, es, pl, h1, hi, hn, hq, hF⟩ := h
  exact (hq.map _).nodup_iff.1 hi.b.nodup
theorem HeapA.range (h : HeapA w p N L F) {e : Int × Int} (he : e ∈ L) : 0 ≤ e.1 ∧ e.1.toNat < N := by
  obtain ⟨hb, s, t, es, pl, h1, hi, rfl, hq, hF⟩ := h
  obtain ⟨i, _, h0, hp⟩ := hi.b.place (hq.mem_iff.2 he)
  exact ⟨h0, (List.getElem?_eq_some_iff.1 hp).1⟩
theorem HeapA.le (h : HeapA w p N L F) : L.length ≤ N ∧ N ≤ 2 ^ 24 := by
  obtain ⟨hb, s, t, es, pl, h1, hi, rfl, hq, hF⟩ := h
  exact ⟨by rw [← hq.length_eq]; exact hi.b.len, hi.n⟩
theorem HeapA.uniq (h : HeapA w p N L F) {a b c : Int} (h1 : (a, b) ∈ L) (h2 : (a, c) ∈ L) : b = c := by
  obtain ⟨hb, s, t, es, pl, _, hi, rfl, hq, hF⟩ := h
  obtain ⟨i, hi1⟩ := List.mem_iff_getElem?.1 (hq.mem_iff.2 h1)
  obtain ⟨j, hj1⟩ := List.mem_iff_getElem?.1 (hq.mem_iff.2 h2)
  have := hi.b.inj hi1 hj1 rfl
  subst this
  rw [hi1] at hj1; injection hj1 with hj1; injection hj1

theorem New_ok {n : Int} {K : Option Addr → World → Prop} (h0 : 0 ≤ n) (h1 : n ≤ 16777216)
    (hk : ∀ p w' F, Ext w w' → HeapA w' p n.toNat [] F → (∀ k, F k → w.heap.size ≤ k) → K p w') : sh_heap_New n K w := by
  unfold sh_heap_New
  rw [Bool.cond_decide, if_neg (by omega), Bool.cond_decide, if_neg (by omega)]
  refine Own.mk (R := RI) (bytes := 8) h0 (by omega) (by omega) fun b w2 e2 hb hO => ?_
  intro b3 w4 e4 hb3 _ hB
  have hbl : b < w2.heap.size := hO.lt ⟨_, rfl, rfl⟩
  refine hk _ _ (fun k => k = b3 ∨ hF ⟨none, 0, 0⟩ ⟨some ⟨b, 0, none⟩, n.toNat, n.toNat⟩ k) (e2.trans e4) ⟨b3, ⟨none, 0, 0⟩, ⟨some ⟨b, 0, none⟩, n.toNat, n.toNat⟩, [], List.replicate n.toNat 0, rfl, ⟨⟨hB, Own.nil, hO.ext e4, ?_, ?_, ?_⟩, ?_, ?_, ?_⟩, ?_, ?_, fun k => Iff.rfl⟩ ?_
  · rintro ⟨p, hp, _⟩; cases hp
  · rintro ⟨p, hp, hpk⟩; cases hp; simp at hpk; omega
  · rintro k ⟨p, hp, _⟩; cases hp
  · refine ⟨fun i e h => by simp at h, fun d v hv => ?_⟩
    rw [List.getElem?_replicate] at hv
    split at hv
    · injection hv with hv; exact .inl hv.symm
    · cases hv
  · intro j j0 hj; simp at hj
  · simp; omega
  · simp
  · exact List.Perm.refl _
  · have := e2.size
    rintro k (rfl | ⟨p, hp, _⟩ | ⟨p, hp, rfl⟩)
    · omega
    · cases hp
    · cases hp; exact hb
theorem New_no {n : Int} {K : Option Addr → World → Prop} (h0 : ¬ (0 ≤ n ∧ n ≤ 16777216)) (hk : K none w) : sh_heap_New n K w := by
  unfold sh_heap_New
  rw [Bool.cond_decide]
  split
  · exact hk
  · rw [Bool.cond_decide]
    split
    · exact hk
    · omega

theorem may_ok {id : Int} {K : Bool → World → Prop} (h : HeapA w p N L F) (hk : K (decide (0 ≤ id ∧ id.toNat < N)) w) : sh_heap_Heap_may p id K w := by
  obtain ⟨hb, s, t, es, pl, rfl, hi, rfl, hq, hF⟩ := h
  unfold sh_heap_Heap_may
  simp only [Option.isNone_some, Bool.not_false, cond_true]
  rw [Bool.cond_decide]
  by_cases h0 : id ≥ 0
  · rw [if_pos h0]
    refine ⟨_, rfl, t, by simp only [addm]; exact hi.m.s1, ?_⟩
    rw [show decide (id < (t.len : Int)) = decide (0 ≤ id ∧ id.toNat < pl.length) by rw [hi.m.p.view.len]; congr 1; simp; omega]
    exact hk
  · rw [if_neg h0]
    rw [show decide (0 ≤ id ∧ id.toNat < pl.length) = false by simp; omega] at hk
    exact hk

theorem Set_ok {id key : Int} {K : Bool → World → Prop} (h : HeapA w p N L F) (h0 : 0 ≤ id) (hd : id.toNat < N)
    (hk : ∀ w' F', Chg F w w' → (∀ k, F' k → F k ∨ w.heap.size ≤ k) → HeapA w' p N ((id, key) :: rid L id) F' → K true w') : sh_heap_Heap_Set p id key K w := by
  unfold sh_heap_Heap_Set
  refine may_ok h ?_
  rw [decide_eq_true ⟨h0, hd⟩]
  simp only [Bool.not_true, cond_false]
  obtain ⟨hb, s, t, es, pl, rfl, hi, rfl, hq, hF⟩ := h
  refine ⟨_, rfl, ?_⟩
  simp only [addm]
  refine hpput_ok hi h0 hd fun w2 s2 es2 pl2 c2 hf2 i2 p2 q2 => ?_
  refine hk w2 (fun k => k = hb ∨ Go.Sh.hF s2 t k) (c2.mono fun i _ h => (hF i).2 h) (fun k hk => ?_) ⟨hb, s2, t, es2, pl2, rfl, i2, p2, q2.trans (.cons _ (hq.filter _)), fun k => Iff.rfl⟩
  rcases hk with hk | hk | hk
  · exact .inl ((hF k).2 (.inl hk))
  · exact (hf2 k hk).imp (fun h => (hF k).2 (.inr (.inl h))) (fun h => h)
  · exact .inl ((hF k).2 (.inr (.inr hk)))
theorem Set_out {id key : Int} {K : Bool → World → Prop} (h : HeapA w p N L F) (h0 : ¬ (0 ≤ id ∧ id.toNat < N)) (hk : K false w) : sh_heap_Heap_Set p id key K w := by
  unfold sh_heap_Heap_Set
  refine may_ok h ?_
  rw [decide_eq_false h0]
  exact hk
theorem Set_nil {id key : Int} {K : Bool → World → Prop} (hk : K false w) : sh_heap_Heap_Set none id key K w := by
  unfold sh_heap_Heap_Set sh_heap_Heap_may
  exact hk

theorem Len_ok {K : Int → World → Prop} (h : HeapA w p N L F) (hk : K (L.length : Int) w) : sh_heap_Heap_Len p K w := by
  obtain ⟨hb, s, t, es, pl, rfl, hi, rfl, hq, hF⟩ := h
  unfold sh_heap_Heap_Len
  simp only [Option.isNone_some, cond_false]
  refine ⟨_, rfl, s, by simp only [addm]; exact hi.m.s0, ?_⟩
  rw [hi.m.l.view.len, hq.length_eq]; exact hk
theorem Len_nil {K : Int → World → Prop} (hk : K 0 w) : sh_heap_Heap_Len none K w := hk

theorem First_no {K : Int → Int → Bool → World → Prop} (h : HeapA w p N [] F) (hk : K 0 0 false w) : sh_heap_Heap_First p K w := by
  unfold sh_heap_Heap_First
  refine Len_ok h ?_
  exact hk
theorem First_ok {K : Int → Int → Bool → World → Prop} (h : HeapA w p N L F) (hl : L ≠ []) (hk : ∀ m w', Least L m → Ext w w' → K m.1 m.2 true w') : sh_heap_Heap_First p K w := by
  unfold sh_heap_Heap_First
  refine Len_ok h ?_
  have hl0 : L.length ≠ 0 := fun e => hl (List.eq_nil_of_length_eq_zero e)
  rw [show (((L.length : Int)) == 0) = false by simp; exact fun e => hl e]
  simp only [cond_false]
  obtain ⟨hb, s, t, es, pl, rfl, hi, rfl, hq, hF⟩ := h
  have hel : 0 < es.length := by rw [hq.length_eq]; omega
  refine ⟨_, rfl, s, by simp only [addm]; exact hi.m.s0, hi.m.ent (by omega) (by simpa using hel) fun a ha0 _ => ⟨_, ha0, ?_⟩⟩
  refine ⟨_, rfl, s, by simp only [addm]; exact hi.m.s0, hi.m.ent (by omega) (by simpa using hel) fun a _ ha1 => ⟨_, ha1, fun w11 e11 => ?_⟩⟩
  refine hk (g es 0) w11 ⟨?_, fun y hy => ?_⟩ e11
  · exact hq.mem_iff.1 (List.mem_iff_getElem?.2 ⟨0, g_get hel⟩)
  · obtain ⟨j, hj⟩ := List.mem_iff_getElem?.1 (hq.mem_iff.2 hy)
    have hjl := (List.getElem?_eq_some_iff.1 hj).1
    rw [g_get hjl] at hj; injection hj with hj; subst hj
    exact ord_first hi.o j hjl

theorem dropq_ok {id key : Int} {K : World → Prop} (h : HeapA w p N L F) (hin : (id, key) ∈ L)
    (hk : ∀ w' F', Chg F w w' → (∀ k, F' k → F k ∨ w.heap.size ≤ k) → HeapA w' p N (rid L id) F' → K w') : Nn p (fun a => sh_heap_queue_drop (some (a.add 0)) id K w) := by
  obtain ⟨hb, s, t, es, pl, rfl, hi, rfl, hq, hF⟩ := h
  refine ⟨_, rfl, ?_⟩
  simp only [addm]
  refine drop_ok hi (hq.mem_iff.2 hin) fun w2 s2 es2 pl2 c2 hf2 i2 p2 q2 => ?_
  refine hk w2 (fun k => k = hb ∨ Go.Sh.hF s2 t k) (c2.mono fun i _ h => (hF i).2 h) (fun k hk => .inl ?_) ⟨hb, s2, t, es2, pl2, rfl, i2, p2, q2.trans (hq.filter _), fun k => Iff.rfl⟩
  rcases hk with hk | hk | hk
  · exact (hF k).2 (.inl hk)
  · exact (hF k).2 (.inr (.inl (hf2 k hk)))
  · exact (hF k).2 (.inr (.inr hk))

theorem Pop_no {K : Int → Int → Bool → World → Prop} (h : HeapA w p N [] F) (hk : K 0 0 false w) : sh_heap_Heap_Pop p K w := by
  unfold sh_heap_Heap_Pop
  refine First_no h ?_
  exact hk
theorem Pop_ok {K : Int → Int → Bool → World → Prop} (h : HeapA w p N L F) (hl : L ≠ [])
    (hk : ∀ m w' F', Least L m → Chg F w w' → (∀ k, F' k → F k ∨ w.heap.size ≤ k) → HeapA w' p N (rid L m.1) F' → K m.1 m.2 true w') : sh_heap_Heap_Pop p K w := by
  unfold sh_heap_Heap_Pop
  refine First_ok h hl fun m w1 hm e1 => ?_
  unfold Join
  simp only [cond_true]
  refine dropq_ok (h.ext e1) (id := m.1) (key := m.2) hm.1 fun w2 F2 c2 f2 h2 => ?_
  exact hk m w2 F2 hm ((Chg.of_ext e1).trans c2 fun _ _ h => h) (fun k hk => (f2 k hk).imp (fun h => h) (fun h => Nat.le_trans e1.size h)) h2

theorem Key_ok {id : Int} {K : Int → Bool → World → Prop} (h : HeapA w p N L F) (h1 : ∀ key, (id, key) ∈ L → ∀ w', Ext w w' → K key true w') (h2 : (∀ key, (id, key) ∉ L) → K 0 false w) : sh_heap_Heap_Key p id K w := by
  unfold sh_heap_Heap_Key
  refine may_ok h ?_
  by_cases hr : 0 ≤ id ∧ id.toNat < N
  · rw [decide_eq_true hr]
    simp only [Bool.not_true, cond_false]
    obtain ⟨h0, hd⟩ := hr
    obtain ⟨hb, s, t, es, pl, rfl, hi, rfl, hq, hF⟩ := h
    have hpd := List.getElem?_eq_getElem hd
    refine ⟨_, rfl, t, by simp only [addm]; exact hi.m.s1, hi.m.plc h0 hd fun a ha => ⟨_, ha, ?_⟩⟩
    rcases hi.b.b id.toNat _ hpd with hz | ⟨hv1, e, he, hed⟩
    · rw [hz]
      refine h2 fun key hin => ?_
      obtain ⟨i, _, _, hp⟩ := hi.b.place (hq.mem_iff.2 hin)
      simp only at hp
      rw [hpd, hz] at hp; injection hp with hp; omega
    · rw [show (pl[id.toNat] == 0) = false by simp; omega]
      simp only [cond_false]
      have hel := (List.getElem?_eq_some_iff.1 he).1
      have hle := hi.b.len
      have hn := hi.n
      obtain ⟨_, hp⟩ := hi.b.a _ e he
      have hei : e.1 = id := by have := (hi.b.a _ e he).1; omega
      refine ⟨_, rfl, s, by simp only [addm]; exact hi.m.s0, _, rfl, t, by simp only [addm]; exact hi.m.s1, hi.m.plc h0 hd fun a ha => ⟨_, ha, ?_⟩⟩
      have hw : IntKind.i64.wrap (pl[id.toNat] - 1) = pl[id.toNat] - 1 := w64 (by omega) (by omega)
      rw [hw]
      refine hi.m.ent (by omega) hel fun a _ ha1 => ⟨_, ha1, fun w15 e15 => ?_⟩
      rw [g_of he]
      refine h1 e.2 (hq.mem_iff.1 ?_) w15 e15
      rw [← hei]; exact List.mem_iff_getElem?.2 ⟨_, he⟩
  · rw [decide_eq_false hr]
    exact h2 fun key hin => hr (h.range hin)

theorem rid_len {L : List (Int × Int)} {m : Int × Int} (h : m ∈ L) : (rid L m.1).length < L.length := by
  unfold rid
  induction L with
  | nil => cases h
  | cons x L ih =>
    by_cases hx : x.1 = m.1
    · rw [List.filter_cons_of_neg (by simpa using hx)]
      exact Nat.lt_succ_of_le (List.length_filter_le _ _)
    · rw [List.filter_cons_of_pos (by simpa using hx)]
      have hm : m ∈ L := by
        rcases List.mem_cons.1 h with h' | h'
        · exact absurd (by rw [h']) hx
        · exact h'
      exact Nat.succ_lt_succ (ih hm)

end
end Go.Sh
