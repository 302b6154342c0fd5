/- A heap, by what is in: put and drop. -/
import Derived.Test.YtachbdfhbpmaeaaHeapWalk
set_option maxRecDepth 100000
namespace Go.Sh
open Go.RowKit

/-- A heap of so many, and what is in (in any order); its blocks. -/
structure HeapI (w : World) (hb : Nat) (s t : SV) (es : List (Int × Int)) (pl : List Int) : Prop where
  m : HeapM w hb s t es pl
  b : Bij es pl
  o : Ord es
  n : pl.length ≤ 2 ^ 24

theorem nodup_le : ∀ (n : Nat) (l : List Nat), l.Nodup → (∀ x ∈ l, x < n) → l.length ≤ n := by
  intro n l h hx
  have := h.length_le_of_subset (l₂ := List.range n) (fun x hx' => List.mem_range.2 (hx x hx'))
  simpa using this

theorem Bij.len {es : List (Int × Int)} {pl : List Int} (h : Bij es pl) : es.length ≤ pl.length := by
  have h1 : (es.map (fun e => e.1.toNat)).Nodup := by
    rw [List.nodup_iff_pairwise_ne, List.pairwise_iff_getElem]
    intro i j hi hj hij
    simp only [List.length_map] at hi hj
    simp only [List.getElem_map]
    intro he
    have a := h.a i _ (List.getElem?_eq_getElem hi)
    have b := h.a j _ (List.getElem?_eq_getElem hj)
    have := h.inj (List.getElem?_eq_getElem hi) (List.getElem?_eq_getElem hj) (by omega)
    omega
  have := nodup_le pl.length _ h1 (fun x hx => by
    obtain ⟨e, he, rfl⟩ := List.mem_map.1 hx
    obtain ⟨i, hi⟩ := List.mem_iff_getElem?.1 he
    exact (List.getElem?_eq_some_iff.1 (h.a i e hi).2).1)
  simpa using this

theorem Bij.nodupE {es : List (Int × Int)} {pl : List Int} (h : Bij es pl) : es.Nodup := by
  have := h.nodup
  rw [List.nodup_iff_pairwise_ne, List.pairwise_map] at this
  rw [List.nodup_iff_pairwise_ne]
  exact this.imp fun hne e => hne (by rw [e])

theorem Bij.place {es : List (Int × Int)} {pl : List Int} (h : Bij es pl) {e : Int × Int} (he : e ∈ es) : ∃ i : Nat, es[i]? = some e ∧ 0 ≤ e.1 ∧ pl[e.1.toNat]? = some ((i : Int) + 1) := by
  obtain ⟨i, hi⟩ := List.mem_iff_getElem?.1 he
  exact ⟨i, hi, h.a i e hi⟩

/-- Set in place. -/
theorem Bij.over {es : List (Int × Int)} {pl : List Int} (h : Bij es pl) {i : Nat} {e : Int × Int} (hi : es[i]? = some e) (key : Int) :
    Bij (es.set i (e.1, key)) pl ∧ ∀ y, y ∈ es.set i (e.1, key) ↔ y = (e.1, key) ∨ (y ∈ es ∧ y.1 ≠ e.1) := by
  have hl := (List.getElem?_eq_some_iff.1 hi).1
  refine ⟨⟨fun j f hj => ?_, fun d v hv => ?_⟩, fun y => ?_⟩
  · rw [set_get j hl] at hj
    split at hj
    · rename_i e1; subst e1; injection hj with hj; subst hj; exact h.a i e hi
    · exact h.a j f hj
  · rcases h.b d v hv with h0 | ⟨h1, f, hf, hd⟩
    · exact .inl h0
    · refine .inr ⟨h1, ?_⟩
      by_cases e1 : i = (v - 1).toNat
      · refine ⟨(e.1, key), by rw [set_get _ hl, if_pos e1], ?_⟩
        rw [← e1, hi] at hf; injection hf with hf; rw [hf]; exact hd
      · exact ⟨f, by rw [set_get _ hl, if_neg e1]; exact hf, hd⟩
  · rw [List.mem_iff_getElem?]
    constructor
    · rintro ⟨j, hj⟩
      rw [set_get j hl] at hj
      split at hj
      · injection hj with hj; exact .inl hj.symm
      · rename_i hne
        refine .inr ⟨List.mem_iff_getElem?.2 ⟨j, hj⟩, fun e1 => hne (h.inj hi hj e1.symm)⟩
    · rintro (rfl | ⟨hy, hne⟩)
      · exact ⟨i, by rw [set_get i hl, if_pos rfl]⟩
      · obtain ⟨j, hj⟩ := List.mem_iff_getElem?.1 hy
        refine ⟨j, ?_⟩
        rw [set_get j hl, if_neg (fun e1 => hne (by subst e1; rw [hi] at hj; injection hj with hj; rw [hj]))]
        exact hj

/-- One more. -/
theorem Bij.more {es : List (Int × Int)} {pl : List Int} (h : Bij es pl) {id : Int} (h0 : 0 ≤ id) (hp : pl[id.toNat]? = some 0) (key : Int) :
    Bij (es ++ [(id, key)]) (pl.set id.toNat ((es.length : Int) + 1)) := by
  have hl := (List.getElem?_eq_some_iff.1 hp).1
  refine ⟨fun j f hj => ?_, fun d v hv => ?_⟩
  · rw [List.getElem?_append] at hj
    split at hj
    · obtain ⟨g0, g1⟩ := h.a j f hj
      refine ⟨g0, ?_⟩
      rw [set_get _ hl, if_neg]
      · exact g1
      · intro e; rw [← e, hp] at g1; injection g1 with g1; omega
    · rename_i hge
      have : j - es.length = 0 := by
        have := (List.getElem?_eq_some_iff.1 hj).1; simp at this; omega
      rw [this] at hj; simp at hj; subst hj
      refine ⟨h0, ?_⟩
      rw [set_get _ hl, if_pos rfl, show es.length = j by omega]
  · rw [set_get _ hl] at hv
    split at hv
    · rename_i e1; injection hv with hv; subst hv
      refine .inr ⟨by omega, (id, key), ?_, by simp; omega⟩
      rw [show ((es.length : Int) + 1 - 1).toNat = es.length by omega]; simp
    · rcases h.b d v hv with h1 | ⟨h1, f, hf, hd⟩
      · exact .inl h1
      · exact .inr ⟨h1, f, by rw [List.getElem?_append_left (List.getElem?_eq_some_iff.1 hf).1]; exact hf, hd⟩

section
variable {w : World} {hb : Nat} {s t : SV} {es : List (Int × Int)} {pl : List Int}

/-- Behind a sink the rise: all is in order. -/
theorem sink_rise {i : Int} {K : World → Prop} (h : HeapM w hb s t es pl) (h0 : 0 ≤ i) (hi : i.toNat < es.length) (bj : Bij es pl) (hn : pl.length ≤ 2 ^ 24) (dn : DownOk es i.toNat) {id : Int} (hid : (g es i.toNat).1 = id)
    (hk : ∀ w' es' pl', Chg (hF s t) w w' → HeapM w' hb s t es' pl' → Bij es' pl' → Ord es' → es'.length = es.length → pl'.length = pl.length → (∀ x, x ∈ es' ↔ x ∈ es) → K w') :
    sh_heap_queue_sink (some ⟨hb, 0, none⟩) i (fun w19 => Nn (some ⟨hb, 0, none⟩) (fun a20 => ∃ s21 : SV, w19.cell? (a20.add 1) = some (.slice s21.a s21.len s21.cap) ∧
      Idx s21.a s21.len id 1 (fun a22 => ∃ x23 : Int, w19.cell? a22 = some (.int .i64 x23) ∧ sh_heap_queue_rise (some ⟨hb, 0, none⟩) (IntKind.i64.wrap (x23 - (1 : Int))) (fun w24 => K w24) w19))) w := by
  have hle := bj.len
  refine sink_ok h h0 hi (by omega) bj dn fun w1 es1 pl1 j c1 m1 b1 u1 hj l1 p1 mem1 => ?_
  refine ⟨_, rfl, t, by rw [addm]; exact m1.s1, ?_⟩
  obtain ⟨q0, q1⟩ := b1.a j _ hj
  rw [hid] at q0 q1
  have hql := (List.getElem?_eq_some_iff.1 q1)
  refine m1.plc q0 hql.1 fun a ha => ⟨_, ha, ?_⟩
  rw [hql.2, w64 (by omega) (by have := (List.getElem?_eq_some_iff.1 hj).1; omega), show (j : Int) + 1 - 1 = j by omega]
  refine rise_ok m1 (by omega) (by have := (List.getElem?_eq_some_iff.1 hj).1; simpa using this) (by omega) b1 (by simpa using u1) fun w2 es2 pl2 c2 m2 b2 o2 l2 p2 mem2 => ?_
  exact hk w2 es2 pl2 (c1.trans c2 fun _ _ h => h) m2 b2 o2 (l2.trans l1) (p2.trans p1) (fun x => (mem2 x).trans (mem1 x))

theorem hpput_ok {id key : Int} {K : World → Prop} (h : HeapI w hb s t es pl) (h0 : 0 ≤ id) (hd : id.toNat < pl.length)
    (hk : ∀ w' s' es' pl', Chg (fun k => k = hb ∨ hF s t k) w w' → (∀ k, s'.blk k → s.blk k ∨ w.heap.size ≤ k) → HeapI w' hb s' t es' pl' → pl'.length = pl.length → es'.Perm ((id, key) :: es.filter (fun e => e.1 != id)) → K w') :
    sh_heap_queue_put (some ⟨hb, 0, none⟩) id key K w := by
  unfold sh_heap_queue_put
  have hle := h.b.len
  have hn := h.n
  refine ⟨_, rfl, t, by rw [addm]; exact h.m.s1, h.m.plc h0 hd fun a ha => ⟨_, ha, ?_⟩⟩
  have hpm : ∀ es' : List (Int × Int), ∀ pl', Bij es' pl' → (∀ y, y ∈ es' ↔ y = (id, key) ∨ (y ∈ es ∧ y.1 ≠ id)) → es'.Perm ((id, key) :: es.filter (fun e => e.1 != id)) := fun es' pl' b hm => by
    rw [List.perm_ext_iff_of_nodup b.nodupE]
    · intro y; rw [hm]; simp [List.mem_filter]
    · rw [List.nodup_cons]; exact ⟨by simp [List.mem_filter], h.b.nodupE.filter _⟩
  rcases h.b.b id.toNat _ (List.getElem?_eq_getElem hd) with hz | ⟨h1, e, he, hed⟩
  · -- not in
    rw [hz]
    have hp0 : pl[id.toNat]? = some 0 := by rw [List.getElem?_eq_getElem hd, hz]
    have hnot : ∀ e ∈ es, e.1 ≠ id := fun e he hid => by
      obtain ⟨i, hi, _, hp⟩ := h.b.place he
      rw [hid, hp0] at hp; injection hp with hp; omega
    refine Join.cut (fun (x : Int × Unit) w1 => x.1 = es.length ∧ ∃ s', HeapM w1 hb s' t (es ++ [(0, 0)]) pl ∧ Chg (fun k => k = hb ∨ hF s t k) w w1 ∧ (∀ k, s'.blk k → s.blk k ∨ w.heap.size ≤ k)) (fun J hJ => ?_) ?_
    · rw [show IntKind.i64.wrap (0 - 1) = -1 from rfl]
      simp only [show decide ((-1 : Int) < 0) = true from rfl, cond_true]
      refine ⟨_, rfl, s, by rw [addm]; exact h.m.s0, _, rfl, s, by rw [addm]; exact h.m.s0, ?_⟩
      intro b10 w11 e11 hb10 hB
      have m11 := h.m.ext e11
      refine Own.app (R := RE) m11.l (View.one (R := RE) (x := (0, 0)) hB) (by simp only [List.length_cons, List.length_nil]; omega) (by simp only [List.length_cons, List.length_nil]; omega) fun s12 w13 c13 hs12 hO => ?_
      have hfr : ∀ k, s12.blk k → s.blk k ∨ w.heap.size ≤ k := fun k hk => (hs12 k hk).imp (fun h => h) (fun h => Nat.le_trans e11.size h)
      refine ⟨_, rfl, ?_⟩
      have hB13 := c13.blk m11.hd m11.n1
      simp only [addm]
      refine stL_blk (b := hb) (o := 0 + 0) [.slice s12.a s12.len s12.cap] 0 w13 _ _ hB13 (by simp) fun w15 o15 hB15 => ?_
      have hblt := blk_lt h.m.hd
      have hn1 : ¬ s12.blk hb := fun hk => by rcases hfr hb hk with h' | h'; exact h.m.n1 h'; omega
      refine hJ _ _ ⟨by rw [h.m.l.view.len], s12, ⟨hB15, ?_, ?_, hn1, h.m.n2, ?_⟩, ?_, hfr⟩
      · exact hO.chg (Chg.of_off (F := fun k => k = hb) o15 rfl) (fun k hk e => hn1 (e ▸ hk))
      · exact (m11.p.chg c13 (fun k hk h => m11.n3 k h hk)).chg (Chg.of_off (F := fun k => k = hb) o15 rfl) (fun k hk e => h.m.n2 (e ▸ hk))
      · intro k hk ht
        rcases hfr k hk with h' | h'
        · exact h.m.n3 k h' ht
        · have := h.m.p.lt ht; omega
      · refine ((Chg.of_ext e11).trans c13 (fun i _ h => .inr (.inl h))).trans (Chg.of_off (F := fun k => k = hb) o15 rfl) (fun i _ h => .inl h)
    · rintro ⟨x, _⟩ w17 ⟨hx, s', m17, c17, hfr⟩
      simp only at hx ⊢
      subst hx
      refine hplay_ok m17 (by omega) (by simp) (by simp; omega) h0 hd fun w18 c18 m18 => ?_
      have e1 : (es ++ [(0, 0)]).set es.length (id, key) = es ++ [(id, key)] := by
        rw [List.set_append_right _ _ (Nat.le_refl _)]; simp
      simp only [Int.toNat_natCast] at m18
      rw [e1] at m18
      have hF2 : ∀ i, i < w.heap.size → hF s' t i → (i = hb ∨ hF s t i) := fun i hi hh => .inr (hh.imp (fun h' => (hfr i h').resolve_right (by omega)) (fun h => h))
      have hgi : g (es ++ [(id, key)]) es.length = (id, key) := by simp [g, List.getD_eq_getElem?_getD]
      refine sink_rise (i := (es.length : Int)) m18 (by omega) (by simp) (h.b.more h0 hp0 key) (by simpa using hn) (by simpa using ord_push h.o (id, key)) (id := id) (by simp only [Int.toNat_natCast]; rw [hgi]) fun w2 es2 pl2 c2 m2 b2 o2 l2 p2 mem2 => ?_
      refine hk w2 s' es2 pl2 ((c17.trans c18 hF2).trans c2 hF2) hfr ⟨m2, b2, o2, by rw [p2]; simpa using hn⟩ (by rw [p2]; simp) (hpm es2 pl2 b2 fun y => ?_)
      rw [mem2, List.mem_append, List.mem_singleton]
      constructor
      · rintro (hy | hy)
        · exact .inr ⟨hy, hnot y hy⟩
        · exact .inl hy
      · rintro (hy | hy)
        · exact .inr hy
        · exact .inl hy.1
  · -- in
    generalize hv : pl[id.toNat] = v at *
    have hel := (List.getElem?_eq_some_iff.1 he).1
    have hei : e.1 = id := by omega
    have hpv : pl[id.toNat]? = some v := by rw [List.getElem?_eq_getElem hd, hv]
    have hw : IntKind.i64.wrap (v - 1) = v - 1 := w64 (by omega) (by omega)
    rw [hw]
    refine Join.cut (fun (x : Int × Unit) w1 => x.1 = v - 1 ∧ w1 = w) (fun J hJ => ?_) ?_
    · rw [Bool.cond_decide, if_neg (by omega)]
      exact hJ _ _ ⟨rfl, rfl⟩
    · rintro ⟨x, _⟩ w17 ⟨hx, rfl⟩
      simp only at hx ⊢
      subst hx
      refine hplay_ok h.m (by omega) hel (by omega) h0 hd fun w18 c18 m18 => ?_
      have e1 : pl.set id.toNat (v - 1 + 1) = pl := by
        apply List.ext_getElem?
        intro j
        rw [set_get j hd]
        split
        · rename_i e; subst e; rw [hpv]; congr 1; omega
        · rfl
      rw [e1] at m18
      obtain ⟨bo, bm⟩ := h.b.over he key
      rw [hei] at bo bm
      have hgi : g (es.set (v - 1).toNat (id, key)) (v - 1).toNat = (id, key) := by rw [g_set hel, if_pos rfl]
      refine sink_rise (i := v - 1) m18 (by omega) (by simpa using hel) bo hn (ord_down h.o (id, key) hel) (id := id) (by rw [hgi]) fun w2 es2 pl2 c2 m2 b2 o2 l2 p2 mem2 => ?_
      refine hk w2 s es2 pl2 ((c18.mono fun i _ h => .inr h).trans c2 fun i _ h => .inr h) (fun k hk => .inl hk) ⟨m2, b2, o2, by rw [p2]; exact hn⟩ p2 (hpm es2 pl2 b2 fun y => ?_)
      rw [mem2, bm]
end
end Go.Sh
