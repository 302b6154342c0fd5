/- A heap: drop. -/
import Derived.Test.YtachbdfhbpmaeaaHeapPut
set_option maxRecDepth 100000
namespace Go.Sh
open Go.RowKit

theorem Own.cut {α : Type} {R : Rc α} {w : World} {s : SV} {xs ys : List α} (h : Own R w s (xs ++ ys)) : Own R w ⟨s.a, xs.length, s.cap⟩ xs := by
  obtain ⟨rest, h1, h2, h3⟩ := h
  refine ⟨ys ++ rest, rfl, by simp [h2, Nat.add_assoc], ?_⟩
  rcases h3 with ⟨ha, hx, hr⟩ | ⟨b, ha, hB⟩
  · obtain ⟨hx, hy⟩ := List.append_eq_nil_iff.1 hx
    exact .inl ⟨ha, hx, by rw [hy, hr]; rfl⟩
  · exact .inr ⟨b, ha, by rw [← List.append_assoc]; exact hB⟩

theorem Bij.last {es : List (Int × Int)} {x : Int × Int} {pl : List Int} (h : Bij (es ++ [x]) pl) : Bij es (pl.set x.1.toNat 0) := by
  obtain ⟨x0, xp⟩ := h.a es.length x (by simp)
  have hl := (List.getElem?_eq_some_iff.1 xp).1
  refine ⟨fun j f hj => ?_, fun d v hv => ?_⟩
  · have hjl := (List.getElem?_eq_some_iff.1 hj).1
    obtain ⟨f0, fp⟩ := h.a j f (by rw [List.getElem?_append_left hjl]; exact hj)
    refine ⟨f0, ?_⟩
    rw [set_get _ hl, if_neg]
    · exact fp
    · intro e; rw [← e, xp] at fp; injection fp with fp; omega
  · rw [set_get _ hl] at hv
    split at hv
    · injection hv with hv; exact .inl hv.symm
    · rename_i hne
      rcases h.b d v hv with h1 | ⟨h1, f, hf, hd⟩
      · exact .inl h1
      · refine .inr ⟨h1, f, ?_, hd⟩
        rw [List.getElem?_append] at hf
        split at hf
        · exact hf
        · exfalso
          have : (v - 1).toNat - es.length = 0 := by
            have := (List.getElem?_eq_some_iff.1 hf).1; simp at this; omega
          rw [this] at hf; simp at hf; subst hf; omega

theorem Bij.fill {es : List (Int × Int)} {x e : Int × Int} {pl : List Int} (h : Bij (es ++ [x]) pl) {i : Nat} (hi : es[i]? = some e) :
    Bij (es.set i x) ((pl.set e.1.toNat 0).set x.1.toNat ((i : Int) + 1)) ∧ ∀ y, y ∈ es.set i x ↔ (y ∈ es ++ [x] ∧ y.1 ≠ e.1) := by
  obtain ⟨x0, xp⟩ := h.a es.length x (by simp)
  have hl := (List.getElem?_eq_some_iff.1 xp).1
  have hil := (List.getElem?_eq_some_iff.1 hi).1
  have hi' : (es ++ [x])[i]? = some e := by rw [List.getElem?_append_left hil]; exact hi
  obtain ⟨e0, ep⟩ := h.a i e hi'
  have hel := (List.getElem?_eq_some_iff.1 ep).1
  have hxe : x.1 ≠ e.1 := fun he => by
    have := h.inj (i := es.length) (j := i) (by simp) hi' he; omega
  have ps : ∀ d, ((pl.set e.1.toNat 0).set x.1.toNat ((i : Int) + 1))[d]? = if x.1.toNat = d then some ((i : Int) + 1) else if e.1.toNat = d then some 0 else pl[d]? := by
    intro d; rw [set_get d (by simpa using hl), set_get d hel]
  refine ⟨⟨fun j f hj => ?_, fun d v hv => ?_⟩, fun y => ?_⟩
  · rw [set_get j hil] at hj
    split at hj
    · rename_i e1; injection hj with hj; subst hj; exact ⟨x0, by rw [ps, if_pos rfl, e1]⟩
    · rename_i hne
      have hjl := (List.getElem?_eq_some_iff.1 hj).1
      have hj' : (es ++ [x])[j]? = some f := by rw [List.getElem?_append_left hjl]; exact hj
      obtain ⟨f0, fp⟩ := h.a j f hj'
      refine ⟨f0, ?_⟩
      rw [ps, if_neg, if_neg]
      · exact fp
      · intro e1; rw [← e1, ep] at fp; injection fp with fp; omega
      · intro e1; rw [← e1, xp] at fp; injection fp with fp; omega
  · rw [ps] at hv
    split at hv
    · injection hv with hv; subst hv
      rename_i e1
      refine .inr ⟨by omega, x, ?_, by omega⟩
      rw [show ((i : Int) + 1 - 1).toNat = i by omega, set_get i hil, if_pos rfl]
    · rename_i n1
      split at hv
      · injection hv with hv; exact .inl hv.symm
      · rename_i n2
        rcases h.b d v hv with h1 | ⟨h1, f, hf, hd⟩
        · exact .inl h1
        · refine .inr ⟨h1, f, ?_, hd⟩
          rw [List.getElem?_append] at hf
          split at hf
          · rename_i hlt
            rw [set_get _ hil, if_neg]
            · exact hf
            · intro e1; rw [← e1, hi] at hf; injection hf with hf; subst hf; omega
          · exfalso
            have : (v - 1).toNat - es.length = 0 := by
              have := (List.getElem?_eq_some_iff.1 hf).1; simp at this; omega
            rw [this] at hf; simp at hf; subst hf; omega
  · rw [List.mem_iff_getElem?]
    constructor
    · rintro ⟨j, hj⟩
      rw [set_get j hil] at hj
      split at hj
      · injection hj with hj; subst hj; exact ⟨by simp, hxe⟩
      · rename_i hne
        have hjl := (List.getElem?_eq_some_iff.1 hj).1
        have hj' : (es ++ [x])[j]? = some y := by rw [List.getElem?_append_left hjl]; exact hj
        exact ⟨List.mem_iff_getElem?.2 ⟨j, hj'⟩, fun he => hne (h.inj hi' hj' he.symm)⟩
    · rintro ⟨hy, hne⟩
      rcases List.mem_append.1 hy with hy | hy
      · obtain ⟨j, hj⟩ := List.mem_iff_getElem?.1 hy
        refine ⟨j, ?_⟩
        rw [set_get j hil, if_neg (fun e1 => hne (by subst e1; rw [hi] at hj; injection hj with hj; rw [hj]))]
        exact hj
      · simp at hy; subst hy; exact ⟨i, by rw [set_get i hil, if_pos rfl]⟩

section
variable {w : World} {hb : Nat} {s t : SV} {es : List (Int × Int)} {pl : List Int}

theorem drop_ok {id key : Int} {K : World → Prop} (h : HeapI w hb s t es pl) (hin : (id, key) ∈ es)
    (hk : ∀ w' s' es' pl', Chg (fun k => k = hb ∨ hF s t k) w w' → (∀ k, s'.blk k → s.blk k) → HeapI w' hb s' t es' pl' → pl'.length = pl.length → es'.Perm (es.filter (fun e => e.1 != id)) → K w') :
    sh_heap_queue_drop (some ⟨hb, 0, none⟩) id K w := by
  obtain ⟨i, hi, h0, hp⟩ := h.b.place hin
  simp only at h0 hp
  have hd := (List.getElem?_eq_some_iff.1 hp).1
  have hle := h.b.len
  have hn := h.n
  -- the last one
  obtain ⟨es0, x, rfl⟩ : ∃ es0 x, es = es0 ++ [x] := by
    rcases List.eq_nil_or_concat es with h' | h'
    · subst h'; cases hin
    · obtain ⟨l, a, h'⟩ := h'; exact ⟨l, a, by rw [h', List.concat_eq_append]⟩
  have hsl : s.len = es0.length + 1 := by rw [h.m.l.view.len]; simp
  have hil := (List.getElem?_eq_some_iff.1 hi).1
  simp only [List.length_append, List.length_cons, List.length_nil] at hil hle
  have hgl : g (es0 ++ [x]) es0.length = x := by simp [g, List.getD_eq_getElem?_getD]
  unfold sh_heap_queue_drop
  refine ⟨_, rfl, t, by rw [addm]; exact h.m.s1, h.m.plc h0 hd fun a ha => ⟨_, ha, ?_⟩⟩
  have hpe : pl[id.toNat] = (i : Int) + 1 := by
    rw [List.getElem?_eq_getElem hd] at hp; injection hp
  rw [hpe]
  refine ⟨_, rfl, s, by rw [addm]; exact h.m.s0, fun w7 e7 => ?_⟩
  have m7 := h.m.ext e7
  have hwl : IntKind.i64.wrap ((s.len : Int) - 1) = (es0.length : Int) := by rw [hsl, w64 (by omega) (by omega)]; omega
  have hwi : IntKind.i64.wrap ((i : Int) + 1 - 1) = (i : Int) := by rw [w64 (by omega) (by omega)]; omega
  rw [hwl, hwi]
  refine ⟨_, rfl, s, by rw [addm]; exact m7.s0, m7.ent (by omega) (by simp) fun a ha0 ha1 => ⟨_, ha0, _, ha1, ?_⟩⟩
  simp only [Int.toNat_natCast, hgl]
  intro b13 w14 e14 hb13 hb13' w15 o15
  have hbF : ∀ k, k = hb ∨ hF s t k → k ≠ b13 := fun k hk e => by
    have : k < w7.heap.size := by
      rcases hk with rfl | hk
      · exact blk_lt m7.hd
      · exact m7.lt hk
    omega
  have m15 : HeapM w15 hb s t (es0 ++ [x]) pl := (m7.ext e14).chg (Chg.of_off (F := fun k => k = b13) o15 rfl) (hbF hb (.inl rfl)) (fun k hk => hbF k (.inr (.inl hk))) (fun k hk => hbF k (.inr (.inr hk)))
  have c15 : Chg (fun k => k = hb ∨ hF s t k) w w15 := (Chg.of_ext (e7.trans e14)).trans (Chg.of_off (F := fun k => k = b13) o15 rfl) (fun k hk e => by have := e7.size; omega)
  refine ⟨_, rfl, t, by rw [addm]; exact m15.s1, _, rfl, s, by rw [addm]; exact m15.s0, ?_⟩
  have hcap : es0.length + 1 ≤ s.cap := by
    obtain ⟨rest, hq1, hq2, _⟩ := m15.l
    rw [hq2]; simp
  obtain ⟨sb, hsb⟩ : ∃ sb, s.a = some ⟨sb, 0, none⟩ := by
    obtain ⟨rest, _, _, hq3⟩ := m15.l
    rcases hq3 with ⟨_, hx, _⟩ | ⟨b, hb, _⟩
    · simp at hx
    · exact ⟨b, hb⟩
  unfold semSlice
  simp only [Option.getD_some, Option.getD_none, Int.toNat_natCast, Int.toNat_zero, Nat.sub_zero, Nat.zero_mul]
  refine ⟨by omega, (fun y hy => by injection hy with hy; omega), by omega, by omega, ?_⟩
  rw [if_neg (by omega), hsb]
  simp only [Option.map_some, addm, Nat.add_zero]
  refine ⟨_, rfl, fun w22 e22 => ?_⟩
  have m22 := m15.ext e22
  refine stL_blk (b := hb) (o := 0) [.slice (some ⟨sb, 0, none⟩) es0.length s.cap] 0 w22 _ _ m22.hd (by simp) fun w23 o23 hB23 => ?_
  have hbs : b13 < w22.heap.size := by have := e22.size; have := o15.size; omega
  refine ⟨fun c hc => by simp at hc; subst hc; exact o23.block _ (fun e => hbF hb (.inl rfl) e.symm), ?_⟩
  -- the shorter one
  have hblk : ∀ k, (⟨some ⟨sb, 0, none⟩, es0.length, s.cap⟩ : SV).blk k → s.blk k := fun k ⟨p, hp, hpk⟩ => ⟨p, by rw [hsb]; exact hp, hpk⟩
  have cO : Chg (fun k => k = hb) w22 w23 := Chg.of_off o23 rfl
  have m23 : HeapM w23 hb ⟨some ⟨sb, 0, none⟩, es0.length, s.cap⟩ t es0 pl := by
    refine ⟨hB23, ?_, m22.p.chg cO (fun k hk e => h.m.n2 (e ▸ hk)), fun hk => h.m.n1 (hblk _ hk), h.m.n2, fun k hk => h.m.n3 k (hblk k hk)⟩
    have := (m22.l.chg cO (fun k hk e => h.m.n1 (e ▸ hk))).cut
    rwa [hsb] at this
  refine m23.p.put h0 hd fun d htd hput => ?_
  have hdt : t.blk d := ⟨_, htd, rfl⟩
  intro w25 e25
  have m25 := m23.ext e25
  refine hput 0 w25 _ m25.p fun w26 o26 O26 => ?_
  refine ⟨fun c hc => by simp at hc; subst hc; exact o26.block _ (fun e => hbF d (.inr (.inr hdt)) e.symm), ?_⟩
  intro w27 e27
  have c26 : Chg t.blk w25 w26 := .of_off o26 hdt
  have m27 : HeapM w27 hb ⟨some ⟨sb, 0, none⟩, es0.length, s.cap⟩ t es0 (pl.set id.toNat 0) :=
    HeapM.ext ⟨c26.blk m25.hd m25.n2, m25.l.chg c26 m25.n3, O26, m25.n1, m25.n2, m25.n3⟩ e27
  have hFF : ∀ k, hF ⟨some ⟨sb, 0, none⟩, es0.length, s.cap⟩ t k → (k = hb ∨ hF s t k) := fun k hk => .inr (hk.imp (hblk k) (fun h => h))
  have c27 : Chg (fun k => k = hb ∨ hF s t k) w w27 :=
    ((((c15.trans (Chg.of_ext (F := fun _ => False) e22) (fun _ _ h => h.elim)).trans cO (fun _ _ h => .inl h)).trans (Chg.of_ext (F := fun _ => False) e25) (fun _ _ h => h.elim)).trans c26 (fun _ _ h => .inr (.inr h))).trans
      (Chg.of_ext (F := fun _ => False) e27) (fun _ _ h => h.elim)
  have hb27 : b13 < w27.heap.size := by
    have := e27.size; have := e25.size; have := o23.size; have := o26.size; omega
  have hpm : ∀ es' : List (Int × Int), ∀ pl', Bij es' pl' → (∀ y, y ∈ es' ↔ (y ∈ es0 ++ [x] ∧ y.1 ≠ id)) → es'.Perm ((es0 ++ [x]).filter (fun e => e.1 != id)) := fun es' pl' b hm => by
    rw [List.perm_ext_iff_of_nodup b.nodupE (h.b.nodupE.filter _)]
    intro y; rw [hm, List.mem_filter, bne_iff_ne]
  by_cases hx : x.1 = id
  · have hbe : (x.1 == id) = true := by simpa using hx
    rw [hbe, cond_true]
    have bl := h.b.last
    rw [hx] at bl
    refine hk w27 _ es0 _ c27 hblk ⟨m27, bl, ord_take h.o, by simpa using hn⟩ (by simp) (hpm es0 _ bl fun y => ?_)
    rw [List.mem_append, List.mem_singleton]
    constructor
    · intro hy
      refine ⟨.inl hy, fun hyi => ?_⟩
      obtain ⟨j, hj⟩ := List.mem_iff_getElem?.1 hy
      have hjl := (List.getElem?_eq_some_iff.1 hj).1
      have := h.b.inj (i := j) (j := es0.length) (by rw [List.getElem?_append_left hjl]; exact hj) (by simp) (hyi.trans hx.symm)
      omega
    · rintro ⟨hy | hy, hne⟩
      · exact hy
      · subst hy; exact absurd hx hne
  · have hbe : (x.1 == id) = false := by simpa using hx
    rw [hbe, cond_false]
    have hi0 : i < es0.length := by
      rcases Nat.lt_or_ge i es0.length with h' | h'
      · exact h'
      · exfalso
        have hie : i = es0.length := by omega
        rw [hie] at hi; simp at hi; rw [hi] at hx; exact hx rfl
    have hies : es0[i]? = some (id, key) := by rw [List.getElem?_append_left hi0] at hi; exact hi
    obtain ⟨bf, mf⟩ := h.b.fill hies
    simp only at bf mf
    obtain ⟨x0, xp⟩ := h.b.a es0.length x (by simp)
    have hxl := (List.getElem?_eq_some_iff.1 xp).1
    refine hplay_ok m27 (by omega) (by simpa using hi0) (by omega) x0 (by simpa using hxl) fun w28 c28 m28 => ?_
    simp only [Int.toNat_natCast] at m28
    refine ⟨c28.keep hb27 (fun hF => hbF b13 (hFF b13 hF) rfl), ?_⟩
    have hb28 := Nat.lt_of_lt_of_le hb27 c28.size
    have hlen : (es0.set i x).length = es0.length := by simp
    refine sink_ok m28 (by omega) (by simpa using hi0) (by rw [hlen]; omega) bf (by simpa using ord_down (ord_take h.o) x hi0) fun w1 es1 pl1 j c1 m1 b1 u1 hj l1 p1 mem1 => ?_
    refine ⟨c1.keep hb28 (fun hF => hbF b13 (hFF b13 hF) rfl), ?_⟩
    have hb1 := Nat.lt_of_lt_of_le hb28 c1.size
    rw [show g (es0.set i x) ((i : Int)).toNat = x by rw [Int.toNat_natCast, g_set hi0, if_pos rfl]] at hj
    refine ⟨_, rfl, t, by rw [addm]; exact m1.s1, ?_⟩
    obtain ⟨q0, q1⟩ := b1.a j _ hj
    have hql := (List.getElem?_eq_some_iff.1 q1)
    have hjl := (List.getElem?_eq_some_iff.1 hj).1
    have hl1 : es1.length = es0.length := by rw [l1]; simp
    refine m1.plc q0 hql.1 fun a ha => ⟨_, ha, fun w34 e34 => ?_⟩
    rw [hql.2, w64 (by omega) (by omega), show (j : Int) + 1 - 1 = j by omega]
    refine rise_ok (m1.ext e34) (by omega) (by simpa using hjl) (by omega) b1 (by simpa using u1) fun w2 es2 pl2 c2 m2 b2 o2 l2 p2 mem2 => ?_
    refine ⟨c2.keep (Nat.lt_of_lt_of_le hb1 e34.size) (fun hF => hbF b13 (hFF b13 hF) rfl), fun w36 e36 => ?_⟩
    refine hk w36 _ es2 pl2 ?_ hblk ⟨m2.ext e36, b2, o2, by rw [p2, p1]; simpa using hn⟩ (by rw [p2, p1]; simp) (hpm es2 pl2 b2 fun y => ?_)
    · exact ((((c27.trans c28 (fun k _ hk => hFF k hk)).trans c1 (fun k _ hk => hFF k hk)).trans (Chg.of_ext (F := fun _ => False) e34) (fun _ _ h => h.elim)).trans c2 (fun k _ hk => hFF k hk)).trans (Chg.of_ext (F := fun _ => False) e36) (fun _ _ h => h.elim)
    · rw [mem2, mem1, mf]
end
end Go.Sh
