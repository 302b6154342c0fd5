/- What the heap's rise, sink, put and drop do. -/
import Derived.Test.YtachbdfhbpmaeaaHeapPure
set_option maxRecDepth 100000
namespace Go.Sh
open Go.RowKit

theorem set3 {α : Type} (l : List α) (a b : Nat) (u v x : α) : ((l.set a u).set b v).set a x = (l.set b v).set a x := by
  apply List.ext_getElem?
  intro i
  simp only [List.getElem?_set, List.length_set]
  by_cases h1 : a = i
  · simp [h1]
  · simp [h1]

/-- The heap with one entry in the hand: that is where x is. -/
structure Virt (e : Int × Int) (es : List (Int × Int)) (n : Nat) (esC : List (Int × Int)) (plC : List Int) (x : Nat) : Prop where
  len : esC.length = es.length
  plen : plC.length = n
  lt : x < esC.length
  bij : Bij (esC.set x e) (plC.set e.1.toNat ((x : Int) + 1))
  mem : ∀ y, y ∈ esC.set x e ↔ y ∈ es

theorem Virt.init {es : List (Int × Int)} {pl : List Int} (h : Bij es pl) {x : Nat} (hx : x < es.length) : Virt (g es x) es pl.length es pl x := by
  have h1 : es.set x (g es x) = es := by
    apply List.ext_getElem?
    intro i
    rw [List.getElem?_set]
    split
    · rename_i e; subst e; rw [g_get hx]
    · rfl
  have h2 : pl.set (g es x).1.toNat ((x : Int) + 1) = pl := by
    have := (h.a x _ (g_get hx)).2
    apply List.ext_getElem?
    intro i
    rw [List.getElem?_set]
    split
    · rename_i e; subst e; rw [if_pos (List.getElem?_eq_some_iff.1 this).1, this]
    · rfl
  exact ⟨rfl, rfl, hx, by rw [h1, h2]; exact h, fun y => by rw [h1]⟩

theorem Virt.id0 {e : Int × Int} {es esC : List (Int × Int)} {n : Nat} {plC : List Int} {x : Nat} (h : Virt e es n esC plC x) : 0 ≤ e.1 ∧ e.1.toNat < plC.length := by
  have := h.bij.a x e (by rw [set_get x h.lt, if_pos rfl])
  exact ⟨this.1, by have := (List.getElem?_eq_some_iff.1 this.2).1; simpa using this⟩

theorem Virt.idk {e : Int × Int} {es esC : List (Int × Int)} {n : Nat} {plC : List Int} {x k : Nat} (h : Virt e es n esC plC x) (hk : k < esC.length) (hne : x ≠ k) : 0 ≤ (g esC k).1 ∧ (g esC k).1.toNat < plC.length := by
  have := h.bij.a k (g esC k) (by rw [set_get k h.lt, if_neg hne, g_get hk])
  exact ⟨this.1, by have := (List.getElem?_eq_some_iff.1 this.2).1; simpa using this⟩

theorem Virt.sw {e : Int × Int} {esC : List (Int × Int)} {x k : Nat} (hx : x < esC.length) (hne : x ≠ k) : Go.Sh.sw (esC.set x e) x k = (esC.set x (g esC k)).set k e := by
  unfold Go.Sh.sw
  rw [g_set hx, g_set hx, if_neg hne, if_pos rfl, List.set_set]

theorem Virt.step {e : Int × Int} {es esC : List (Int × Int)} {n : Nat} {plC : List Int} {x k : Nat} (h : Virt e es n esC plC x) (hk : k < esC.length) (hne : x ≠ k) :
    Virt e es n (esC.set x (g esC k)) (plC.set (g esC k).1.toNat ((x : Int) + 1)) k := by
  have hv : (esC.set x e).length = esC.length := by simp
  have hb := h.bij.sw (i := x) (k := k) (by rw [hv]; exact h.lt) (by rw [hv]; exact hk) hne
  rw [g_set h.lt, g_set h.lt, if_neg hne, if_pos rfl, set3, Virt.sw h.lt hne] at hb
  refine ⟨by simp [h.len], by simp [h.plen], by simpa using hk, hb, fun y => ?_⟩
  rw [← Virt.sw (e := e) h.lt hne, sw_mem (by rw [hv]; exact h.lt) (by rw [hv]; exact hk)]
  exact h.mem y

section
variable {w : World} {hb : Nat} {s t : SV} {es : List (Int × Int)} {pl : List Int}

/-- An entry is read. -/
theorem HeapM.ent (h : HeapM w hb s t es pl) {i : Int} (h0 : 0 ≤ i) (hl : i.toNat < es.length) {K : Addr → Prop}
    (hk : ∀ a, w.cell? (a.add 0) = some (.int .i64 (g es i.toNat).1) → w.cell? (a.add 1) = some (.int .i64 (g es i.toNat).2) → K a) : Idx s.a s.len i 2 K := by
  refine View.idx (R := RE) h.l.view h0 hl fun a _ hc => ?_
  rw [g_eq hl] at hc
  exact hk a (hc 0 _ rfl) (hc 1 _ rfl)
theorem HeapM.plc (h : HeapM w hb s t es pl) {i : Int} (h0 : 0 ≤ i) (hl : i.toNat < pl.length) {K : Addr → Prop}
    (hk : ∀ a, w.cell? a = some (.int .i64 pl[i.toNat]) → K a) : Idx t.a t.len i 1 K := by
  refine View.idx (R := RI) h.p.view h0 hl fun a ha hc => hk a ?_
  have := hc 0 _ rfl
  rwa [show a.add 0 = a by rw [add_add _ ha]; obtain ⟨b, o, sp⟩ := a; simp at ha; simp [ha]] at this

/-- The blocks of a heap's entries and places. -/
def hF (s t : SV) (k : Nat) : Prop := s.blk k ∨ t.blk k

theorem HeapM.lt (h : HeapM w hb s t es pl) {k : Nat} (hk : hF s t k) : k < w.heap.size := hk.elim h.l.lt h.p.lt

theorem rise_ok {i : Int} {K : World → Prop} (h : HeapM w hb s t es pl) (h0 : 0 ≤ i) (hi : i.toNat < es.length) (hes : es.length < 2 ^ 61) (bj : Bij es pl) (up : UpOk es i.toNat)
    (hk : ∀ w' es' pl', Chg (hF s t) w w' → HeapM w' hb s t es' pl' → Bij es' pl' → Ord es' → es'.length = es.length → pl'.length = pl.length → (∀ x, x ∈ es' ↔ x ∈ es) → K w') :
    sh_heap_queue_rise (some ⟨hb, 0, none⟩) i K w := by
  unfold sh_heap_queue_rise
  refine ⟨_, rfl, s, by rw [addm]; exact h.s0, h.ent h0 hi fun a ha0 ha1 => ⟨_, ha0, _, ha1, ?_⟩⟩
  generalize hge : g es i.toNat = e at *
  intro b6 w7 e7 hb6 hb7 w8 o8
  have hbF : ∀ k, hF s t k → k ≠ b6 := fun k hk e => by have := h.lt hk; omega
  have hhb : hb ≠ b6 := fun e => by have := blk_lt h.hd; omega
  have c8 : Chg (hF s t) w w8 := (Chg.of_ext e7).trans (Chg.of_off (F := fun k => k = b6) o8 rfl) (fun k hk e => by omega)
  have h8 : HeapM w8 hb s t es pl := (h.ext e7).chg (Chg.of_off (F := fun k => k = b6) o8 rfl) hhb (fun k hk => hbF k (.inl hk)) (fun k hk => hbF k (.inr hk))
  have hv0 := Virt.init bj hi
  rw [hge] at hv0
  -- where the loop is left
  refine Join.cut (fun (x : Int × Unit) w1 => b6 < w1.heap.size ∧ 0 ≤ x.1 ∧ ∃ esC plC, HeapM w1 hb s t esC plC ∧ Chg (hF s t) w w1 ∧ Virt e es pl.length esC plC x.1.toNat ∧ Ord (esC.set x.1.toNat e)) (fun J hJ => ?_) ?_
  · refine ⟨fun (x : Int × Unit) w1 => b6 < w1.heap.size ∧ 0 ≤ x.1 ∧ ∃ esC plC, HeapM w1 hb s t esC plC ∧ Chg (hF s t) w w1 ∧ Virt e es pl.length esC plC x.1.toNat ∧ UpOk (esC.set x.1.toNat e) x.1.toNat, fun x _ => x.1.toNat,
      ⟨by rw [o8.size]; exact hb7, h0, es, pl, h8, c8, hv0, ?_⟩, ?_⟩
    · have : es.set i.toNat e = es := by
        apply List.ext_getElem?
        intro j
        rw [set_get j hi]
        split
        · rename_i e1; rw [← e1, g_get hi, hge]
        · rfl
      rw [this]; exact up
    · rintro ⟨x, _⟩ w1 ⟨hb1, hx0, esC, plC, hm, hc, hv, hu⟩
      simp only at hx0 hv hu ⊢
      have hlt := hv.lt
      have hlen := hv.len
      rw [Bool.cond_decide]
      by_cases hxp : x > 0
      · rw [if_pos hxp]
        have hw1 : IntKind.i64.wrap (x - 1) = x - 1 := w64 (by omega) (by omega)
        have hp : (x - 1).tdiv 2 = (((x.toNat - 1) / 2 : Nat) : Int) := by
          obtain ⟨m, hm⟩ : ∃ m : Nat, x = m := ⟨x.toNat, by omega⟩
          subst hm
          rw [Int.tdiv_eq_ediv_of_nonneg (by omega)]
          omega
        have hw2 : IntKind.i64.wrap (IntKind.i64.wrap (x - 1) |>.tdiv 2) = (((x.toNat - 1) / 2 : Nat) : Int) := by
          rw [hw1, hp]; exact w64 (by omega) (by omega)
        rw [hw2]
        have hpl : (x.toNat - 1) / 2 < esC.length := by omega
        have hne : x.toNat ≠ (x.toNat - 1) / 2 := by omega
        refine ⟨_, rfl, s, by rw [addm]; exact hm.s0, hm.ent (by omega) (by omega) fun a ha0 ha1 => ⟨_, ha0, _, ha1, ?_⟩⟩
        simp only [Int.toNat_natCast]
        refine .mk (eLt e (g esC ((x.toNat - 1) / 2))) (fun w' ew K' hK => before_ok hK) ?_
        intro w22 e22
        have hm2 := hm.ext e22
        have gx : g (esC.set x.toNat e) x.toNat = e := by rw [g_set hlt, if_pos rfl]
        have gp : g (esC.set x.toNat e) ((x.toNat - 1) / 2) = g esC ((x.toNat - 1) / 2) := by rw [g_set hlt, if_neg hne]
        cases hb : eLt e (g esC ((x.toNat - 1) / 2)) with
        | true =>
          simp only [cond_true]
          refine ⟨_, rfl, s, by rw [addm]; exact hm2.s0, hm2.ent (by omega) (by omega) fun a ha0 ha1 => ⟨_, ha0, _, ha1, ?_⟩⟩
          simp only [Int.toNat_natCast]
          obtain ⟨k0, k1⟩ := hv.idk hpl hne
          refine hplay_ok hm2 hx0 hlt (by omega) k0 k1 fun w28 c28 hm28 => ?_
          have hb22 : b6 < w22.heap.size := Nat.lt_of_lt_of_le hb1 e22.size
          refine ⟨c28.keep hb22 (fun hF => hbF b6 hF rfl), ⟨Nat.lt_of_lt_of_le hb22 c28.size, by omega, _, _, hm28, ?_, ?_, ?_⟩, ?_⟩
          · exact (hc.trans (Chg.of_ext (F := fun _ => False) e22) (fun _ _ h => h.elim)).trans c28 (fun _ _ h => h)
          · have := hv.step hpl hne
            rw [show ((x.toNat : Int)) = x by omega] at this
            simpa using this
          · have := up_step hu (by omega) (by simpa using hlt) (by rw [gx, gp]; exact hb)
            rw [Virt.sw hlt hne] at this
            simpa using this
          · omega
        | false =>
          simp only [cond_false]
          refine hJ _ _ ⟨Nat.lt_of_lt_of_le hb1 e22.size, hx0, esC, plC, hm2, hc.trans (Chg.of_ext (F := fun _ => False) e22) (fun _ _ h => h.elim), hv, up_stop hu fun _ => ?_⟩
          rw [gx, gp]; exact hb
      · rw [if_neg hxp]
        intro w29 e29
        exact hJ _ _ ⟨Nat.lt_of_lt_of_le hb1 e29.size, hx0, esC, plC, hm.ext e29, hc.trans (Chg.of_ext (F := fun _ => False) e29) (fun _ _ h => h.elim), hv, up_stop hu fun h => by omega⟩
  · rintro ⟨x, _⟩ w31 ⟨hb1, hx0, esC, plC, hm, hc, hv, ho⟩
    simp only at hx0 hv ho ⊢
    obtain ⟨k0, k1⟩ := hv.id0
    have hlt := hv.lt
    have hlen := hv.len
    refine hplay_ok (key := e.2) hm hx0 hlt (by omega) k0 k1 fun w32 c32 hm32 => ?_
    refine ⟨c32.keep hb1 (fun hF => hbF b6 hF rfl), hk w32 _ _ (hc.trans c32 fun _ _ h => h) hm32 ?_ ho (by simp [hlen]) (by simp [hv.plen]) (fun y => hv.mem y)⟩
    have := hv.bij
    rwa [show ((x.toNat : Int)) = x by omega] at this

theorem wrapk {x : Int} {n : Nat} (h0 : 0 ≤ x) (h1 : x.toNat < n) (hn : n < 2 ^ 61) :
    IntKind.i64.wrap (IntKind.i64.wrap (2 * x) + 1) = ((2 * x.toNat + 1 : Nat) : Int) ∧ IntKind.i64.wrap (IntKind.i64.wrap (IntKind.i64.wrap (2 * x) + 1) + 1) = ((2 * x.toNat + 2 : Nat) : Int) := by
  have e1 : IntKind.i64.wrap (2 * x) = 2 * x := w64 (by omega) (by omega)
  have e2 : IntKind.i64.wrap (IntKind.i64.wrap (2 * x) + 1) = ((2 * x.toNat + 1 : Nat) : Int) := by rw [e1, w64 (by omega) (by omega)]; omega
  refine ⟨e2, ?_⟩
  rw [e2, w64 (by omega) (by omega)]; omega

theorem sink_ok {i : Int} {K : World → Prop} (h : HeapM w hb s t es pl) (h0 : 0 ≤ i) (hi : i.toNat < es.length) (hes : es.length < 2 ^ 61) (bj : Bij es pl) (dn : DownOk es i.toNat)
    (hk : ∀ w' es' pl' j, Chg (hF s t) w w' → HeapM w' hb s t es' pl' → Bij es' pl' → UpOk es' j → es'[j]? = some (g es i.toNat) → es'.length = es.length → pl'.length = pl.length → (∀ x, x ∈ es' ↔ x ∈ es) → K w') :
    sh_heap_queue_sink (some ⟨hb, 0, none⟩) i K w := by
  unfold sh_heap_queue_sink
  refine ⟨_, rfl, s, by rw [addm]; exact h.s0, h.ent h0 hi fun a ha0 ha1 => ⟨_, ha0, _, ha1, ?_⟩⟩
  generalize hge : g es i.toNat = e at *
  intro b6 w7 e7 hb6 hb7 w8 o8
  have hbF : ∀ k, hF s t k → k ≠ b6 := fun k hk e => by have := h.lt hk; omega
  have hhb : hb ≠ b6 := fun e => by have := blk_lt h.hd; omega
  have c8 : Chg (hF s t) w w8 := (Chg.of_ext e7).trans (Chg.of_off (F := fun k => k = b6) o8 rfl) (fun k hk e => by omega)
  have h8 : HeapM w8 hb s t es pl := (h.ext e7).chg (Chg.of_off (F := fun k => k = b6) o8 rfl) hhb (fun k hk => hbF k (.inl hk)) (fun k hk => hbF k (.inr hk))
  have hv0 := Virt.init bj hi
  rw [hge] at hv0
  refine Join.cut (fun (x : Int × Unit) w1 => b6 < w1.heap.size ∧ 0 ≤ x.1 ∧ ∃ esC plC, HeapM w1 hb s t esC plC ∧ Chg (hF s t) w w1 ∧ Virt e es pl.length esC plC x.1.toNat ∧ UpOk (esC.set x.1.toNat e) x.1.toNat) (fun J hJ => ?_) ?_
  · refine ⟨fun (x : Int × Unit) w1 => b6 < w1.heap.size ∧ 0 ≤ x.1 ∧ ∃ esC plC, HeapM w1 hb s t esC plC ∧ Chg (hF s t) w w1 ∧ Virt e es pl.length esC plC x.1.toNat ∧ DownOk (esC.set x.1.toNat e) x.1.toNat, fun x _ => es.length - x.1.toNat,
      ⟨by rw [o8.size]; exact hb7, h0, es, pl, h8, c8, hv0, ?_⟩, ?_⟩
    · have : es.set i.toNat e = es := by
        apply List.ext_getElem?
        intro j
        rw [set_get j hi]
        split
        · rename_i e1; rw [← e1, g_get hi, hge]
        · rfl
      rw [this]; exact dn
    · rintro ⟨x, _⟩ w1 ⟨hb1, hx0, esC, plC, hm, hc, hv, hu⟩
      simp only at hx0 hv hu ⊢
      have hlt := hv.lt
      have hlen := hv.len
      have hsl : s.len = esC.length := hm.l.view.len
      obtain ⟨wk1, wk2⟩ := wrapk hx0 hlt (by omega)
      rw [wk2, wk1]
      have gk : ∀ k, x.toNat ≠ k → g (esC.set x.toNat e) k = g esC k := fun k hk => by rw [g_set hlt, if_neg hk]
      have kidq : kid (esC.set x.toNat e) x.toNat = if 2 * x.toNat + 2 < esC.length ∧ eLt (g esC (2 * x.toNat + 2)) (g esC (2 * x.toNat + 1)) = true then 2 * x.toNat + 2 else 2 * x.toNat + 1 := by
        unfold kid
        rw [gk _ (by omega), gk _ (by omega), List.length_set]
      -- which child
      refine Join.cut (fun (k : Int × Unit) w2 => Ext w1 w2 ∧ k.1 = ((kid (esC.set x.toNat e) x.toNat : Nat) : Int)) (fun J2 hJ2 => ?_) ?_
      · refine ⟨_, rfl, s, by rw [addm]; exact hm.s0, ?_⟩
        rw [Bool.cond_decide]
        by_cases hk2 : ((2 * x.toNat + 2 : Nat) : Int) < (s.len : Int)
        · rw [if_pos hk2]
          refine ⟨_, rfl, s, by rw [addm]; exact hm.s0, hm.ent (by omega) (by omega) fun a ha0 ha1 => ⟨_, ha0, _, ha1, ?_⟩⟩
          refine ⟨_, rfl, s, by rw [addm]; exact hm.s0, hm.ent (by omega) (by omega) fun b hb0 hb1 => ⟨_, hb0, _, hb1, ?_⟩⟩
          simp only [Int.toNat_natCast]
          refine .mk (eLt (g esC (2 * x.toNat + 2)) (g esC (2 * x.toNat + 1))) (fun w' ew K' hK => before_ok hK) ?_
          intro w30 e30
          cases hbt : eLt (g esC (2 * x.toNat + 2)) (g esC (2 * x.toNat + 1)) with
          | true =>
            simp only [cond_true]
            refine hJ2 _ _ ⟨e30, ?_⟩
            rw [kidq, if_pos ⟨by omega, hbt⟩]
          | false =>
            simp only [cond_false]
            refine hJ2 _ _ ⟨e30, ?_⟩
            rw [kidq, if_neg (by rw [hbt]; simp)]
        · rw [if_neg hk2]
          intro w31 e31
          refine hJ2 _ _ ⟨e31, ?_⟩
          rw [kidq, if_neg (by omega)]
      · rintro ⟨k, _⟩ w2 ⟨e2, hkk⟩
        simp only at hkk ⊢
        subst hkk
        have hm2 := hm.ext e2
        have hb2 : b6 < w2.heap.size := Nat.lt_of_lt_of_le hb1 e2.size
        have hc2 : Chg (hF s t) w w2 := hc.trans (Chg.of_ext (F := fun _ => False) e2) (fun _ _ h => h.elim)
        have hor := kid_or (esC.set x.toNat e) x.toNat
        refine ⟨_, rfl, s, by rw [addm]; exact hm2.s0, ?_⟩
        rw [Bool.cond_decide]
        by_cases hkl : ((kid (esC.set x.toNat e) x.toNat : Nat) : Int) ≥ (s.len : Int)
        · rw [if_pos hkl]
          intro w36 e36
          exact hJ _ _ ⟨Nat.lt_of_lt_of_le hb2 e36.size, hx0, esC, plC, hm2.ext e36, hc2.trans (Chg.of_ext (F := fun _ => False) e36) (fun _ _ h => h.elim), hv, down_stop hu fun h => by simp at h; omega⟩
        · rw [if_neg hkl]
          have hkl2 : kid (esC.set x.toNat e) x.toNat < esC.length := by omega
          have hne : x.toNat ≠ kid (esC.set x.toNat e) x.toNat := by omega
          refine ⟨_, rfl, s, by rw [addm]; exact hm2.s0, hm2.ent (by omega) (by omega) fun a ha0 ha1 => ⟨_, ha0, _, ha1, ?_⟩⟩
          simp only [Int.toNat_natCast]
          refine .mk (eLt e (g esC (kid (esC.set x.toNat e) x.toNat))) (fun w' ew K' hK => before_ok hK) ?_
          intro w46 e46
          have hm4 := hm2.ext e46
          have hb4 : b6 < w46.heap.size := Nat.lt_of_lt_of_le hb2 e46.size
          have hc4 : Chg (hF s t) w w46 := hc2.trans (Chg.of_ext (F := fun _ => False) e46) (fun _ _ h => h.elim)
          have gx : g (esC.set x.toNat e) x.toNat = e := by rw [g_set hlt, if_pos rfl]
          cases hbt : eLt e (g esC (kid (esC.set x.toNat e) x.toNat)) with
          | true =>
            simp only [cond_true]
            refine hJ _ _ ⟨hb4, hx0, esC, plC, hm4, hc4, hv, down_stop hu fun _ => ?_⟩
            rw [gx, gk _ hne]; exact hbt
          | false =>
            simp only [cond_false]
            refine ⟨_, rfl, s, by rw [addm]; exact hm4.s0, hm4.ent (by omega) (by omega) fun a ha0 ha1 => ⟨_, ha0, _, ha1, ?_⟩⟩
            simp only [Int.toNat_natCast]
            obtain ⟨k0, k1⟩ := hv.idk hkl2 hne
            refine hplay_ok hm4 hx0 hlt (by omega) k0 k1 fun w5 c5 hm5 => ?_
            refine ⟨c5.keep hb4 (fun hF => hbF b6 hF rfl), ⟨Nat.lt_of_lt_of_le hb4 c5.size, by omega, _, _, hm5, hc4.trans c5 (fun _ _ h => h), ?_, ?_⟩, ?_⟩
            · have := hv.step hkl2 hne
              rw [show ((x.toNat : Int)) = x by omega] at this
              simpa using this
            · have := down_step hu (by simpa using hlt) (by simpa using hkl2) (by rw [gx, gk _ hne]; exact hbt)
              rw [Virt.sw hlt hne] at this
              simpa using this
            · omega
  · rintro ⟨x, _⟩ w31 ⟨hb1, hx0, esC, plC, hm, hc, hv, ho⟩
    simp only at hx0 hv ho ⊢
    obtain ⟨k0, k1⟩ := hv.id0
    have hlt := hv.lt
    have hlen := hv.len
    refine hplay_ok (key := e.2) hm hx0 hlt (by omega) k0 k1 fun w32 c32 hm32 => ?_
    refine ⟨c32.keep hb1 (fun hF => hbF b6 hF rfl), hk w32 _ _ x.toNat (hc.trans c32 fun _ _ h => h) hm32 ?_ ho (by rw [set_get _ hlt, if_pos rfl]) (by simp [hlen]) (by simp [hv.plen]) (fun y => hv.mem y)⟩
    have := hv.bij
    rwa [show ((x.toNat : Int)) = x by omega] at this
end
end Go.Sh
