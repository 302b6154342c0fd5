/- What the heap's inner functions do to memory. -/
import Derived.Test.YtachbdfhbpmaeaaBase
import Derived.Test.YtachbdfhbpmaeaaAllDef
set_option maxRecDepth 100000
namespace Go.Sh
open Go.RowKit

/-- One entry ahead of another one. -/
def eLt (e f : Int × Int) : Bool := decide (e.2 < f.2) || (e.2 == f.2 && decide (e.1 < f.1))
def cmpI (x y : Int) : Int := if x < y then -1 else if x > y then 1 else 0

theorem compare_eq (x y : Int) (K : Int → World → Prop) (w : World) : sh_cmp_Compare_int x y K w = K (cmpI x y) w := by
  unfold sh_cmp_Compare_int sh_cmp_isNaN_int cmpI
  have h1 : (x != x) = false := by simp
  have h2 : (y != y) = false := by simp
  simp only [h1, h2, cond_false]
  by_cases h : x < y
  · simp [h]
  · by_cases h' : x > y <;> simp [h, h']

theorem or2_ok {b : Nat} {x y : Int} {K : Int → World → Prop} {w : World} (hB : Blk w b [.int .i64 x, .int .i64 y]) (hk : K (if x = 0 then y else x) w) :
    sh_cmp_Or_int ⟨some ⟨b, 0, none⟩, 2, 2⟩ K w := by
  unfold sh_cmp_Or_int
  refine ⟨fun s w1 => w1 = w ∧ (s.1 = 0 ∨ (s.1 = 1 ∧ x = 0) ∨ (s.1 = 2 ∧ x = 0 ∧ y = 0)), fun s _ => (2 - s.1).toNat, ⟨rfl, .inl rfl⟩, ?_⟩
  rintro ⟨i, u⟩ w1 ⟨rfl, hi⟩
  simp only at hi ⊢
  rcases hi with rfl | ⟨rfl, rfl⟩ | ⟨rfl, rfl, rfl⟩
  · rw [Bool.cond_decide]
    rw [if_pos (by decide)]
    refine ⟨_, rfl, by decide, by decide, x, ?_, ?_⟩
    · rw [addm, cell_blk hB]; rfl
    · by_cases hx : x = 0
      · subst hx
        simp [IntKind.wrap_i64]
      · simp [hx] at hk ⊢; exact hk
  · rw [Bool.cond_decide, if_pos (by decide)]
    refine ⟨_, rfl, by decide, by decide, y, ?_, ?_⟩
    · rw [addm, cell_blk hB]; rfl
    · by_cases hy : y = 0
      · subst hy
        simp [IntKind.wrap_i64]
      · simp [hy] at hk ⊢; exact hk
  · rw [Bool.cond_decide, if_neg (by decide)]
    simpa using hk

theorem before_ok {e f : Int × Int} {K : Bool → World → Prop} {w : World} (hk : ∀ w', Ext w w' → K (eLt e f) w') : sh_heap_entry_before e.1 e.2 f.1 f.2 K w := by
  unfold sh_heap_entry_before
  intro b1 w2 e1 _ _ b3 w4 e2 _ _
  refine .mk (cmpI e.2 f.2) (fun w' ew K' hK => by rw [compare_eq]; exact hK _ (.refl _)) ?_
  refine .mk (cmpI e.1 f.1) (fun w' ew K' hK => by rw [compare_eq]; exact hK _ (.refl _)) ?_
  intro w13 e3 b14 w15 e4 _ hB
  refine .mk (if cmpI e.2 f.2 = 0 then cmpI e.1 f.1 else cmpI e.2 f.2) (fun w' ew K' hK => or2_ok (ew.blkE hB) (hK _ (.refl _))) ?_
  intro w20 e5
  have := hk w20 ((((e1.trans e2).trans e3).trans e4).trans e5)
  have he : decide ((if cmpI e.2 f.2 = 0 then cmpI e.1 f.1 else cmpI e.2 f.2) < 0) = eLt e f := by
    unfold cmpI eLt
    obtain ⟨a, b⟩ := e; obtain ⟨c, d⟩ := f
    simp only
    by_cases h1 : b < d
    · simp [h1]
    · by_cases h2 : b > d
      · have : ¬ (b = d) := by omega
        simp [h1, h2, this]
      · have : b = d := by omega
        subst this
        by_cases h3 : a < c
        · simp [h3]
        · by_cases h4 : a > c <;> simp [h3, h4]
  rw [he]; exact this

/-- The heap in memory: its own block, its entries, its places. -/
structure HeapM (w : World) (hb : Nat) (s t : SV) (es : List (Int × Int)) (pl : List Int) : Prop where
  hd : Blk w hb [.slice s.a s.len s.cap, .slice t.a t.len t.cap]
  l : Own RE w s es
  p : Own RI w t pl
  n1 : ¬ s.blk hb
  n2 : ¬ t.blk hb
  n3 : ∀ k, s.blk k → ¬ t.blk k

theorem HeapM.ext {w w' : World} {hb : Nat} {s t : SV} {es : List (Int × Int)} {pl : List Int} (h : HeapM w hb s t es pl) (e : Ext w w') : HeapM w' hb s t es pl :=
  ⟨e.blkE h.hd, h.l.ext e, h.p.ext e, h.n1, h.n2, h.n3⟩
theorem HeapM.chg {F : Nat → Prop} {w w' : World} {hb : Nat} {s t : SV} {es : List (Int × Int)} {pl : List Int} (h : HeapM w hb s t es pl) (c : Chg F w w') (h1 : ¬ F hb) (h2 : ∀ k, s.blk k → ¬ F k) (h3 : ∀ k, t.blk k → ¬ F k) : HeapM w' hb s t es pl :=
  ⟨c.blk h.hd h1, h.l.chg c h2, h.p.chg c h3, h.n1, h.n2, h.n3⟩
theorem HeapM.s0 {w : World} {hb : Nat} {s t : SV} {es : List (Int × Int)} {pl : List Int} (h : HeapM w hb s t es pl) : w.cell? ⟨hb, 0, none⟩ = some (.slice s.a s.len s.cap) := by
  rw [cell_blk h.hd]; rfl
theorem HeapM.s1 {w : World} {hb : Nat} {s t : SV} {es : List (Int × Int)} {pl : List Int} (h : HeapM w hb s t es pl) : w.cell? ⟨hb, 1, none⟩ = some (.slice t.a t.len t.cap) := by
  rw [cell_blk h.hd]; rfl

section
variable {w : World} {hb : Nat} {s t : SV} {es : List (Int × Int)} {pl : List Int}

theorem hplay_ok {i id key : Int} {K : World → Prop} (h : HeapM w hb s t es pl) (hi : 0 ≤ i) (hi2 : i.toNat < es.length) (hes : es.length < 2 ^ 62) (hd : 0 ≤ id) (hd2 : id.toNat < pl.length)
    (hk : ∀ w', Chg (fun k => s.blk k ∨ t.blk k) w w' → HeapM w' hb s t (es.set i.toNat (id, key)) (pl.set id.toNat (i + 1)) → K w') : sh_heap_queue_lay (some ⟨hb, 0, none⟩) i id key K w := by
  unfold sh_heap_queue_lay
  intro b1 w2 e1 hb1 hb1b
  have h2 := h.ext e1
  refine ⟨_, rfl, s, by rw [addm]; exact h2.s0, ?_⟩
  refine h2.l.put hi hi2 fun b hsb hput => ?_
  intro w6 e6
  have h6 := h2.ext e6
  refine hput (id, key) w6 _ h6.l fun w7 o7 O7 => ?_
  have hbs : s.blk b := ⟨_, hsb, rfl⟩
  have bl6 : b < w.heap.size := h.l.lt hbs
  have c7 : Chg s.blk w6 w7 := .of_off o7 hbs
  refine ⟨fun c hc => by simp at hc; subst hc; exact o7.block _ (by omega), ?_⟩
  intro w8 e8
  have h8 : HeapM w8 hb s t (es.set i.toNat (id, key)) pl := ⟨e8.blkE (c7.blk h6.hd h6.n1), O7.ext e8, (h6.p.chg c7 (fun k hk h => h6.n3 k h hk)).ext e8, h.n1, h.n2, h.n3⟩
  refine ⟨_, rfl, t, by rw [addm]; exact h8.s1, ?_⟩
  refine h8.p.put hd hd2 fun d htd hput => ?_
  have hdt : t.blk d := ⟨_, htd, rfl⟩
  have dl : d < w.heap.size := h.p.lt hdt
  intro w12 e12
  have h12 := h8.ext e12
  refine hput _ w12 _ h12.p fun w13 o13 O13 => ?_
  have c13 : Chg t.blk w12 w13 := .of_off o13 hdt
  refine ⟨fun c hc => by simp at hc; subst hc; exact o13.block _ (by omega), ?_⟩
  intro w14 e14
  have c1 : Chg (fun k => s.blk k ∨ t.blk k) w w7 := (Chg.of_ext (e1.trans e6)).trans c7 (fun i _ h => .inl h)
  have c2 : Chg (fun k => s.blk k ∨ t.blk k) w w13 := (c1.trans (Chg.of_ext (F := fun _ => False) (e8.trans e12)) (fun i _ h => h.elim)).trans c13 (fun i _ h => .inr h)
  refine hk w14 (c2.trans (Chg.of_ext (F := fun _ => False) e14) (fun i _ h => h.elim)) ?_
  have hw : IntKind.i64.wrap (i + 1) = i + 1 := w64 (by omega) (by omega)
  rw [hw] at O13
  exact ⟨e14.blkE (c13.blk h12.hd h12.n2), (h12.l.chg c13 h12.n3).ext e14, O13.ext e14, h.n1, h.n2, h.n3⟩
end
end Go.Sh
