/- The graph's inner functions. -/
import Derived.Test.YtoomennincfkgaaGraphMap
import Derived.Test.YtoomennincfkgaaGraphSort
set_option maxRecDepth 100000
namespace Go.Sh
open Go.RowKit

def RB : Rc Bool where
  sz := 1
  enc e := [.bool e]
  len _ := rfl
  pos := by decide
  z := false
  one := by intro x v hv; simp at hv; subst hv; rfl
def bl (n : Nat) (c : Nat → Bool) : List Bool := (List.range n).map c
theorem bl_len (n : Nat) (c : Nat → Bool) : (bl n c).length = n := by simp [bl]
theorem bl_get {n : Nat} {c : Nat → Bool} {i : Nat} (h : i < (bl n c).length) : (bl n c)[i] = c i := by simp [bl]
theorem bl_set {n : Nat} {c : Nat → Bool} {i : Nat} {x : Bool} (_hi : i < n) : (bl n c).set i x = bl n (fun j => if j = i then x else c j) := by
  apply List.ext_getElem
  · simp [bl]
  · intro j h1 h2
    rw [List.getElem_set]
    by_cases e : i = j
    · subst e; rw [if_pos rfl, bl_get, if_pos rfl]
    · rw [if_neg e, bl_get, bl_get, if_neg (Ne.symm e)]
theorem bl_rep (n : Nat) : List.replicate n false = bl n (fun _ => false) := by
  apply List.ext_getElem <;> simp [bl]
theorem bool_idx {w : World} {s : SV} {xs : List Bool} (h : View RB w s xs) {i : Nat} (hl : i < xs.length) {K : Addr → Prop}
    (hk : ∀ a, w.cell? a = some (.bool xs[i]) → K a) : Idx s.a s.len (i : Int) 1 K := by
  refine View.idx (R := RB) h (by omega) (by simpa using hl) fun a ha hc => ?_
  have := hc 0 _ rfl
  simp only [Int.toNat_natCast] at this
  obtain ⟨b, o, sp⟩ := a
  simp only at ha; subst ha
  rw [add0] at this
  exact hk _ this

/-- What is known of the graph's function values. -/
structure GraphCV (CV : CVT) : Prop where

section
variable {w : World} {s : SV} {arcs : List Arc} {N : Int}

theorem okMap_of {N : Int} {arcs : List Arc} (h1 : ¬ N > 16777216) (h2 : ¬ (arcs.length : Int) > 67108864) (h3 : ¬ N < 0) (h : ∀ a ∈ arcs, OkArc N a) : OkMap N arcs :=
  ⟨by omega, by omega, by omega, h⟩

theorem check5_ok {K : Int → World → Prop} (h : View RD w s arcs) (hk : ∀ c w', Ext w w' → (c = 0 ↔ OkMap N arcs) → K c w') : sh_postroadref05_Check N s K w := by
  unfold sh_postroadref05_Check
  intro b1 w2 e2 _ _
  have hl := h.len
  rw [Bool.cond_decide]; split
  · rename_i c; exact hk _ _ e2 ⟨fun h => by omega, fun h => absurd h.n1 (by omega)⟩
  rename_i c1
  rw [Bool.cond_decide]; split
  · rename_i c; exact hk _ _ e2 ⟨fun h => by omega, fun h => absurd h.len (by omega)⟩
  rename_i c2
  rw [Bool.cond_decide]; split
  · rename_i c; exact hk _ _ e2 ⟨fun h => by omega, fun h => absurd h.n0 (by omega)⟩
  rename_i c3
  refine LoopT.gh (γ := Nat) (fun i (st : Int × Unit) w' => st.1 = i ∧ i ≤ arcs.length ∧ Ext w w' ∧ ∀ a ∈ arcs.take i, OkArc N a) (fun i => arcs.length - i) 0
    ⟨rfl, Nat.zero_le _, e2, fun a ha => by simp at ha⟩ ?_
  rintro i ⟨x, _⟩ w5 ⟨hx, hi, e5, ho⟩ J1 hJ1
  simp only at hx; subst hx
  rw [Bool.cond_decide]
  by_cases hc : (i : Int) < (s.len : Int)
  · rw [if_pos hc]
    have hi' : i < arcs.length := by omega
    refine do_idx (h.ext e5) hi' fun a a0 a1 a2 => ⟨_, a0, _, a1, _, a2, ?_⟩
    intro b10 w11 e11 h10 _ w12 o12
    have e12 : Ext w w12 := ext_off (e5.trans e11) o12 (by have := e5.size; omega)
    have bad : ¬ OkArc N arcs[i] → K 2 w12 := fun hb => hk _ _ e12 ⟨fun h => by omega, fun h => absurd (h.arc _ (List.getElem_mem hi')) hb⟩
    rw [Bool.cond_decide]; split
    · exact bad fun hb => by unfold OkArc at hb; omega
    rw [Bool.cond_decide]; split
    · exact bad fun hb => by unfold OkArc at hb; omega
    rw [Bool.cond_decide]; split
    · exact bad fun hb => by unfold OkArc at hb; omega
    rw [Bool.cond_decide]; split
    · exact bad fun hb => by unfold OkArc at hb; omega
    rw [Bool.cond_decide]; split
    · exact bad fun hb => by unfold OkArc at hb; omega
    rw [Bool.cond_decide]; split
    · exact bad fun hb => by unfold OkArc at hb; omega
    refine hJ1 (i + 1) _ _ ⟨wsucc (m := 2 ^ 40) (by omega) (by omega), by omega, e12, fun a ha => ?_⟩ (by omega)
    rw [take_snoc hi'] at ha
    rcases List.mem_append.1 ha with ha | ha
    · exact ho a ha
    · simp at ha; subst ha
      unfold OkArc
      omega
  · rw [if_neg hc]
    have : i = arcs.length := by omega
    subst this
    rw [List.take_length] at ho
    exact hk _ _ e5 ⟨fun _ => okMap_of c1 (by omega) c3 ho, fun _ => rfl⟩

end

/-- Numbers are gathered in a box. -/
def Coll (w1 : World) (b : Nat) (L : List Nat) (w : World) : Prop :=
  Chg (fun k => k = b) w1 w ∧ ∃ s : SV, Blk w b [.slice s.a s.len s.cap] ∧ Own RI w s (ints L) ∧ Fsh w1 s
theorem Coll.start {w1 : World} {b : Nat} (h : Blk w1 b [.slice none 0 0]) : Coll w1 b [] w1 := ⟨.refl _ _, ⟨none, 0, 0⟩, h, Own.nil, fsh_nil⟩
theorem Coll.ext {w1 w w' : World} {b : Nat} {L : List Nat} (h : Coll w1 b L w) (e : Ext w w') : Coll w1 b L w' := by
  obtain ⟨c, s, hB, hO, hF⟩ := h
  exact ⟨c.trans (.of_ext (F := fun _ => False) e) fun _ _ h => h.elim, s, e.blkE hB, hO.ext e, hF⟩
theorem coll_body {w1 w0 w' : World} {b l : Nat} {L : List Nat} {x : Nat} {K : Bool → World → Prop} (h : Coll w1 b L w0) (e : Ext w0 w') (hb : b < w1.heap.size) (hl : l < w1.heap.size) (hlb : l ≠ b) (hL : L.length < 2 ^ 40)
    (hk : ∀ w'', Coll w1 b (L ++ [x]) w'' → (∀ c, w0.heap.size ≤ c → c < w'.heap.size → w''.heap[c]? = w'.heap[c]?) → K true w'') :
    w'.heap[l]? = w1.heap[l]? ∧ ∀ w2, Off l w' w2 → ∃ s : SV, w2.cell? (⟨b, 0, none⟩ : Addr) = some (.slice s.a s.len s.cap) ∧
      NewB [.int .i64 (x : Int)] w2 (fun b3 w4 => App 8 [.int .i64 (0 : Int)] s ⟨some ⟨b3, 0, none⟩, 1, 1⟩ w4 (fun s5 w6 => Keeps [l] w4 w6 ∧
        stL w6 (⟨b, 0, none⟩ : Addr) [.slice s5.a s5.len s5.cap] 0 (fun w7 => Keeps [l] w6 w7 ∧ ∀ w8, Off l w7 w8 → w8.heap[l]? = w1.heap[l]? → K true w8))) := by
  obtain ⟨c0, s, hB, hO, hF⟩ := h
  have c' := c0.trans (.of_ext (F := fun _ => False) e) fun _ _ h => h.elim
  have s0 := c0.size; have s' := e.size
  refine ⟨c'.block l hl hlb, fun w2 o2 => ?_⟩
  have s2 := o2.size
  have nl : ¬ s.blk l := fun hk => by have := hF l hk; omega
  have nb : ¬ s.blk b := fun hk => by have := hF b hk; omega
  have hB2 := (e.blkE hB).off o2 (Ne.symm hlb)
  refine ⟨s, by rw [cell_blk hB2]; rfl, ?_⟩
  intro b3 w4 e4 h3 hB4
  have s4 := e4.size
  have hO4 := ((hO.ext e).off o2 nl).ext e4
  have hll : (ints L).length = L.length := ints_len L
  refine Own.app (R := RI) hO4 (View.one (R := RI) (x := (x : Int)) hB4) (by simp only [hll, List.length_cons, List.length_nil]; omega) (by simp only [hll, List.length_cons, List.length_nil]; omega) fun s5 w6 c6 hs5 hO6 => ?_
  have s6 := c6.size
  refine ⟨kp_chg c6 fun c hc => by simp only [List.mem_cons, List.not_mem_nil, or_false] at hc; subst hc; exact ⟨by omega, nl⟩, ?_⟩
  have hB6 := c6.blk (e4.blkE hB2) nb
  refine stL_blk (b := b) (o := 0) [.slice s5.a s5.len s5.cap] 0 w6 _ _ hB6 (by simp) fun w7 o7 hB7 => ?_
  have s7 := o7.size
  have hF5 : Fsh w1 s5 := fun k hk => by
    rcases hs5 k hk with h' | h'
    · exact hF k h'
    · omega
  refine ⟨fun c hc => by simp only [List.mem_cons, List.not_mem_nil, or_false] at hc; subst hc; exact o7.block c hlb, fun w8 o8 hw8 => ?_⟩
  have nb5 : ¬ s5.blk b := fun hk => by have := hF5 b hk; omega
  have nl5 : ¬ s5.blk l := fun hk => by have := hF5 l hk; omega
  refine hk w8 ⟨?_, s5, hB7.off o8 (Ne.symm hlb), ?_, hF5⟩ fun c hc1 hc2 => ?_
  · have ca : Chg (fun k => k = b ∨ k = l) w1 w8 :=
      (((((c'.mono (G := fun k => k = b ∨ k = l) fun _ _ h => .inl h).trans (.of_off (F := fun k => k = l) o2 rfl) fun _ _ h => .inr h).trans (.of_ext (F := fun _ => False) e4) fun _ _ h => h.elim).trans c6 fun i hi h => by have := hF i h; omega).trans (.of_off (F := fun k => k = b) o7 rfl) fun _ _ h => .inl h).trans (.of_off (F := fun k => k = l) o8 rfl) fun _ _ h => .inr h
    refine ⟨ca.os, ca.tape, ca.output, ca.size, fun k hk hkb => ?_⟩
    by_cases hkl : k = l
    · subst hkl; exact hw8
    · exact ca.block k hk fun h => h.elim hkb hkl
  · rw [ints_append]
    exact (hO6.off o7 nb5).off o8 nl5
  · have hsb : ¬ s.blk c := fun hk => by have := hO.lt hk; omega
    rw [o8.block c (by omega), o7.block c (by omega), c6.block c (by omega) hsb, e4.blk (by omega), o2.block c (by omega)]
end Go.Sh
