/- What all plain proofs lean on: records of ints, blocks laid since a world. -/
import Derived.Test.YtoomennincfkgaaMem
set_option maxRecDepth 100000
namespace Go.Sh
open Go.RowKit

def RE : Rc (Int × Int) where
  sz := 2
  enc e := [.int .i64 e.1, .int .i64 e.2]
  len _ := rfl
  pos := by decide
  z := (0, 0)
  one := by intro x v hv; simp at hv; rcases hv with rfl | rfl <;> rfl
def RI : Rc Int where
  sz := 1
  enc e := [.int .i64 e]
  len _ := rfl
  pos := by decide
  z := 0
  one := by intro x v hv; simp at hv; subst hv; rfl

theorem addm (b o i : Nat) : (⟨b, o, none⟩ : Addr).add i = ⟨b, o + i, none⟩ := add_add _ rfl i

def RD : Rc (Int × Int × Int) where
  sz := 3
  enc e := [.int .i64 e.1, .int .i64 e.2.1, .int .i64 e.2.2]
  len _ := rfl
  pos := by decide
  z := (0, 0, 0)
  one := by intro x v hv; simp at hv; rcases hv with rfl | rfl | rfl <;> rfl

theorem do_idx {w : World} {s : SV} {ds : List (Int × Int × Int)} (h : View RD w s ds) {i : Nat} (hl : i < ds.length) {K : Addr → Prop}
    (hk : ∀ a, w.cell? (a.add 0) = some (.int .i64 ds[i].1) → w.cell? (a.add 1) = some (.int .i64 ds[i].2.1) → w.cell? (a.add 2) = some (.int .i64 ds[i].2.2) → K a) : Idx s.a s.len (i : Int) 3 K := by
  refine View.idx (R := RD) h (by omega) (by simpa using hl) fun a _ hc => ?_
  simp only [Int.toNat_natCast] at hc
  exact hk a (hc 0 _ rfl) (hc 1 _ rfl) (hc 2 _ rfl)

def Dj (F G : Nat → Prop) : Prop := ∀ k, F k → ¬ G k
theorem Dj.symm {F G : Nat → Prop} (h : Dj F G) : Dj G F := fun k hg hf => h k hf hg
theorem Dj.grow {F F' G : Nat → Prop} {n : Nat} (h : Dj F G) (hf : ∀ k, F' k → F k ∨ n ≤ k) (hg : ∀ k, G k → k < n) : Dj F' G := fun k hk hG => by
  rcases hf k hk with h' | h'
  · exact h k h' hG
  · have := hg k hG; omega

/-- Made since w0. -/
def Since (w0 : World) (F : Nat → Prop) : Prop := ∀ k, F k → w0.heap.size ≤ k
theorem Since.grow {w0 w : World} {F F' : Nat → Prop} (h : Since w0 F) (e : Ext w0 w) (hf : ∀ k, F' k → F k ∨ w.heap.size ≤ k) : Since w0 F' := fun k hk => by
  rcases hf k hk with h' | h'
  · exact h k h'
  · have := e.size; omega
theorem Since.ext {w0 w w' : World} {F : Nat → Prop} (h : Since w0 F) (e : Ext w0 w) (c : Chg F w w') : Ext w0 w' :=
  ((Chg.of_ext (F := F) e).trans c (fun _ _ h => h)).ext fun i hi hF => by have := h i hF; omega

theorem wsucc {n m : Nat} (h : n < m) (hm : m < 2 ^ 62) : IntKind.i64.wrap ((n : Int) + 1) = ((n + 1 : Nat) : Int) := by
  rw [w64 (by omega) (by omega)]; omega

theorem ext_off {w a a' : World} {b : Nat} (e : Ext w a) (o : Off b a a') (hb : w.heap.size ≤ b) : Ext w a' :=
  ((Chg.of_ext (F := fun k => k = b) e).trans (Chg.of_off (F := fun k => k = b) o rfl) fun _ _ h => h).ext fun i hi e => by omega
theorem Own.off {α : Type} {R : Rc α} {w w' : World} {s : SV} {xs : List α} {b : Nat} (h : Own R w s xs) (o : Off b w w') (hb : ¬ s.blk b) : Own R w' s xs :=
  h.chg (F := fun k => k = b) (.of_off o rfl) fun _ hk e => hb (e ▸ hk)
/-- A slice laid since a world. -/
def Fsh (w : World) (s : SV) : Prop := ∀ k, s.blk k → w.heap.size ≤ k
theorem fsh_nil {w : World} {n c : Nat} : Fsh w ⟨none, n, c⟩ := fun k ⟨p, hp, _⟩ => by cases hp


theorem kp_ext {w w' : World} {bs : List Nat} (e : Ext w w') (h : ∀ b ∈ bs, b < w.heap.size) : Keeps bs w w' := fun c hc => e.blk (h c hc)
theorem kp_chg {w w' : World} {F : Nat → Prop} {bs : List Nat} (c : Chg F w w') (h : ∀ b ∈ bs, b < w.heap.size ∧ ¬ F b) : Keeps bs w w' := fun b hb => c.block b (h b hb).1 (h b hb).2
theorem ext_chg {w a b : World} {F : Nat → Prop} (e : Ext w a) (c : Chg F a b) (hF : ∀ k, F k → w.heap.size ≤ k) : Ext w b :=
  ((Chg.of_ext (F := F) e).trans c fun _ _ h => h).ext fun i hi h => by have := hF i h; omega
theorem Fsh.ext {w w' : World} {s : SV} (h : Fsh w' s) (e : Ext w w') : Fsh w s := fun k hk => Nat.le_trans e.size (h k hk)

theorem add0 {b o : Nat} : (⟨b, o, none⟩ : Addr).add 0 = ⟨b, o, none⟩ := by rw [addm]; rfl
theorem int_idx {w : World} {s : SV} {xs : List Int} (h : View RI w s xs) {i : Nat} (hl : i < xs.length) {K : Addr → Prop}
    (hk : ∀ a, w.cell? a = some (.int .i64 xs[i]) → K a) : Idx s.a s.len (i : Int) 1 K := by
  refine View.idx (R := RI) h (by omega) (by simpa using hl) fun a ha hc => ?_
  have := hc 0 _ rfl
  simp only [Int.toNat_natCast] at this
  obtain ⟨b, o, sp⟩ := a
  simp only at ha; subst ha
  rw [add0] at this
  exact hk _ this

/-- An element of an owned slice is written. -/
theorem own_wr {α : Type} {R : Rc α} {w : World} {s : SV} {xs : List α} (h : Own R w s xs) {i : Nat} (hl : i < xs.length) {K : Addr → Prop}
    (hk : ∀ b, s.a = some ⟨b, 0, none⟩ → (∀ (y : α) (w1 : World) (K' : World → Prop), Own R w1 s xs → (∀ w', Off b w1 w' → Own R w' s (xs.set i y) → K' w') → stL w1 ⟨b, i * R.sz, none⟩ (R.enc y) 0 K') → K ⟨b, i * R.sz, none⟩) :
    Idx s.a s.len (i : Int) R.sz K := by
  refine h.put (i := (i : Int)) (by omega) (by simpa using hl) fun b hb hput => ?_
  simp only [Int.toNat_natCast] at hput ⊢
  exact hk b hb hput
theorem Own.a_blk {α : Type} {R : Rc α} {w : World} {s : SV} {xs : List α} (_h : Own R w s xs) {b : Nat} (hb : s.a = some ⟨b, 0, none⟩) {k : Nat} (hk : s.blk k) : k = b := by
  obtain ⟨p, hp, rfl⟩ := hk; rw [hb] at hp; cases hp; rfl

/-- s[lo:hi] of an owned slice. -/
theorem Own.slice {α : Type} {R : Rc α} {w : World} {s : SV} {xs : List α} (h : Own R w s xs) {lo hi : Nat} (h1 : lo ≤ hi) (h2 : hi ≤ xs.length) {K : SV → Prop}
    (hk : ∀ t : SV, View R w t ((xs.drop lo).take (hi - lo)) → (∀ k, t.blk k → s.blk k) → K t) : semSlice R.sz s.a s.len s.cap (some (lo : Int)) (some (hi : Int)) K := by
  obtain ⟨rest, hl, hc, hs⟩ := h
  unfold semSlice
  simp only [Option.getD_some, Int.toNat_natCast]
  refine ⟨by omega, fun x hx => by injection hx with hx; omega, by omega, by omega, hk _ ?_ ?_⟩
  · refine ⟨by simp; omega, ?_, ?_⟩
    · rintro _ p hp
      rcases hs with ⟨ha, _, _⟩ | ⟨b, ha, hB⟩
      · simp only [ha, Option.map_none, ite_self] at hp; cases hp
      · simp only [ha, Option.map_some, addm] at hp
        split at hp <;> (cases hp; rfl)
    · intro i x hx
      have hi' : i < hi - lo := by have := (List.getElem?_eq_some_iff.1 hx).1; simp at this; omega
      rw [List.getElem?_take, if_pos hi', List.getElem?_drop] at hx
      rcases hs with ⟨ha, hx0, _⟩ | ⟨b, ha, hB⟩
      · subst hx0; simp at hx
      · refine ⟨⟨b, lo * R.sz, none⟩, ?_, fun j v hv => ?_⟩
        · simp only [ha, Option.map_some, addm, Nat.zero_add]
          rw [if_neg (by omega)]
        · have hj : j < R.sz := by rw [← R.len x]; exact (List.getElem?_eq_some_iff.1 hv).1
          have := R.flat_get (xs ++ rest) (lo + i) j x (by rw [List.getElem?_append_left (by omega)]; exact hx) hj
          simp only
          rw [cell_blk hB, show lo * R.sz + i * R.sz + j = (lo + i) * R.sz + j by rw [Nat.add_mul], this]; exact hv
  · rintro k ⟨p, hp, rfl⟩
    rcases hs with ⟨ha, _, _⟩ | ⟨b, ha, hB⟩
    · simp only [ha, Option.map_none, ite_self] at hp; cases hp
    · refine ⟨_, ha, ?_⟩
      simp only [ha, Option.map_some, addm] at hp
      split at hp <;> (cases hp; rfl)

/-- make: a slice laid since. -/
theorem own_mk {α : Type} {R : Rc α} {w : World} {bytes : Nat} {n : Int} {K : SV → World → Prop} (h0 : 0 ≤ n) (hb : (bytes : Int) * n ≤ 2 ^ 48) (hn : n < 2 ^ 62)
    (hk : ∀ s w', Ext w w' → Fsh w s → Own R w' s (List.replicate n.toNat R.z) → K s w') : MkS bytes (R.enc R.z) n n w K :=
  Own.mk (R := R) h0 hb hn fun _ w' e hs hO => hk _ w' e (fun k ⟨p, hp, hq⟩ => by cases hp; rw [← hq]; exact hs) hO

theorem min3 {a b c : Int} : (if c < (if b < a then b else a) then c else (if b < a then b else a)) < 0 ↔ a < 0 ∨ b < 0 ∨ c < 0 := by
  by_cases h : b < a
  · simp only [if_pos h]; split <;> omega
  · simp only [if_neg h]; split <;> omega
theorem min2 {a b m : Int} : m ≥ (if b < a then b else a) ↔ m ≥ a ∨ m ≥ b := by split <;> omega
theorem max2 {a b N : Int} : (if b > a then b else a) ≥ N ↔ a ≥ N ∨ b ≥ N := by split <;> omega

end Go.Sh
