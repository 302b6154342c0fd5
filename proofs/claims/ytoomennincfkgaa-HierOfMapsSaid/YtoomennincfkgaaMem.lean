/- Memory, as the proofs about the shallow programs speak of it: which blocks a step may turn, slices that are owned, slices that are read. -/
import Derived.Test.YtoomennincfkgaaSnd2
namespace Go.Sh
open Go.RowKit

theorem w64 {n : Int} (h1 : -9223372036854775808 ≤ n) (h2 : n < 9223372036854775808) : IntKind.i64.wrap n = n := by
  rw [IntKind.wrap_i64]; omega
theorem w64_lo (n : Int) : -9223372036854775808 ≤ IntKind.i64.wrap n := by
  rw [IntKind.wrap_i64]; omega
theorem w64_hi (n : Int) : IntKind.i64.wrap n < 9223372036854775808 := by
  rw [IntKind.wrap_i64]; omega

def In64 (n : Int) : Prop := -9223372036854775808 ≤ n ∧ n < 9223372036854775808
theorem In64.w {n : Int} (h : In64 n) : IntKind.i64.wrap n = n := w64 h.1 h.2
theorem in64_w (n : Int) : In64 (IntKind.i64.wrap n) := ⟨w64_lo n, w64_hi n⟩

/-- Only the blocks of F, of those that were, may have turned. -/
structure Chg (F : Nat → Prop) (w w' : World) : Prop where
  os : w'.os = w.os
  tape : w'.tape = w.tape
  output : w'.output = w.output
  size : w.heap.size ≤ w'.heap.size
  block : ∀ k, k < w.heap.size → ¬ F k → w'.heap[k]? = w.heap[k]?

theorem Chg.refl (F : Nat → Prop) (w : World) : Chg F w w := ⟨rfl, rfl, rfl, Nat.le_refl _, fun _ _ _ => rfl⟩
theorem Chg.of_ext {F : Nat → Prop} {w w' : World} (h : Ext w w') : Chg F w w' := ⟨h.os, h.tape, h.output, h.size, fun _ hk _ => h.blk hk⟩
theorem Chg.of_off {F : Nat → Prop} {w w' : World} {b : Nat} (h : Off b w w') (hb : F b) : Chg F w w' :=
  ⟨h.os, h.tape, h.output, Nat.le_of_eq h.size.symm, fun k _ hF => h.block k (fun e => hF (e ▸ hb))⟩
theorem Chg.trans {F G : Nat → Prop} {a b c : World} (h : Chg F a b) (k : Chg G b c) (hG : ∀ i, i < a.heap.size → G i → F i) : Chg F a c :=
  ⟨k.os.trans h.os, k.tape.trans h.tape, k.output.trans h.output, Nat.le_trans h.size k.size,
    fun i hi hF => (k.block i (Nat.lt_of_lt_of_le hi h.size) (fun g => hF (hG i hi g))).trans (h.block i hi hF)⟩
theorem Chg.mono {F G : Nat → Prop} {a b : World} (h : Chg F a b) (hG : ∀ i, i < a.heap.size → F i → G i) : Chg G a b :=
  ⟨h.os, h.tape, h.output, h.size, fun i hi hF => h.block i hi (fun f => hF (hG i hi f))⟩
theorem Chg.ext {w w' : World} {F : Nat → Prop} (h : Chg F w w') (hF : ∀ i, i < w.heap.size → ¬ F i) : Ext w w' :=
  ⟨h.os, h.tape, h.output, h.size, fun k hk => h.block k hk (hF k hk)⟩
theorem Chg.keep {w w' : World} {F : Nat → Prop} (h : Chg F w w') {b : Nat} (hb : b < w.heap.size) (hF : ¬ F b) : Keeps [b] w w' := by
  intro c hc; simp at hc; subst hc; exact h.block _ hb hF
theorem Chg.blk {w w' : World} {F : Nat → Prop} (h : Chg F w w') {b : Nat} {cs : List Value} (hb : Blk w b cs) (hF : ¬ F b) : Blk w' b cs := by
  have hl := blk_lt hb
  obtain ⟨T, hb⟩ := hb
  exact ⟨T, by rw [h.block b hl hF]; exact hb⟩
theorem Chg.cell {w w' : World} {F : Nat → Prop} (h : Chg F w w') {p : Addr} {v : Value} (hc : w.cell? p = some v) (hF : ¬ F p.block) : w'.cell? p = some v := by
  rw [World.cell?_of_block (w := w) (h.block p.block (World.block_lt_of_cell? w p hc) hF)]; exact hc

theorem Blk.off {w w' : World} {b c : Nat} {cs : List Value} (hb : Blk w b cs) (h : Off c w w') (hn : b ≠ c) : Blk w' b cs := by
  obtain ⟨T, hb⟩ := hb
  exact ⟨T, by rw [h.block b hn]; exact hb⟩

theorem Blk.set {w : World} {b : Nat} {cs : List Value} (h : Blk w b cs) (i : Nat) (v : Value) : Blk (w.setCell ⟨b, i, none⟩ v) b (cs.set i v) := by
  obtain ⟨T, h⟩ := h
  have hl := (Array.getElem?_eq_some_iff.1 h)
  refine ⟨T, ?_⟩
  simp only [World.setCell, Array.getElem?_modify, h]
  simp
theorem Blk.set_ne {w : World} {b c : Nat} {cs : List Value} (h : Blk w b cs) (i : Nat) (v : Value) (hn : b ≠ c) : Blk (w.setCell ⟨c, i, none⟩ v) b cs := by
  obtain ⟨T, h⟩ := h
  exact ⟨T, by rw [Below.heap_setCell _ _ _ _ hn]; exact h⟩
theorem Chg.set (F : Nat → Prop) (w : World) (p : Addr) (v : Value) (h : F p.block) : Chg F w (w.setCell p v) :=
  ⟨rfl, rfl, rfl, by simp [World.setCell], fun k _ hF => Below.heap_setCell _ _ _ _ (fun e => hF (e ▸ h))⟩

/-- A loop, by an invariant that knows more than the loop's own state. -/
theorem LoopT.gh {σ γ : Type} {body : σ → (σ → World → Prop) → World → Prop} {s : σ} {w : World} (I : γ → σ → World → Prop) (m : γ → Nat) (g : γ) (h : I g s w)
    (hb : ∀ g s w, I g s w → ∀ J : σ → World → Prop, (∀ g' s' w', I g' s' w' → m g' < m g → J s' w') → body s J w) : LoopT σ body s w := by
  classical
  have least : ∀ s w, (∃ n g, I g s w ∧ m g = n) → ∃ n, (∃ g, I g s w ∧ m g = n) ∧ ∀ k, (∃ g, I g s w ∧ m g = k) → n ≤ k := by
    intro s w ⟨n, hn⟩
    induction n using Nat.strongRecOn with
    | ind n ih =>
      by_cases hk : ∃ k, k < n ∧ ∃ g, I g s w ∧ m g = k
      · obtain ⟨k, hkn, hk⟩ := hk; exact ih k hkn hk
      · exact ⟨n, hn, fun k hk' => Nat.le_of_not_lt fun hlt => hk ⟨k, hlt, hk'⟩⟩
  refine ⟨fun s w => ∃ g, I g s w, fun s w => if hh : ∃ n g, I g s w ∧ m g = n then (least s w hh).choose else 0, ⟨g, h⟩, fun s w ⟨g, hg⟩ => ?_⟩
  have hh : ∃ n g, I g s w ∧ m g = n := ⟨_, g, hg, rfl⟩
  obtain ⟨⟨g0, hg0, hm0⟩, _⟩ := (least s w hh).choose_spec
  refine hb g0 s w hg0 _ fun g' s' w' hI hlt => ⟨⟨g', hI⟩, ?_⟩
  have hh' : ∃ n g, I g s' w' ∧ m g = n := ⟨_, g', hI, rfl⟩
  have h2 := (least s' w' hh').choose_spec.2 _ ⟨g', hI, rfl⟩
  simp only [dif_pos hh, dif_pos hh']
  omega

/-- Values of a written list go into a block. -/
def setL : List Value → Nat → List Value → List Value
  | cs, _, [] => cs
  | cs, i, v :: l => setL (cs.set i v) (i + 1) l

theorem stL_blk {b o : Nat} : ∀ (vs : List Value) (j : Nat) (w : World) (cs : List Value) (K : World → Prop), Blk w b cs → o + j + vs.length ≤ cs.length →
    (∀ w', Off b w w' → Blk w' b (setL cs (o + j) vs) → K w') → stL w ⟨b, o, none⟩ vs j K
  | [], j, w, cs, K, hb, _, hk => hk w ⟨rfl, rfl, rfl, rfl, fun _ _ => rfl⟩ hb
  | v :: l, j, w, cs, K, hb, hl, hk => by
    simp only [List.length_cons] at hl
    have ha : (⟨b, o, none⟩ : Addr).add j = ⟨b, o + j, none⟩ := add_add _ rfl j
    simp only [stL, ha]
    refine ⟨?_, frozen_blk hb _, ?_⟩
    · rw [cell_blk hb, List.getElem?_eq_getElem (by omega)]; rfl
    · refine stL_blk l (j + 1) _ (cs.set (o + j) v) K (hb.set _ _) (by simp; omega) fun w' ho hB => hk w' ?_ (by simpa [setL, Nat.add_assoc] using hB)
      exact ⟨ho.os, ho.tape, ho.output, by rw [ho.size]; simp [World.setCell], fun k hkb => by rw [ho.block k hkb, Below.heap_setCell _ _ _ _ hkb]⟩

/-- A record: its cells. -/
structure Rc (α : Type) where
  sz : Nat
  enc : α → List Value
  len : ∀ x, (enc x).length = sz
  pos : 0 < sz
  z : α
  one : ∀ x, ∀ v ∈ enc x, one v = true

/-- All cells of a list of records. -/
def Rc.flat {α : Type} (R : Rc α) (xs : List α) : List Value := xs.flatMap R.enc

section
variable {α : Type} (R : Rc α)
theorem Rc.flat_nil : R.flat [] = [] := rfl
theorem Rc.flat_cons (x : α) (xs : List α) : R.flat (x :: xs) = R.enc x ++ R.flat xs := by simp [Rc.flat]
theorem Rc.flat_append (xs ys : List α) : R.flat (xs ++ ys) = R.flat xs ++ R.flat ys := by simp [Rc.flat]
theorem Rc.flat_len : ∀ xs : List α, (R.flat xs).length = xs.length * R.sz
  | [] => by simp [Rc.flat]
  | x :: xs => by rw [Rc.flat_cons, List.length_append, R.len, Rc.flat_len xs, List.length_cons, Nat.succ_mul, Nat.add_comm]

theorem Rc.flat_get : ∀ (xs : List α) (i j : Nat) (x : α), xs[i]? = some x → j < R.sz → (R.flat xs)[i * R.sz + j]? = (R.enc x)[j]?
  | [], i, j, x, h, _ => by simp at h
  | y :: ys, 0, j, x, h, hj => by
    simp at h; subst h
    rw [Rc.flat_cons, List.getElem?_append_left (by rw [R.len]; omega)]; simp
  | y :: ys, i + 1, j, x, h, hj => by
    simp at h
    rw [Rc.flat_cons, List.getElem?_append_right (by rw [R.len, Nat.succ_mul]; omega), R.len, ← Rc.flat_get ys i j x h hj]
    congr 1; rw [Nat.succ_mul]; omega

theorem setL_append : ∀ (vs cs ds : List Value) (i : Nat), setL (cs ++ ds) (cs.length + i) vs = cs ++ setL ds i vs
  | [], _, _, _ => rfl
  | v :: l, cs, ds, i => by
    simp only [setL]
    rw [List.set_append_right _ _ (by omega), show cs.length + i - cs.length = i by omega, Nat.add_assoc, setL_append]

theorem setL_over : ∀ (vs es ds : List Value), vs.length = es.length → setL (es ++ ds) 0 vs = vs ++ ds := by
  intro vs
  suffices h : ∀ (vs es ds pre : List Value), vs.length = es.length → setL (pre ++ (es ++ ds)) pre.length vs = pre ++ (vs ++ ds) by
    intro es ds hl; simpa using h vs es ds [] hl
  intro vs
  induction vs with
  | nil => intro es ds pre hl; cases es with | nil => rfl | cons _ _ => simp at hl
  | cons v l ih =>
    intro es ds pre hl
    cases es with
    | nil => simp at hl
    | cons e es =>
      simp only [List.length_cons, Nat.add_right_cancel_iff] at hl
      simp only [setL]
      have h := ih es ds (pre ++ [v]) hl
      simp only [List.length_append, List.length_cons, List.length_nil, Nat.zero_add, List.append_assoc, List.cons_append, List.nil_append] at h
      rw [List.set_append_right _ _ (by omega)]
      simpa using h

theorem Rc.flat_set : ∀ (xs : List α) (i : Nat) (y : α), i < xs.length → setL (R.flat xs) (i * R.sz) (R.enc y) = R.flat (xs.set i y)
  | [], i, y, h => by simp at h
  | x :: xs, 0, y, _ => by
    rw [Rc.flat_cons, Nat.zero_mul, setL_over _ _ _ (by rw [R.len, R.len]), List.set_cons_zero, Rc.flat_cons]
  | x :: xs, i + 1, y, h => by
    rw [Rc.flat_cons, List.set_cons_succ, Rc.flat_cons, ← Rc.flat_set xs i y (by simpa using h), ← setL_append, R.len, Nat.succ_mul, Nat.add_comm]

theorem zeros_append (z : List Value) (n : Nat) (hz : 0 < z.length) : zeros z (n + 1) = zeros z n ++ z := by
  apply List.ext_getElem?
  intro i
  simp only [zeros]
  by_cases hi : i < n * z.length
  · rw [List.getElem?_append_left (by simpa using hi)]
    rw [List.getElem?_map, List.getElem?_map, List.getElem?_range hi, List.getElem?_range (by rw [Nat.succ_mul]; omega)]
  · rw [List.getElem?_append_right (by simpa using hi)]
    simp only [List.length_map, List.length_range]
    by_cases hj : i < (n + 1) * z.length
    · rw [List.getElem?_map, List.getElem?_range hj]
      have h2 : i - n * z.length < z.length := by rw [Nat.succ_mul] at hj; omega
      have h3 : i % z.length = i - n * z.length := by
        have : i = (i - n * z.length) + z.length * n := by rw [Nat.mul_comm z.length n]; omega
        rw [this, Nat.add_mul_mod_self_left, Nat.mod_eq_of_lt h2]
        rw [← this]
      simp only [Option.map_some, h3]
      rw [List.getElem?_eq_getElem h2, List.getD_eq_getElem?_getD, List.getElem?_eq_getElem h2]; rfl
    · rw [List.getElem?_eq_none (by simpa using hj), List.getElem?_eq_none (by rw [Nat.succ_mul] at hj; omega)]

theorem Rc.zeros (n : Nat) : Go.Sh.zeros (R.enc R.z) n = R.flat (List.replicate n R.z) := by
  induction n with
  | zero => simp [Go.Sh.zeros, Rc.flat]
  | succ n ih => rw [zeros_append _ _ (by rw [R.len]; exact R.pos), ih, List.replicate_succ', Rc.flat_append]; simp [Rc.flat]
end

/-- The block of a slice. -/
def SV.blk (s : SV) (k : Nat) : Prop := ∃ p, s.a = some p ∧ p.block = k

/-- A slice is read. -/
structure View {α : Type} (R : Rc α) (w : World) (s : SV) (xs : List α) : Prop where
  len : s.len = xs.length
  spot : xs ≠ [] → ∀ p, s.a = some p → p.spot = none
  at_ : ∀ i x, xs[i]? = some x → ∃ p, s.a = some p ∧ ∀ j v, (R.enc x)[j]? = some v → w.cell? ⟨p.block, p.off + i * R.sz + j, none⟩ = some v

/-- A slice is owned: it is all of its block. -/
def Own {α : Type} (R : Rc α) (w : World) (s : SV) (xs : List α) : Prop :=
  ∃ rest : List α, s.len = xs.length ∧ s.cap = xs.length + rest.length ∧ ((s.a = none ∧ xs = [] ∧ rest = []) ∨ ∃ b, s.a = some ⟨b, 0, none⟩ ∧ Blk w b (R.flat (xs ++ rest)))

section
variable {α : Type} {R : Rc α} {w w' : World} {s : SV} {xs : List α}

theorem View.chg {F : Nat → Prop} (h : View R w s xs) (c : Chg F w w') (hF : ∀ k, s.blk k → ¬ F k) : View R w' s xs :=
  ⟨h.len, h.spot, fun i x hx => by
    obtain ⟨p, hp, hc⟩ := h.at_ i x hx
    exact ⟨p, hp, fun j v hv => c.cell (hc j v hv) (hF _ ⟨p, hp, rfl⟩)⟩⟩
theorem View.ext (h : View R w s xs) (e : Ext w w') : View R w' s xs :=
  ⟨h.len, h.spot, fun i x hx => by
    obtain ⟨p, hp, hc⟩ := h.at_ i x hx
    exact ⟨p, hp, fun j v hv => e.cell (hc j v hv)⟩⟩
theorem Own.chg {F : Nat → Prop} (h : Own R w s xs) (c : Chg F w w') (hF : ∀ k, s.blk k → ¬ F k) : Own R w' s xs := by
  obtain ⟨rest, h1, h2, h3⟩ := h
  refine ⟨rest, h1, h2, h3.imp id ?_⟩
  rintro ⟨b, hb, hB⟩
  exact ⟨b, hb, c.blk hB (hF _ ⟨_, hb, rfl⟩)⟩
theorem Own.ext (h : Own R w s xs) (e : Ext w w') : Own R w' s xs := h.chg (F := fun _ => False) (.of_ext e) (fun _ _ h => h)
theorem Own.view (h : Own R w s xs) : View R w s xs := by
  obtain ⟨rest, h1, h2, h3⟩ := h
  refine ⟨h1, ?_, ?_⟩
  · rintro _ p hp
    rcases h3 with ⟨h, _, _⟩ | ⟨b, h, _⟩
    · rw [h] at hp; cases hp
    · rw [h] at hp; cases hp; rfl
  · intro i x hx
    rcases h3 with ⟨_, h, _⟩ | ⟨b, h, hB⟩
    · subst h; simp at hx
    · refine ⟨_, h, fun j v hv => ?_⟩
      have hj : j < R.sz := by rw [← R.len x]; exact (List.getElem?_eq_some_iff.1 hv).1
      rw [cell_blk hB, Nat.zero_add, R.flat_get (xs ++ rest) i j x (by rw [List.getElem?_append_left (List.getElem?_eq_some_iff.1 hx).1]; exact hx) hj]
      exact hv
theorem Own.lt (h : Own R w s xs) {k : Nat} (hk : s.blk k) : k < w.heap.size := by
  obtain ⟨rest, _, _, h3⟩ := h
  obtain ⟨p, hp, rfl⟩ := hk
  rcases h3 with ⟨h, _, _⟩ | ⟨b, h, hB⟩
  · rw [h] at hp; cases hp
  · rw [h] at hp; cases hp; exact blk_lt hB
theorem Own.nil : Own R w ⟨none, 0, 0⟩ [] := ⟨[], rfl, rfl, .inl ⟨rfl, rfl, rfl⟩⟩

/-- An element's address. -/
theorem View.idx (h : View R w s xs) {i : Int} (h0 : 0 ≤ i) (hl : i.toNat < xs.length) {K : Addr → Prop}
    (hk : ∀ a, a.spot = none → (∀ j v, (R.enc xs[i.toNat])[j]? = some v → w.cell? (a.add j) = some v) → K a) : Idx s.a s.len i R.sz K := by
  obtain ⟨p, hp, hc⟩ := h.at_ i.toNat _ (List.getElem?_eq_getElem hl)
  have hs := h.spot (fun e => by subst e; simp at hl) p hp
  refine ⟨p, hp, h0, by rw [h.len]; omega, hk _ ?_ fun j v hv => ?_⟩
  · rw [add_add _ hs]
  · have := hc j v hv
    rw [add_add _ hs, add_add _ rfl]
    exact this

/-- An owned element is written. -/
theorem Own.put (h : Own R w s xs) {i : Int} (h0 : 0 ≤ i) (hl : i.toNat < xs.length) {K : Addr → Prop}
    (hk : ∀ b, s.a = some ⟨b, 0, none⟩ → (∀ (y : α) (w1 : World) (K' : World → Prop), Own R w1 s xs → (∀ w', Off b w1 w' → Own R w' s (xs.set i.toNat y) → K' w') → stL w1 ⟨b, i.toNat * R.sz, none⟩ (R.enc y) 0 K') → K ⟨b, i.toNat * R.sz, none⟩) :
    Idx s.a s.len i R.sz K := by
  obtain ⟨rest, h1, h2, h3⟩ := h
  rcases h3 with ⟨_, h, _⟩ | ⟨b, h, hB⟩
  · subst h; simp at hl
  · refine ⟨_, h, h0, by rw [h1]; omega, ?_⟩
    rw [add_add _ rfl]
    simp only [Nat.zero_add]
    refine hk b h fun y w1 K' hO hK => ?_
    obtain ⟨rest, h1, h2, h3⟩ := hO
    rcases h3 with ⟨h', _, _⟩ | ⟨b', h', hB'⟩
    · rw [h] at h'; cases h'
    · rw [h] at h'; cases h'
      have hlen : i.toNat * R.sz + R.sz ≤ (xs ++ rest).length * R.sz := by
        rw [← Nat.succ_mul]; exact Nat.mul_le_mul_right _ (by simp; omega)
      refine stL_blk (R.enc y) 0 w1 _ K' hB' ?_ fun w' ho hB2 => hK w' ho ?_
      · rw [R.flat_len, R.len]; simpa using hlen
      · rw [Nat.add_zero, R.flat_set (xs ++ rest) _ _ (by simp; omega), List.set_append_left _ _ hl] at hB2
        exact ⟨rest, by simpa using h1, by simpa using h2, .inr ⟨_, h, hB2⟩⟩

/-- make -/
theorem Own.mk {bytes : Nat} {n : Int} {K : SV → World → Prop} (h0 : 0 ≤ n) (hb : (bytes : Int) * n ≤ 2 ^ 48) (hn : n < 2 ^ 62)
    (hk : ∀ b w', Ext w w' → w.heap.size ≤ b → Own R w' ⟨some ⟨b, 0, none⟩, n.toNat, n.toNat⟩ (List.replicate n.toNat R.z) → K ⟨some ⟨b, 0, none⟩, n.toNat, n.toNat⟩ w') :
    MkS bytes (R.enc R.z) n n w K :=
  ⟨h0, Int.le_refl _, hb, hn, fun b w' e hs hB => hk b w' e hs ⟨[], by simp, by simp, .inr ⟨b, rfl, by rw [List.append_nil, ← R.zeros]; exact hB⟩⟩⟩
/-- make with a capacity -/
theorem Own.mk0 {bytes : Nat} {n : Int} {K : SV → World → Prop} (h0 : 0 ≤ n) (hb : (bytes : Int) * n ≤ 2 ^ 48) (hn : n < 2 ^ 62)
    (hk : ∀ b w', Ext w w' → w.heap.size ≤ b → Own R w' ⟨some ⟨b, 0, none⟩, 0, n.toNat⟩ [] → K ⟨some ⟨b, 0, none⟩, 0, n.toNat⟩ w') :
    MkS bytes (R.enc R.z) 0 n w K :=
  ⟨Int.le_refl _, h0, hb, hn, fun b w' e hs hB => hk b w' e hs ⟨List.replicate n.toNat R.z, by simp, by simp, .inr ⟨b, rfl, by rw [List.nil_append, ← R.zeros]; exact hB⟩⟩⟩

theorem flat_one (xs : List α) : ∀ v ∈ R.flat xs, one v = true := by
  intro v hv
  simp only [Rc.flat, List.mem_flatMap] at hv
  obtain ⟨x, _, hx⟩ := hv
  exact R.one x v hx

theorem View.cells {t : SV} {ys : List α} (h : View R w t ys) : SlCells w t.a (R.flat ys) := by
  by_cases hy : ys = []
  · subst hy; exact .inl rfl
  · right
    obtain ⟨y, hy0⟩ : ∃ y, ys[0]? = some y := by cases ys with | nil => exact absurd rfl hy | cons y _ => exact ⟨y, rfl⟩
    obtain ⟨p, hp, _⟩ := h.at_ 0 y hy0
    refine ⟨p, hp, fun j v hv => ?_⟩
    have hj := (List.getElem?_eq_some_iff.1 hv).1
    rw [R.flat_len] at hj
    have hq : j / R.sz < ys.length := Nat.div_lt_of_lt_mul (by rw [Nat.mul_comm]; exact hj)
    obtain ⟨p', hp', hc⟩ := h.at_ (j / R.sz) _ (List.getElem?_eq_getElem hq)
    rw [hp] at hp'; cases hp'
    have hr : j % R.sz < R.sz := Nat.mod_lt _ R.pos
    have he : j / R.sz * R.sz + j % R.sz = j := by rw [Nat.mul_comm]; exact Nat.div_add_mod _ _
    have := R.flat_get ys (j / R.sz) (j % R.sz) _ (List.getElem?_eq_getElem hq) hr
    rw [he, hv] at this
    have h2 := hc _ _ this.symm
    rw [Nat.add_assoc, he] at h2
    rw [add_add _ (h.spot hy p hp)]; exact h2

/-- append -/
theorem Own.app {bytes : Nat} {t : SV} {ys : List α} {K : SV → World → Prop} (h : Own R w s xs) (ht : View R w t ys)
    (hb : (xs.length + ys.length) * bytes ≤ 2 ^ 47) (hn : xs.length + ys.length < 2 ^ 62)
    (hk : ∀ s' w', Chg s.blk w w' → (∀ k, s'.blk k → s.blk k ∨ w.heap.size ≤ k) → Own R w' s' (xs ++ ys) → K s' w') : App bytes (R.enc R.z) s t w K := by
  have hlen : s.len = xs.length := h.view.len
  have hz : (R.enc R.z).length = R.sz := R.len _
  refine ⟨by rw [hlen, ht.len]; exact hb, by rw [hlen, ht.len]; exact hn, R.flat ys, by rw [R.flat_len, ht.len, hz], ht.cells, ?_⟩
  have hv := h.view.cells
  have hO := h
  obtain ⟨rest, h1, h2, h3⟩ := h
  by_cases hc : s.len + t.len ≤ s.cap
  · left
    rw [hlen, ht.len] at hc
    refine ⟨by rw [hlen, ht.len]; exact hc, ?_, ?_⟩
    · rcases h3 with ⟨h, hx, hr⟩ | ⟨b, h, hB⟩
      · left; subst hx hr; simp at h2; rw [h2] at hc; simp at hc; rw [ht.len, hc]; simp
      · right
        have hsz : ∀ j, j < (R.flat ys).length → s.len * R.sz + j < (R.flat (xs ++ rest)).length := by
          intro j hj
          rw [R.flat_len] at hj ⊢
          have : (xs.length + ys.length) * R.sz ≤ (xs ++ rest).length * R.sz := Nat.mul_le_mul_right _ (by simp; omega)
          rw [Nat.add_mul] at this
          rw [hlen]; omega
        refine ⟨_, h, rfl, flat_one ys, fun j hj => ?_, fun j hj => frozen_blk hB _⟩
        rw [hz, Nat.zero_add, cell_blk hB, List.getElem?_eq_getElem (hsz j hj)]; rfl
    · intro w' hp hn'
      rcases h3 with ⟨h, hx, hr⟩ | ⟨b, h, hB⟩
      · have := hn' h
        subst this
        refine hk _ _ (.refl _ _) (fun k hk => .inl hk) ?_
        subst hx hr
        simp at h2
        have : ys = [] := by rw [h2] at hc; simpa using hc
        subst this
        refine ⟨[], ?_, ?_, .inl ⟨h, rfl, rfl⟩⟩ <;> simp [hlen, ht.len, h2]
      · obtain ⟨ho, hc1, hc2, hcs⟩ := hp _ h
        simp only [hz, Nat.zero_add] at hc1 hc2
        refine hk _ _ (.of_off ho ⟨_, h, rfl⟩) (fun k hk => .inl hk) ?_
        obtain ⟨cs', hB', hl'⟩ := hcs _ hB
        have hle : ys.length ≤ rest.length := by omega
        have hyl : R.flat (xs ++ rest) = R.flat xs ++ (R.flat (rest.take ys.length) ++ R.flat (rest.drop ys.length)) := by
          rw [← R.flat_append, List.take_append_drop, R.flat_append]
        have h5 : (R.flat (rest.take ys.length)).length = (R.flat ys).length := by rw [R.flat_len, R.flat_len]; simp [hle]
        have : cs' = R.flat (xs ++ ys ++ rest.drop ys.length) := by
          apply List.ext_getElem?
          intro i
          rw [← cell_blk hB']
          rw [List.append_assoc, R.flat_append, R.flat_append]
          by_cases hi : s.len * R.sz ≤ i ∧ i < s.len * R.sz + (R.flat ys).length
          · have := hc1 (i - s.len * R.sz) _ (List.getElem?_eq_getElem (by omega))
            rw [show s.len * R.sz + (i - s.len * R.sz) = i by omega] at this
            rw [this, List.getElem?_append_right (by rw [R.flat_len, ← hlen]; omega), R.flat_len xs, ← hlen, List.getElem?_append_left (by omega), List.getElem?_eq_getElem (by omega)]
          · rw [hc2 i (by omega), cell_blk hB, hyl]
            by_cases hi2 : i < s.len * R.sz
            · rw [List.getElem?_append_left (by rw [R.flat_len, ← hlen]; exact hi2), List.getElem?_append_left (by rw [R.flat_len, ← hlen]; exact hi2)]
            · have h6 : (R.flat xs).length = s.len * R.sz := by rw [R.flat_len, hlen]
              have hi3 : s.len * R.sz + (R.flat ys).length ≤ i := by omega
              rw [List.getElem?_append_right (by omega), List.getElem?_append_right (by omega), h6, List.getElem?_append_right (by omega), List.getElem?_append_right (by omega), h5, h6]
        subst this
        refine ⟨rest.drop ys.length, by simp [hlen, ht.len], ?_, .inr ⟨b, h, hB'⟩⟩
        show s.cap = _
        rw [h2]; simp; omega
  · right
    refine ⟨by omega, R.flat xs, by rw [R.flat_len, hlen, hz], hv, fun b c w' e hb hle hB => ?_⟩
    refine hk _ _ (.of_ext e) (fun k hk => .inr ?_) ?_
    · obtain ⟨p, hp, rfl⟩ := hk; cases hp; exact hb
    · refine ⟨List.replicate (c - (s.len + t.len)) R.z, by simp [hlen, ht.len], ?_, .inr ⟨b, rfl, ?_⟩⟩
      · rw [hlen, ht.len] at hle ⊢; simp; omega
      · rw [R.zeros, ← R.flat_append, ← R.flat_append] at hB; exact hB

/-- append of one that lies in a block of its own -/
theorem View.one {b : Nat} {x : α} (h : Blk w b (R.enc x)) : View R w ⟨some ⟨b, 0, none⟩, 1, 1⟩ [x] :=
  ⟨rfl, fun _ p hp => by cases hp; rfl, fun i y hy => by
    cases i with
    | zero => simp at hy; subst hy; exact ⟨_, rfl, fun j v hv => by rw [cell_blk h]; simpa using hv⟩
    | succ i => simp at hy⟩
theorem View.all {b : Nat} {xs : List α} {c : Nat} (h : Blk w b (R.flat xs)) : View R w ⟨some ⟨b, 0, none⟩, xs.length, c⟩ xs :=
  ⟨rfl, fun _ p hp => by cases hp; rfl, fun i y hy => ⟨_, rfl, fun j v hv => by
    have hj : j < R.sz := by rw [← R.len y]; exact (List.getElem?_eq_some_iff.1 hv).1
    rw [cell_blk h, Nat.zero_add, R.flat_get xs i j y hy hj]; exact hv⟩⟩
end
end Go.Sh
