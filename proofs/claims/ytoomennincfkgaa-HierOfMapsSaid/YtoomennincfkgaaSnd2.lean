/- What 'sem1' says of an operation is what it does: all operations. -/
import Derived.Test.YtoomennincfkgaaSnd1
namespace Go.Sh
open Go.RowKit

def SemOk (cx : Cx) (s : S) (a : Act) (o : Oper) (w : World) : OpR → Prop
  | .pure V => ∀ K, V K → ∃ x, K x ∧ LocOk cx.P s x ∧ ∀ w', (execOp a.eval o).run cx.P w' = .ok (.value (conc s.bx x)) w'
  | .read R => ∀ K, R w K → ∃ x, K x ∧ LocOk cx.P s x ∧ ∀ w', Ext w w' → (execOp a.eval o).run cx.P w' = .ok (.value (conc s.bx x)) w'
  | .box cs => ∃ T, ∀ w', (execOp a.eval o).run cx.P w' = .ok (.value (.pointer (some ⟨w'.heap.size, 0, none⟩))) (w'.alloc (.cells cs.toArray T))
  | .new N => ∀ w1 K, N w1 K → ∃ x w2, (execOp a.eval o).run cx.P w1 = .ok (.value (cc x)) w2 ∧ ArgOk cx.P x ∧ Ext w1 w2 ∧ K x w2
  | .big B => ∀ w1 K, B w1 K → ∃ x w2, ((execOp a.eval o).run cx.P w1 = .ok (.value (cc x)) w2 ∨ ((execOp a.eval o).run cx.P w1 = .ok .skip w2 ∧ x = .v undef)) ∧ ArgOk cx.P x ∧ w1.heap.size ≤ w2.heap.size ∧ K x w2
  | .lst d b cs => ∃ cs0, find s.bx d = some ⟨b, cs0, .rw⟩ ∧ ∀ w1, Blk w1 b cs0 → ∃ w2, (execOp a.eval o).run cx.P w1 = .ok .skip w2 ∧ Off b w1 w2 ∧ Blk w2 b cs
  | .call f xs => (∀ x ∈ xs, ArgOk cx.P x) ∧ ∀ w', (execOp a.eval o).run cx.P w' = .ok (.enter f (xs.map cc).toArray) w'
  | .callV v vs _ => ∀ w', (execOp a.eval o).run cx.P w' = (do let d ← Deferred.ofValue v vs.toArray; invoke d.target d.args).run cx.P w'
  | .yield E v vs => YOk cx.P v E ∧ ∀ w', (execOp a.eval o).run cx.P w' = (do let d ← Deferred.ofValue v vs.toArray; invoke d.target d.args).run cx.P w'
  | .bad => True

theorem notLoc_v (v : Value) : NotLoc (.v v) := fun d off h => by cases h
theorem argOk_v {P : Program} (v : Value) : ArgOk P (.v v) := ⟨notLoc_v v, xok_v v⟩

section
variable {cx : Cx} {n : Nat} {s : S} {a : Act} {w : World}

theorem add_add (p : Addr) (hp : p.spot = none) (i : Nat) : p.add i = ⟨p.block, p.off + i, none⟩ := by
  unfold Addr.add
  split
  · rename_i h; subst h; cases p; simp at hp; simp [hp]
  · cases p; simp

theorem cell_blk {w : World} {b : Nat} {cs : List Value} (h : Blk w b cs) (i : Nat) : w.cell? ⟨b, i, none⟩ = cs[i]? := by
  obtain ⟨T, h⟩ := h
  simp [World.cell?, h]
theorem frozen_blk {w : World} {b : Nat} {cs : List Value} (h : Blk w b cs) (i : Nat) : w.frozen? ⟨b, i, none⟩ = false := by
  obtain ⟨T, h⟩ := h
  simp [World.frozen?, h]
theorem blk_lt {w : World} {b : Nat} {cs : List Value} (h : Blk w b cs) : b < w.heap.size := by
  obtain ⟨T, h⟩ := h
  exact (Array.getElem?_eq_some_iff.1 h).1
theorem Ext.blkE {w w' : World} (h : Ext w w') {b : Nat} {cs : List Value} (hb : Blk w b cs) : Blk w' b cs := by
  have hl := blk_lt hb
  obtain ⟨T, hb⟩ := hb
  exact ⟨T, by rw [h.blk hl]; exact hb⟩
theorem Ext.cell {w w' : World} (h : Ext w w') {p : Addr} {v : Value} (hc : w.cell? p = some v) : w'.cell? p = some v := by
  rw [Below.cell h (World.block_lt_of_cell? w p hc)]; exact hc

/-- Cells read one behind the other. -/
theorem rdL_ok {w : World} {p : Addr} : ∀ (l : List Shp) (j : Nat) (K : List Value → Prop), rdL w p l j K → ∃ vs, K vs ∧ vs.length = l.length ∧ ∀ i v, vs[i]? = some v → w.cell? (p.add (j + i)) = some v
  | [], j, K, h => ⟨[], h, rfl, fun i v hv => by simp at hv⟩
  | σ :: l, j, K, h => by
    obtain ⟨x, hx, hr⟩ := h
    obtain ⟨vs, h1, h2, h3⟩ := rdL_ok l (j + 1) _ hr
    refine ⟨_, h1, by simp [h2], fun i v hv => ?_⟩
    cases i with
    | zero => simp at hv; subst hv; exact hx
    | succ i => simp at hv; have := h3 i v hv; rw [show j + (i + 1) = j + 1 + i by omega]; exact this

theorem oneCell_of {v : Value} (h : one v = true) : v.oneCell' = true := by cases v <;> first | rfl | (cases h)

/-- Cells written one behind the other. -/
theorem stL_ok {P : Program} {p : Addr} : ∀ (vs : List Value) (j : Nat) (w : World) (K : World → Prop), (∀ v ∈ vs, one v = true) → stL w p vs j K →
    ∃ w2, (storeCells p vs j).run P w = .ok () w2 ∧ w2.heap.size = w.heap.size ∧ K w2
  | [], j, w, K, _, h => ⟨w, rfl, rfl, h⟩
  | v :: l, j, w, K, h1, h => by
    obtain ⟨g1, g2, g3⟩ := h
    obtain ⟨u, hu⟩ := Option.isSome_iff_exists.1 g1
    obtain ⟨w2, r1, r2, r3⟩ := stL_ok (P := P) l (j + 1) _ K (fun v hv => h1 v (List.mem_cons_of_mem _ hv)) g3
    refine ⟨w2, ?_, by rw [r2]; simp, r3⟩
    simp only [storeCells, Sem.run_bind]
    rw [run_store _ _ _ _ _ (oneCell_of (h1 v List.mem_cons_self)), hu]
    simp only [g2, Bool.false_eq_true, if_false, Result.andThen_ok]
    exact r1

theorem storeVar_run {P : Program} {t : TypeId} {p : Addr} {v : Value} (hs : sizeB P t v.cells.toList.length = true) (w : World) : (storeVar t p v).run P w = (storeCells p v.cells.toList).run P w := by
  obtain ⟨i, hi, hsz⟩ := sizeB_ok hs
  have : ¬ (v.cells.size ≠ i.size) := by rw [hsz]; simp
  simp [storeVar, sizeOf, typeInfo, hi, this]

/-- Stores into a block that is known whole. -/
theorem storeBlk {P : Program} {b : Nat} : ∀ (vs : List Value) (o j : Nat) (cs : List Value) (w : World), (∀ v ∈ vs, one v = true) → o + j + vs.length ≤ cs.length → Blk w b cs →
    ∃ w2, (storeCells ⟨b, o, none⟩ vs j).run P w = .ok () w2 ∧ Off b w w2 ∧ Blk w2 b (putAt cs (o + j) vs)
  | [], o, j, cs, w, _, _, hb => ⟨w, rfl, ⟨rfl, rfl, rfl, rfl, fun _ _ => rfl⟩, by simpa [putAt] using hb⟩
  | v :: l, o, j, cs, w, h1, hl, hb => by
    simp only [List.length_cons] at hl
    have hc := cell_blk hb (o + j)
    rw [List.getElem?_eq_getElem (by omega)] at hc
    have hf := frozen_blk hb (o + j)
    have hb' : Blk (w.setCell ⟨b, o + j, none⟩ v) b (cs.set (o + j) v) := by
      obtain ⟨T, hT⟩ := hb
      exact ⟨T, by simp [World.setCell, Array.getElem?_modify, hT]⟩
    obtain ⟨w2, r1, r2, r3⟩ := storeBlk (P := P) l o (j + 1) (cs.set (o + j) v) _ (fun v hv => h1 v (List.mem_cons_of_mem _ hv)) (by simp; omega) hb'
    refine ⟨w2, ?_, ?_, ?_⟩
    · simp only [storeCells, Sem.run_bind, add_add]
      rw [run_store _ _ _ _ _ (oneCell_of (h1 v List.mem_cons_self)), hc]
      simp only [hf, Bool.false_eq_true, if_false, Result.andThen_ok]
      exact r1
    · refine ⟨r2.os, r2.tape, r2.output, by rw [r2.size]; simp, fun k hk => ?_⟩
      rw [r2.block k hk]
      exact Below.heap_setCell _ _ _ _ hk
    · have e : putAt (cs.set (o + j) v) (o + (j + 1)) l = putAt cs (o + j) (v :: l) := by
        unfold putAt
        have e1 : (cs.set (o + j) v).take (o + (j + 1)) = cs.take (o + j) ++ [v] := by
          rw [show o + (j + 1) = o + j + 1 by omega, List.take_succ_eq_append_getElem (by simp; omega)]
          simp [List.take_set_of_le]
        have e2 : (cs.set (o + j) v).drop (o + (j + 1) + l.length) = cs.drop (o + j + (v :: l).length) := by
          rw [List.drop_set_of_lt (by omega)]
          simp only [List.length_cons]
          rw [show o + (j + 1) + l.length = o + j + (l.length + 1) by omega]
        rw [e1, e2]
        simp
      rw [e] at r3
      exact r3

theorem foldInt_min {k : IntKind} : ∀ (l : List X) (a r : Int), foldInt (fun x y => if y < x then y else x) k a l = some r → ∀ P w, ((l.map cc).foldlM Builtin.min2 (.int k a)).run P w = .ok (.int k r) w
  | [], a, r, h, P, w => by simp [foldInt] at h; subst h; rfl
  | x :: l, a, r, h, P, w => by
    cases x with
    | v x =>
      cases x with
      | int j b =>
        simp only [foldInt] at h
        split at h
        · have := foldInt_min l _ r h P w
          simpa [Builtin.min2, cc, List.foldlM] using this
        · cases h
      | _ => simp [foldInt] at h
    | _ => simp [foldInt] at h
theorem foldInt_max {k : IntKind} : ∀ (l : List X) (a r : Int), foldInt (fun x y => if y > x then y else x) k a l = some r → ∀ P w, ((l.map cc).foldlM Builtin.max2 (.int k a)).run P w = .ok (.int k r) w
  | [], a, r, h, P, w => by simp [foldInt] at h; subst h; rfl
  | x :: l, a, r, h, P, w => by
    cases x with
    | v x =>
      cases x with
      | int j b =>
        simp only [foldInt] at h
        split at h
        · have := foldInt_max l _ r h P w
          simpa [Builtin.max2, cc, List.foldlM] using this
        · cases h
      | _ => simp [foldInt] at h
    | _ => simp [foldInt] at h

theorem noBody_ok {P : Program} {f : FuncId} (h : noBodyB P f = true) (args : Array Value) (w : World) : (callFunc f args).run P w = .ok (.enter f args) w := by
  unfold noBodyB at h
  split at h
  · rename_i fn hf
    simp only [Bool.and_eq_true, Bool.not_eq_true'] at h
    have h1 : fn.body ≠ none := by intro hb; rw [hb] at h; simp at h
    have h2 : fn.name ≠ "runtime.NumGoroutine" := beq_eq_false_iff_ne.1 h.2
    simp [callFunc, hf, h2, h1]
  · cases h

/-- Stores at cells that are there. -/
theorem storeAt_ok {P : Program} {b : Nat} : ∀ (vs : List Value) (o j : Nat) (w : World), (∀ v ∈ vs, one v = true) → (∀ i, i < vs.length → (w.cell? ⟨b, o + j + i, none⟩).isSome = true) → (∀ i, i < vs.length → w.frozen? ⟨b, o + j + i, none⟩ = false) →
    ∃ w2, (storeCells ⟨b, o, none⟩ vs j).run P w = .ok () w2 ∧ Off b w w2 ∧ (∀ i v, vs[i]? = some v → w2.cell? ⟨b, o + j + i, none⟩ = some v) ∧
      (∀ k, (k < o + j ∨ o + j + vs.length ≤ k) → w2.cell? ⟨b, k, none⟩ = w.cell? ⟨b, k, none⟩) ∧ (∀ cs, Blk w b cs → ∃ cs', Blk w2 b cs' ∧ cs'.length = cs.length)
  | [], o, j, w, _, _, _ => ⟨w, rfl, ⟨rfl, rfl, rfl, rfl, fun _ _ => rfl⟩, fun i v h => by simp at h, fun _ _ => rfl, fun cs h => ⟨cs, h, rfl⟩⟩
  | v :: l, o, j, w, h1, hc, hf => by
    obtain ⟨u, hu⟩ := Option.isSome_iff_exists.1 (hc 0 (by simp))
    have hf0 := hf 0 (by simp)
    simp only [Nat.add_zero] at hu hf0
    have ne : ∀ k, k ≠ o + j → (w.setCell ⟨b, o + j, none⟩ v).cell? ⟨b, k, none⟩ = w.cell? ⟨b, k, none⟩ := fun k hk => World.cell?_setCell_other _ _ _ _ (by intro e; injection e with _ e; exact hk e.symm)
    obtain ⟨w2, r1, r2, r3, r4, r5⟩ := storeAt_ok (P := P) l o (j + 1) (w.setCell ⟨b, o + j, none⟩ v) (fun v hv => h1 v (List.mem_cons_of_mem _ hv))
      (fun i hi => by rw [ne _ (by omega)]; have := hc (i + 1) (by simp; omega); rw [show o + j + (i + 1) = o + (j + 1) + i by omega] at this; exact this)
      (fun i hi => by rw [World.frozen?_setCell]; have := hf (i + 1) (by simp; omega); rw [show o + j + (i + 1) = o + (j + 1) + i by omega] at this; exact this)
    refine ⟨w2, ?_, ⟨r2.os, r2.tape, r2.output, by rw [r2.size]; simp, fun k hk => by rw [r2.block k hk]; exact Below.heap_setCell _ _ _ _ hk⟩, fun i x hx => ?_, fun k hk => ?_, fun cs hcs => ?_⟩
    · simp only [storeCells, Sem.run_bind, add_add]
      rw [run_store _ _ _ _ _ (oneCell_of (h1 v List.mem_cons_self)), hu]
      simp only [hf0, Bool.false_eq_true, if_false, Result.andThen_ok]
      exact r1
    · cases i with
      | zero =>
        simp at hx; subst hx
        rw [Nat.add_zero, r4 _ (by omega)]
        exact World.cell?_setCell_same _ _ _ hu
      | succ i => simp at hx; have := r3 i x hx; rw [show o + j + (i + 1) = o + (j + 1) + i by omega]; exact this
    · simp only [List.length_cons] at hk
      rw [r4 k (by omega)]
      exact ne k (by omega)
    · have hb' : Blk (w.setCell ⟨b, o + j, none⟩ v) b (cs.set (o + j) v) := by
        obtain ⟨T, hcs⟩ := hcs
        exact ⟨T, by simp [World.setCell, Array.getElem?_modify, hcs]⟩
      obtain ⟨cs', h1, h2⟩ := r5 _ hb'
      exact ⟨cs', h1, by rw [h2]; simp⟩

theorem firstCells_ok {P : Program} {w : World} {a : Option Addr} {xs : List Value} {n c sz : Nat} (hl : xs.length = n * sz) (h : SlCells w a xs) : (Builtin.firstCells sz n (.slice a n c)).run P w = .ok xs.toArray w := by
  cases a with
  | none =>
    rcases h with h | ⟨p, h, _⟩
    · subst h; rfl
    · cases h
  | some p =>
    simp only [Builtin.firstCells]
    rw [← hl]
    rcases h with h | ⟨q, hq, h⟩
    · subst h; rfl
    · injection hq with hq; subst hq
      exact run_loadCells_list w p xs h

theorem firstCells_ok' {P : Program} {w : World} {a : Option Addr} {xs : List Value} {n c m sz : Nat} (hl : xs.length = n * sz) (h : SlCells w a xs) : (Builtin.firstCells sz n (.slice a m c)).run P w = .ok xs.toArray w := by
  have := firstCells_ok (P := P) (c := c) hl h
  cases a <;> simpa [Builtin.firstCells] using this

theorem zeros_eq (z : Value) (n : Nat) : (Builtin.zeroCells z.cells n).toList = zeros z.cells.toList n := by
  simp only [Builtin.zeroCells, zeros, Array.toList_map, Array.toList_range, Array.length_toList]
  apply List.map_congr_left
  intro i hi
  have hp : 0 < z.cells.size := by
    rcases Nat.eq_zero_or_pos z.cells.size with h | h
    · rw [h] at hi; simp at hi
    · exact h
  have := Nat.mod_lt i hp
  simp [this]

theorem nextcap_le (need old : Nat) (h : old < need) (hn : need ≤ 2 ^ 62) : ∀ by_ : Nat, need * by_ ≤ 2 ^ 47 → Builtin.nextslicecap need old * by_ ≤ 2 ^ 48 := by
  intro by_ hb
  have grow : ∀ (r c : Nat), c < need → Builtin.growBy need r c ≤ 2 * need ∨ (256 ≤ c → Builtin.growBy need r c ≤ 2 * need) := by
    intro r
    induction r with
    | zero => intro c hc; left; simp only [Builtin.growBy]; omega
    | succ r ih =>
      intro c hc
      simp only [Builtin.growBy]
      rw [if_neg (by omega)]
      by_cases hlt : c + (c + 768) / 4 < need
      · rcases ih _ hlt with h' | h'
        · exact .inl h'
        · exact .inr fun _ => h' (by omega)
      · right
        intro hc2
        cases r with
        | zero => simp only [Builtin.growBy]; omega
        | succ r => simp only [Builtin.growBy]; rw [if_pos (by omega)]; omega
  have h2 : Builtin.nextslicecap need old ≤ 2 * need := by
    unfold Builtin.nextslicecap
    split
    · omega
    · split
      · omega
      · rcases grow 4 old h with h' | h'
        · exact h'
        · exact h' (by omega)
  calc Builtin.nextslicecap need old * by_ ≤ (2 * need) * by_ := Nat.mul_le_mul_right _ h2
    _ = 2 * (need * by_) := by rw [Nat.mul_assoc]
    _ ≤ 2 * 2 ^ 47 := Nat.mul_le_mul_left _ hb
    _ = 2 ^ 48 := by decide

theorem app_ok {P : Program} {t e ty : TypeId} {i : TypeInfo} {z : Value} {sz bytes : Nat} {zs : List Value} (he : ElOk P t e i z sz bytes zs) (s x : SV) {w : World} {K : SV → World → Prop} (h : App bytes zs s x w K) :
    ∃ r w2, (Builtin.append_ #[t, t] ty #[.slice s.a s.len s.cap, .slice x.a x.len x.cap]).run P w = .ok (.slice r.a r.len r.cap) w2 ∧ w.heap.size ≤ w2.heap.size ∧ K r w2 := by
  obtain ⟨hb, h62, xs, hxl, hxs, h⟩ := h
  have hlen := he.len
  rw [hlen] at hxl h
  have hfx := firstCells_ok (P := P) (c := x.cap) hxl hxs
  have hint : ((P.underlying t).any fun d => match d with | .int _ => true | _ => false) = false := by rw [he.un]; rfl
  rcases h with ⟨hcap, hput, hK⟩ | ⟨hcap, os, hol, hos, hK⟩
  · -- there is room
    cases ha : s.a with
    | none =>
      refine ⟨⟨none, s.len + x.len, s.cap⟩, w, ?_, Nat.le_refl _, by rw [ha] at hK; exact hK w (fun p hp => by cases hp) (fun _ => rfl)⟩
      simp [Builtin.append_, run_underlying he.un, sizeOf, typeInfo, he.info, he.size, Builtin.lenOf, hcap, hfx]
    | some p =>
      by_cases hz : x.len * sz = 0
      · have hx0 : xs = [] := List.eq_nil_of_length_eq_zero (by rw [hxl]; exact hz)
        subst hx0
        refine ⟨⟨some p, s.len + x.len, s.cap⟩, w, ?_, Nat.le_refl _, ?_⟩
        · simp [Builtin.append_, run_underlying he.un, sizeOf, typeInfo, he.info, he.size, Builtin.lenOf, hcap, hfx, storeCells]
        · rw [ha] at hK
          exact hK w (fun q hq => ⟨⟨rfl, rfl, rfl, rfl, fun _ _ => rfl⟩, fun j v hv => by simp at hv, fun _ _ => rfl, fun cs h => ⟨cs, h, rfl⟩⟩) (fun hn => by cases hn)
      · rcases hput with h0 | ⟨q, hq, hsp, h1, hc, hf⟩
        · exact absurd h0 hz
        · rw [ha] at hq; injection hq with hq; subst hq
          have hadd : p.add (s.len * sz) = ⟨p.block, p.off + s.len * sz, none⟩ := add_add p hsp _
          obtain ⟨w2, r1, r2, r3, r4, r5⟩ := storeAt_ok (P := P) (b := p.block) xs (p.off + s.len * sz) 0 w h1 (fun j hj => by simpa using hc j hj) (fun j hj => by simpa using hf j hj)
          refine ⟨⟨some p, s.len + x.len, s.cap⟩, w2, ?_, by rw [r2.size]; exact Nat.le_refl _, ?_⟩
          · simp [Builtin.append_, run_underlying he.un, sizeOf, typeInfo, he.info, he.size, Builtin.lenOf, hcap, hfx, hadd, r1]
          · rw [ha] at hK
            exact hK w2 (fun q hq => by
              injection hq with hq; subst hq
              exact ⟨r2, fun j v hv => by simpa using r3 j v hv, fun o ho => r4 o (by omega), r5⟩) (fun hn => by cases hn)
  · -- it grows
    have hng : ¬ (s.len + x.len ≤ s.cap) := by omega
    have hfit : ¬ (2 ^ 48 < Builtin.nextslicecap (s.len + x.len) s.cap * i.bytes) := by
      have := nextcap_le (s.len + x.len) s.cap hcap (by omega) i.bytes (by rw [he.bytes]; exact hb)
      omega
    have hfo := firstCells_ok' (P := P) (c := s.cap) (m := s.len) hol hos
    have h63 : ¬ ((9223372036854775807 : Int) < ((s.len + x.len : Nat) : Int)) := by omega
    refine ⟨⟨some ⟨w.heap.size, 0, none⟩, s.len + x.len, grownCap w (s.len + x.len) s.cap e⟩, w.drew.alloc (.cells (os.toArray ++ xs.toArray ++ Builtin.zeroCells z.cells (grownCap w (s.len + x.len) s.cap e - (s.len + x.len))) e), ?_, by simp, ?_⟩
    · have hfx' := firstCells_ok (P := P) (w := w.drew) (c := x.cap) hxl hxs
      have hfo' := firstCells_ok' (P := P) (w := w.drew) (c := s.cap) (m := s.len) hol hos
      have h63' : ¬ ((9223372036854775807 : Int) < (s.len : Int) + (x.len : Int)) := by omega
      have hfit' : ¬ (281474976710656 < Builtin.nextslicecap (s.len + x.len) s.cap * i.bytes) := by omega
      simp [Builtin.append_, run_underlying he.un, sizeOf, typeInfo, zeroValue, he.info, he.zero, he.size, Builtin.lenOf, hng, hfit', h63', Question.forced, hfx', hfo', newRow, grownCap]
      congr 2
      apply Array.ext'
      simp [List.append_assoc]
    · refine hK _ _ _ ⟨rfl, rfl, rfl, by simp, fun k hk => Below.heap_alloc _ _ _ (by simpa using hk)⟩ (Nat.le_refl _) ?_ ⟨e, ?_⟩
      · exact Nat.le_add_right _ _
      · have hz2 := zeros_eq z (grownCap w (s.len + x.len) s.cap e - (s.len + x.len))
        rw [he.cells] at hz2
        have : (os ++ xs ++ zeros zs (grownCap w (s.len + x.len) s.cap e - (s.len + x.len))).toArray = os.toArray ++ xs.toArray ++ Builtin.zeroCells z.cells (grownCap w (s.len + x.len) s.cap e - (s.len + x.len)) := by
          rw [← hz2]; simp
        rw [this]
        show (w.heap.push _)[w.heap.size]? = _
        simp

theorem cpy_ok {P : Program} {t e ty : TypeId} {i : TypeInfo} {z : Value} {sz bytes : Nat} {zs : List Value} (he : ElOk P t e i z sz bytes zs) (s x : SV) {w : World} {K : World → Prop} (h : Cpy sz s x w K) :
    ∃ w2, (Builtin.copy_ #[t, t] ty #[.slice s.a s.len s.cap, .slice x.a x.len x.cap]).run P w = .ok (.int .i64 (min x.len s.len : Nat)) w2 ∧ w.heap.size ≤ w2.heap.size ∧ K w2 := by
  obtain ⟨xs, hxl, hxs, hput, hK⟩ := h
  have hfx := firstCells_ok' (P := P) (c := x.cap) (m := x.len) hxl hxs
  have hmin : ∀ a b : Nat, Nat.min a b = min a b := fun _ _ => rfl
  have hint : goInt ((min x.len s.len : Nat) : Int) = .int .i64 ((min x.len s.len : Nat) : Int) := rfl
  cases ha : s.a with
  | none =>
    have hx0 : xs = [] := by
      rcases hput with h | ⟨q, hq, _⟩
      · exact h
      · rw [ha] at hq; cases hq
    refine ⟨w, ?_, Nat.le_refl _, hK w (fun _ => rfl) (fun p hp => by rw [ha] at hp; cases hp)⟩
    simp [Builtin.copy_, run_underlying he.un, sizeOf, typeInfo, he.info, he.size, Builtin.lenOf, hmin, hfx, hint]
  | some p =>
    rcases hput with hx0 | ⟨q, hq, hsp, h1, hc, hf⟩
    · subst hx0
      refine ⟨w, ?_, Nat.le_refl _, hK w (fun _ => rfl) (fun p hp => ⟨⟨rfl, rfl, rfl, rfl, fun _ _ => rfl⟩, fun j v hv => by simp at hv, fun _ _ => rfl, fun cs h => ⟨cs, h, rfl⟩⟩)⟩
      simp [Builtin.copy_, run_underlying he.un, sizeOf, typeInfo, he.info, he.size, Builtin.lenOf, hmin, hfx, hint, storeCells]
    · rw [ha] at hq; injection hq with hq; subst hq
      obtain ⟨w2, r1, r2, r3, r4, r5⟩ := storeAt_ok (P := P) (b := p.block) xs p.off 0 w h1 (fun j hj => by simpa using hc j hj) (fun j hj => by simpa using hf j hj)
      have hp0 : p = ⟨p.block, p.off, none⟩ := by cases p; simp at hsp; subst hsp; rfl
      refine ⟨w2, ?_, by rw [r2.size]; exact Nat.le_refl _, hK w2 (fun hx => ?_) (fun q hq => by
        rw [ha] at hq
        injection hq with hq; subst hq
        exact ⟨r2, fun j v hv => by simpa using r3 j v hv, fun o ho => r4 o (by omega), r5⟩)⟩
      · rw [← hp0] at r1
        simp [Builtin.copy_, run_underlying he.un, sizeOf, typeInfo, he.info, he.size, Builtin.lenOf, hmin, hfx, hint, r1]
      · subst hx
        injection r1 with _ r1
        exact r1.symm
end
end Go.Sh
