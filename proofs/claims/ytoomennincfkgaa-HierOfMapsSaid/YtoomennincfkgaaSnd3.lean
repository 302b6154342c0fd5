/- What 'sem1' says of an operation is what it does: the operations, one by one. -/
import Derived.Test.YtoomennincfkgaaSnd2
namespace Go.Sh
open Go.RowKit

section
variable {cx : Cx} {n : Nat} {s : S} {a : Act} {w : World} {o : Oper}

theorem conc_v (bx : List (Nat × Bx)) (v : Value) : conc bx (.v v) = v := rfl

theorem made_eq (z : Value) (k : Nat) : (madeCells z.cells (k * z.cells.toList.length)) = (zeros z.cells.toList k).toArray := by
  apply Array.ext'
  simp only [madeCells, zeros, Array.toList_map, Array.toList_range, Array.length_toList]
  apply List.map_congr_left
  intro i hi
  have hp : 0 < z.cells.size := by
    rcases Nat.eq_zero_or_pos z.cells.size with h | h
    · rw [h] at hi; simp at hi
    · exact h
  have := Nat.mod_lt i hp
  simp [this]

theorem ok_move (h : Rel cx.P n s a w) {x : Operand} (hop : o.op = .move x ∨ o.op = .assign x) {y : X} (e : ev s x = some y) : SemOk cx s a o w (.pure fun K => K y) := by
  obtain ⟨h1, h2⟩ := ev_ok h e
  exact fun K hk => ⟨y, hk, h2, fun w' => by rcases hop with hop | hop <;> simp [execOp, hop, h1]⟩

theorem ok_box (h : Rel cx.P n s a w) {t : TypeId} {x : Operand} (hop : o.op = .box t x) {v : Value} (e : evv s x = some v) : SemOk cx s a o w (.box v.cells.toList) :=
  ⟨t, fun w' => by simp [execOp, hop, evv_ok h e, Instr.box, newVar, newRow]⟩

theorem ok_alloc {t : TypeId} (hop : o.op = .alloc t) {z : Value} (e : zeroB cx.P t = some z) : SemOk cx s a o w (.box z.cells.toList) := by
  unfold zeroB at e
  split at e
  · rename_i i hi
    exact ⟨t, fun w' => by simp [execOp, hop, Instr.alloc, zeroValue, typeInfo, hi, e, newVar, newRow]⟩
  · cases e

theorem ok_build (h : Rel cx.P n s a w) {t : TypeId} {parts : Array (Nat × Operand)} (hop : o.op = .build t parts) {vs : List (Nat × Value)} (e : evps s parts.toList = some vs) {cells : Array Value} (hc : cx.P.built t vs = some cells) :
    SemOk cx s a o w (.pure fun K => K (.v (.agg cells.toList.toArray))) := by
  intro K hk
  refine ⟨_, hk, locOk_v _, fun w' => ?_⟩
  have e1 := evps_ok h e
  have e2 : (parts.map fun p => (p.1, a.eval p.2)).toList = vs := by simp [← e1]
  have := run_build (P := cx.P) w' t (parts.map fun p => (p.1, a.eval p.2)) cells (by rw [e2]; exact hc)
  simp [execOp, hop, this, conc_v]

theorem find_rw (h : Rel cx.P n s a w) {d : Nat} {b : Bx} (hb : find s.bx d = some b) (hm : b.m ≠ .out) : Blk w b.b b.cs := (h.bx d b hb).1 hm

theorem loadCells_blk {P : Program} {w : World} {b : Nat} {cs : List Value} (hb : Blk w b cs) (off k : Nat) (hk : off + k ≤ cs.length) : (loadCells ⟨b, off, none⟩ k).run P w = .ok ((cs.drop off).take k).toArray w := by
  have hl : ((cs.drop off).take k).length = k := by simp; omega
  have := run_loadCells_list (P := P) w ⟨b, off, none⟩ ((cs.drop off).take k) (fun j v hv => by
    rw [add_add _ rfl, cell_blk hb]
    rw [List.getElem?_take] at hv
    split at hv
    · rw [List.getElem?_drop] at hv; exact hv
    · cases hv)
  rw [hl] at this
  exact this

theorem und_of_agg {P : Program} {t : TypeId} (h : isAggB P t = true) : (P.underlying t).isSome = true := by
  unfold isAggB at h
  cases hu : P.underlying t with
  | none => rw [hu] at h; cases h
  | some d => rfl
theorem und_of_leaf {P : Program} {t : TypeId} {σ : Shp} (h : leafOf P t = some σ) : (P.underlying t).isSome = true := by
  unfold leafOf at h
  cases hu : P.underlying t with
  | none => rw [hu] at h; cases h
  | some d => rfl

theorem ok_load_agg (h : Rel cx.P n s a w) {t : TypeId} {x : Operand} (hop : o.op = .load t x) {d off : Nat} (e : ev s x = some (.loc d off)) {b : Bx} (hb : find s.bx d = some b) (hm : b.m ≠ .out) (hag : isAggB cx.P t = true) {k : Nat}
    (hs : sizeB cx.P t k = true) (hle : off + k ≤ b.cs.length) : SemOk cx s a o w (.read fun _ K => K (.v (.agg ((b.cs.drop off).take k).toArray))) := by
  intro K hk
  refine ⟨_, hk, locOk_v _, fun w' hE => ?_⟩
  obtain ⟨h1, _⟩ := ev_ok h e
  simp only [conc, hb] at h1
  obtain ⟨i, hi, hsz⟩ := sizeB_ok hs
  have hl := loadCells_blk (P := cx.P) (hE.blkE (find_rw h hb hm)) off k hle
  simp [execOp, hop, h1, Instr.loadAt, Instr.sureAddr, loadVar, isAgg_run t (und_of_agg hag), hag, sizeOf, typeInfo, hi, hsz, hl, conc_v]

theorem ok_load_one (h : Rel cx.P n s a w) {t : TypeId} {x : Operand} (hop : o.op = .load t x) {d off : Nat} (e : ev s x = some (.loc d off)) {b : Bx} (hb : find s.bx d = some b) (hm : b.m ≠ .out) (hag : isAggB cx.P t = false)
    (hun : (cx.P.underlying t).isSome = true) {v : Value} (hv : b.cs[off]? = some v) : SemOk cx s a o w (.read fun _ K => K (.v v)) := by
  intro K hk
  refine ⟨_, hk, locOk_v _, fun w' hE => ?_⟩
  obtain ⟨h1, _⟩ := ev_ok h e
  simp only [conc, hb] at h1
  have hc := cell_blk (hE.blkE (find_rw h hb hm)) off
  rw [hv] at hc
  simp [execOp, hop, h1, Instr.loadAt, Instr.sureAddr, loadVar, isAgg_run t hun, hag, hc, conc_v]

theorem ok_load_p {t : TypeId} {x : Operand} (hop : o.op = .load t x) {p : Addr} (g1 : a.eval x = .pointer (some p)) (hag : isAggB cx.P t = true) {l : List Shp} (hs : sizeB cx.P t l.length = true) :
    SemOk cx s a o w (.read fun w K => rdL w p l 0 (fun vs => K (.v (.agg vs.toArray)))) := by
  intro K hk
  obtain ⟨vs, h1, h2, h3⟩ := rdL_ok l 0 _ hk
  refine ⟨_, h1, locOk_v _, fun w' hE => ?_⟩
  obtain ⟨i, hi, hsz⟩ := sizeB_ok hs
  have hl := run_loadCells_list (P := cx.P) w' p vs (fun j v hv => hE.cell (by have := h3 j v hv; simpa using this))
  rw [h2] at hl
  simp [execOp, hop, g1, Instr.loadAt, Instr.sureAddr, loadVar, isAgg_run t (und_of_agg hag), hag, sizeOf, typeInfo, hi, hsz, hl, conc_v]

theorem ok_load_p1 {t : TypeId} {x : Operand} (hop : o.op = .load t x) {p : Addr} (g1 : a.eval x = .pointer (some p)) (hag : isAggB cx.P t = false) {σ : Shp} (hl : leafOf cx.P t = some σ) :
    SemOk cx s a o w (.read fun w K => ∃ x : σ.T, w.cell? p = some (σ.enc x) ∧ K (.v (σ.enc x))) := by
  rintro K ⟨x, hx, hk⟩
  refine ⟨_, hk, locOk_v _, fun w' hE => ?_⟩
  simp [execOp, hop, g1, Instr.loadAt, Instr.sureAddr, loadVar, isAgg_run t (und_of_leaf hl), hag, hE.cell hx, conc_v]

theorem ok_store_l (h : Rel cx.P n s a w) {t : TypeId} {x y : Operand} (hop : o.op = .store t x y) {d off : Nat} (e : ev s x = some (.loc d off)) {v : Value} (hv : evv s y = some v) (hs : (sizeB cx.P t v.cells.toList.length && v.cells.toList.all one) = true)
    {b : Nat} {cs : List Value} (hb : find s.bx d = some ⟨b, cs, .rw⟩) (hle : Nat.ble (off + v.cells.toList.length) cs.length = true) : SemOk cx s a o w (.lst d b (putAt cs off v.cells.toList)) := by
  refine ⟨cs, hb, fun w1 hB => ?_⟩
  simp only [Bool.and_eq_true] at hs
  obtain ⟨g1, _⟩ := ev_ok h e
  simp only [conc, hb] at g1
  obtain ⟨w2, r1, r2, r3⟩ := storeBlk (P := cx.P) v.cells.toList off 0 cs w1 (fun v hv => List.all_eq_true.1 hs.2 v hv) (by simpa using Nat.le_of_ble_eq_true hle) hB
  refine ⟨w2, ?_, r2, r3⟩
  simp [execOp, hop, g1, evv_ok h hv, Instr.storeAt, Instr.sureAddr, storeVar_run hs.1, r1]

theorem ok_store_p (h : Rel cx.P n s a w) {t : TypeId} {x y : Operand} (hop : o.op = .store t x y) {p : Addr} (g1 : a.eval x = .pointer (some p)) {v : Value} (hv : evv s y = some v) (hs : (sizeB cx.P t v.cells.toList.length && v.cells.toList.all one) = true) :
    SemOk cx s a o w (.big fun w K => stL w p v.cells.toList 0 (fun w' => K (.v undef) w')) := by
  intro w1 K hk
  simp only [Bool.and_eq_true] at hs
  obtain ⟨w2, r1, r2, r3⟩ := stL_ok (P := cx.P) v.cells.toList 0 w1 _ (fun v hv => List.all_eq_true.1 hs.2 v hv) hk
  refine ⟨.v undef, w2, .inr ⟨?_, rfl⟩, argOk_v _, by omega, r3⟩
  simp [execOp, hop, g1, evv_ok h hv, Instr.storeAt, Instr.sureAddr, storeVar_run hs.1, r1]

theorem ok_nil (h : Rel cx.P n s a w) {x : Operand} (hop : o.op = .nilCheck x) {y : X} (e : ev s x = some y) : (match y with
    | .loc d off => SemOk cx s a o w (.pure fun K => K (.loc d off))
    | .v (.pointer p) => SemOk cx s a o w (.pure fun K => Nn p fun a => K (.v (.pointer (some a))))
    | .clo f i cap => SemOk cx s a o w (.pure fun K => K (.clo f i cap))
    | _ => True) := by
  obtain ⟨g1, g2⟩ := ev_ok h e
  cases y with
  | loc d off =>
    obtain ⟨b, hb⟩ := g2.1 d off rfl
    intro K hk
    refine ⟨_, hk, g2, fun w' => ?_⟩
    simp only [conc, hb] at g1
    simp [execOp, hop, g1, conc, hb]
  | v x =>
    cases x with
    | pointer p =>
      rintro K ⟨q, rfl, hk⟩
      refine ⟨_, hk, locOk_v _, fun w' => ?_⟩
      simp only [conc, cc] at g1
      simp [execOp, hop, g1, conc_v]
    | _ => trivial
  | clo f i cap =>
    intro K hk
    refine ⟨_, hk, g2, fun w' => ?_⟩
    simp only [conc, cc] at g1
    simp [execOp, hop, g1, conc, cc]
  | yl k E => trivial
  | bad => trivial

theorem semBin_shape (op : BinOp) (x y : Value) : (∃ V, semBin op x y = .pure V) ∨ semBin op x y = .bad := by
  unfold semBin
  split <;> first
    | exact .inr rfl
    | exact .inl ⟨_, rfl⟩
    | (split
       · exact .inl ⟨_, rfl⟩
       · exact .inr rfl)
theorem semBinT_shape (P : Program) (op : BinOp) (t : TypeId) (x y : Value) : (∃ V, semBinT P op t x y = .pure V) ∨ semBinT P op t x y = .bad := by
  unfold semBinT
  split <;> first
    | exact .inl ⟨_, rfl⟩
    | exact semBin_shape _ _ _
    | exact .inr rfl
    | (split
       · exact .inl ⟨_, rfl⟩
       · exact .inr rfl)

theorem ok_bin (h : Rel cx.P n s a w) {op : BinOp} {t yt : TypeId} {x y : Operand} (hop : o.op = .binOp op t x y yt) {u v : Value} (e1 : evv s x = some u) (e2 : evv s y = some v) : SemOk cx s a o w (semBinT cx.P op t u v) := by
  rcases semBinT_shape cx.P op t u v with ⟨V, hr⟩ | hr
  · rw [hr]
    intro K hk
    obtain ⟨r, h1, h2⟩ := semBinT_ok hr hk x y
    refine ⟨_, h1, locOk_v _, fun w' => ?_⟩
    have := h2 w'
    simp only [execOp, hop, evv_ok h e1, evv_ok h e2, Sem.run_bind] at this ⊢
    rw [this]
    rfl
  · rw [hr]; trivial

theorem ok_not (h : Rel cx.P n s a w) {t : TypeId} {x : Operand} (hop : o.op = .unOp .not t x) {b : Bool} (e : ev s x = some (.v (.bool b))) : SemOk cx s a o w (.pure fun K => K (.v (.bool (!b)))) := by
  intro K hk
  obtain ⟨g1, _⟩ := ev_ok h e
  simp only [conc, cc] at g1
  exact ⟨_, hk, locOk_v _, fun w' => by simp [execOp, hop, g1, Op.unary, conc_v]⟩
theorem ok_neg (h : Rel cx.P n s a w) {t : TypeId} {x : Operand} (hop : o.op = .unOp .neg t x) {k : IntKind} {i : Int} (e : ev s x = some (.v (.int k i))) : SemOk cx s a o w (.pure fun K => K (.v (.int k (k.wrap (0 - i))))) := by
  intro K hk
  obtain ⟨g1, _⟩ := ev_ok h e
  simp only [conc, cc] at g1
  exact ⟨_, hk, locOk_v _, fun w' => by simp [execOp, hop, g1, Op.unary, Op.intArith, conc_v]⟩

theorem ok_conv (h : Rel cx.P n s a w) {src dst : TypeId} {x : Operand} (hop : o.op = .convert src dst x) {j k k' : IntKind} {i : Int} (e : ev s x = some (.v (.int j i))) (h1 : intB cx.P src = some k') (h2 : intB cx.P dst = some k) :
    SemOk cx s a o w (.pure fun K => K (.v (.int k (k.wrap i)))) := by
  intro K hk
  obtain ⟨g1, _⟩ := ev_ok h e
  simp only [conc, cc] at g1
  exact ⟨_, hk, locOk_v _, fun w' => by simp [execOp, hop, g1, convert, run_underlying (intB_ok h1), run_underlying (intB_ok h2), Conv.intToInt, conc_v]⟩

theorem ok_makeFunc (h : Rel cx.P n s a w) {f : FuncId} {first cap : Array Operand} (hop : o.op = .makeFunc (.func f) first cap) {fs vs : List Value} (ef : evvs s first.toList = some fs) (e : evvs s cap.toList = some vs) : SemOk cx s a o w (.pure fun K => K (.clo f fs vs)) := by
  intro K hk
  have e1 : cap.map a.eval = vs.toArray := by apply Array.ext'; simpa using evvs_ok h e
  have e2 : first.map a.eval = fs.toArray := by apply Array.ext'; simpa using evvs_ok h ef
  exact ⟨_, hk, ⟨(fun d off hx => by cases hx), xok_clo _ _ _⟩, (fun w' => by simp [execOp, hop, Instr.makeFunc, e1, e2, conc, cc])⟩

theorem ok_buildSlice (h : Rel cx.P n s a w) {t : TypeId} {len : Nat} {parts : Array (Nat × Operand)} (hop : o.op = .buildSlice t len parts) {sz bytes : Nat} {z : List Value} (he : elB cx.P t = some (sz, bytes, z)) {vs : List (Nat × Value)} (e : evps s parts.toList = some vs)
    (hl : Nat.ble (len * sz) 16777216 = true) {cells : Array Value} (hc : Instr.fill (fun i => some (i * sz, sz)) (zeros z len).toArray vs = some cells) :
    SemOk cx s a o w (.new fun w K => NewB cells.toList w (fun b w' => K (.v (.slice (some ⟨b, 0, none⟩) len len)) w')) := by
  intro w1 K hk
  obtain ⟨e0, i, z0, he⟩ := elB_ok he
  have e2 : (parts.map fun p => (p.1, a.eval p.2)).toList = vs := by simp [← evps_ok h e]
  have hl := Nat.le_of_ble_eq_true hl
  refine ⟨.v (.slice (some ⟨w1.heap.size, 0, none⟩) len len), w1.alloc (.cells cells e0), ?_, argOk_v _, ⟨rfl, rfl, rfl, by simp, fun k hk => Below.heap_alloc _ _ _ hk⟩, hk _ _ ⟨rfl, rfl, rfl, by simp, fun k hk => Below.heap_alloc _ _ _ hk⟩ (Nat.le_refl _) ⟨e0, ?_⟩⟩
  · have hz : ∀ zz : Array Value, (zz = z0.cells ∨ len * sz = 0) → Instr.fill (fun i => some (i * sz, sz)) ((Array.range (len * sz)).map (zz[· % zz.size]!)) vs = some cells := by
      intro zz hzz
      have hm := made_eq z0 len
      rw [he.cells, he.len] at hm
      rcases hzz with rfl | h0
      · have : (Array.range (len * sz)).map (z0.cells[· % z0.cells.size]!) = (zeros z len).toArray := hm
        rw [this]; exact hc
      · have : zeros z len = [] := by unfold zeros; rw [he.len, h0]; rfl
        rw [this] at hc
        rw [h0]; simpa [Array.range_zero'] using hc
    have hn : ¬ (2 ^ 24 < len * sz) := by omega
    have hn : ¬ (16777216 < len * sz) := by omega
    by_cases h0 : len * sz = 0
    · have := hz #[] (.inr h0)
      rw [h0, Array.range_zero'] at this
      simp only [List.map_toArray, List.map_nil] at this
      have e3 : Array.map (fun x => (x.fst, a.eval x.snd)) parts = vs.toArray := by apply Array.ext'; simpa using e2
      simp [execOp, hop, Instr.buildSlice, run_underlying he.un, sizeOf, typeInfo, he.info, he.size, h0, newRow, cc, e3, this, Array.range_zero']
    · have := hz z0.cells (.inl rfl)
      have e3 : Array.map (fun x => (x.fst, a.eval x.snd)) parts = vs.toArray := by apply Array.ext'; simpa using e2
      simp [execOp, hop, Instr.buildSlice, run_underlying he.un, sizeOf, typeInfo, zeroValue, he.info, he.size, he.zero, h0, hn, newRow, cc, e3, this]
  · show (w1.heap.push _)[w1.heap.size]? = _
    simp

theorem ok_makeSlice (h : Rel cx.P n s a w) {t : TypeId} {l c : Operand} (hop : o.op = .makeSlice t l c) {sz bytes : Nat} {z : List Value} (he : elB cx.P t = some (sz, bytes, z)) {kl kc : IntKind} {x y : Int} (e1 : ev s l = some (.v (.int kl x))) (e2 : ev s c = some (.v (.int kc y))) :
    SemOk cx s a o w (.new fun w K => MkS bytes z x y w (fun s w' => K (.v (.slice s.a s.len s.cap)) w')) := by
  rintro w1 K ⟨h0, hle, hb, h62, hk⟩
  obtain ⟨e0, i, z0, he⟩ := elB_ok he
  obtain ⟨g1, _⟩ := ev_ok h e1
  obtain ⟨g2, _⟩ := ev_ok h e2
  simp only [conc, cc] at g1 g2
  have hr := run_make (P := cx.P) w1 t e0 i z0 he.un he.info he.zero kl kc x y h0 hle (by rw [he.bytes]; omega) (by omega)
  have hE : Ext w1 (w1.alloc (.cells (madeCells z0.cells (y.toNat * i.size)) e0)) := ⟨rfl, rfl, rfl, by simp, fun k hk => Below.heap_alloc _ _ _ hk⟩
  refine ⟨.v (.slice (some ⟨w1.heap.size, 0, none⟩) x.toNat y.toNat), _, ?_, argOk_v _, hE, hk _ _ hE (Nat.le_refl _) ⟨e0, ?_⟩⟩
  · simp [execOp, hop, g1, g2, hr, cc]
  · have hm := made_eq z0 y.toNat
    rw [he.cells, he.len] at hm
    rw [he.size, hm]
    show (w1.heap.push _)[w1.heap.size]? = _
    simp

theorem ok_mks (h : Rel cx.P n s a w) {bytes : Nat} {z : List Value} {x y : Int} (hm : mksOf cx s o = some (bytes, z, x, y)) (h0 : 0 ≤ x) (hle : x ≤ y) (hb : (bytes : Int) * y ≤ 2 ^ 48) (h62 : y < 2 ^ 62) :
    ∃ T, ∀ w1 : World, (execOp a.eval o).run cx.P w1 = .ok (.value (.slice (some ⟨w1.heap.size, 0, none⟩) x.toNat y.toNat)) (w1.alloc (.cells (zeros z y.toNat).toArray T)) := by
  unfold mksOf at hm
  split at hm
  · rename_i t l c hop
    split at hm
    · rename_i sz bytes' z' kl x' kc y' he e1 e2
      simp only [Option.some.injEq, Prod.mk.injEq] at hm
      obtain ⟨rfl, rfl, rfl, rfl⟩ := hm
      obtain ⟨e0, i, z0, he⟩ := elB_ok he
      obtain ⟨g1, _⟩ := ev_ok h e1
      obtain ⟨g2, _⟩ := ev_ok h e2
      simp only [conc, cc] at g1 g2
      refine ⟨e0, fun w1 => ?_⟩
      have hr := run_make (P := cx.P) w1 t e0 i z0 he.un he.info he.zero kl kc _ _ h0 hle (by rw [he.bytes]; omega) (by omega)
      have hm := made_eq z0 y'.toNat
      rw [he.cells, he.len] at hm
      rw [he.size, hm] at hr
      simp [execOp, hop, g1, g2, hr]
    · cases hm
  · cases hm

theorem ok_makeMap {t : TypeId} (hop : o.op = .makeMap t none) : SemOk cx s a o w (.new fun w K => MkM w (fun r w' => K (.v (.map r)) w')) := by
  intro w1 K hk
  have hE : Ext w1 (w1.alloc (.map #[] 0)) := ⟨rfl, rfl, rfl, by simp, fun k hk => Below.heap_alloc _ _ _ hk⟩
  refine ⟨.v (.map (some w1.heap.size)), _, ?_, argOk_v _, hE, hk _ _ hE (Nat.le_refl _) ?_⟩
  · simp [execOp, hop, Instr.makeMap, cc]
  · show (w1.heap.push _)[w1.heap.size]? = _
    simp

theorem optInt_ok (h : Rel cx.P n s a w) {x : Option Operand} {r : Option Int} (e : optInt s x = some r) : match r with | none => x = none | some i => ∃ k, x.map a.eval = some (.int k i) := by
  cases x with
  | none => simp only [optInt, Option.some.injEq] at e; subst e; rfl
  | some y =>
    simp only [optInt] at e
    split at e
    · rename_i k i hy
      injection e with e
      subst e
      obtain ⟨g1, _⟩ := ev_ok h hy
      exact ⟨k, by simp [g1, conc, cc]⟩
    · cases e

theorem sliceBound_ok {P : Program} {w : World} {k : IntKind} {i : Int} {y : Nat} {code : BoundsCode} (h0 : 0 ≤ i) (h1 : i ≤ y) : (Instr.sliceBound (.int k i) y code).run P w = .ok i.toNat w := by
  simp [Instr.sliceBound, asIntOf, h0, h1]

theorem ok_slice (h : Rel cx.P n s a w) {t : TypeId} {x : Operand} {lo hi : Option Operand} (hop : o.op = .slice t x lo hi none) {sz bytes : Nat} {z : List Value} (he : elB cx.P t = some (sz, bytes, z)) {p : Option Addr} {len cap : Nat}
    (e : ev s x = some (.v (.slice p len cap))) {l r : Option Int} (e1 : optInt s lo = some l) (e2 : optInt s hi = some r) : SemOk cx s a o w (.pure fun K => semSlice sz p len cap l r fun s => K (.v (.slice s.a s.len s.cap))) := by
  rintro K ⟨b0, b1, b2, b3, hk⟩
  obtain ⟨e0, i, z0, he⟩ := elB_ok he
  obtain ⟨g1, _⟩ := ev_ok h e
  simp only [conc, cc] at g1
  have o1 := optInt_ok h e1
  have o2 := optInt_ok h e2
  refine ⟨_, hk, locOk_v _, fun w' => ?_⟩
  cases r with
  | none =>
    have o2 : hi = none := o2
    subst o2
    simp only [Option.getD_none, Int.toNat_natCast] at *
    cases l with
    | none =>
      have o1 : lo = none := o1
      subst o1
      simp [execOp, hop, g1, Instr.sliceAt, Instr.slice, Instr.sliceBounds, run_underlying he.un, sizeOf, typeInfo, he.info, conc_v]
      all_goals (split <;> simp_all [eq_comm])
    | some l =>
      obtain ⟨kl, o1⟩ := o1
      simp only [Option.getD_some] at *
      have hl := sliceBound_ok (P := cx.P) (w := w') (k := kl) (y := len) (code := .sliceB) b2 b3
      simp [execOp, hop, g1, o1, Instr.sliceAt, Instr.slice, Instr.sliceBounds, run_underlying he.un, hl, sizeOf, typeInfo, he.info, he.size, conc_v]
      all_goals (split <;> simp_all [eq_comm])
  | some r =>
    obtain ⟨kr, o2⟩ := o2
    simp only [Option.getD_some] at *
    have b1 : r ≤ (cap : Int) := b1 r rfl
    have hr := sliceBound_ok (P := cx.P) (w := w') (k := kr) (y := cap) (code := .sliceAcap) b0 b1
    have hrn : ((r.toNat : Nat) : Int) = r := Int.toNat_of_nonneg b0
    cases l with
    | none =>
      have o1 : lo = none := o1
      subst o1
      simp [execOp, hop, g1, o2, Instr.sliceAt, Instr.slice, Instr.sliceBounds, run_underlying he.un, hr, sizeOf, typeInfo, he.info, conc_v]
      all_goals (split <;> simp_all [eq_comm])
    | some l =>
      obtain ⟨kl, o1⟩ := o1
      simp only [Option.getD_some] at *
      have hl := sliceBound_ok (P := cx.P) (w := w') (k := kl) (y := r.toNat) (code := .sliceB) b2 (by omega)
      simp [execOp, hop, g1, o1, o2, Instr.sliceAt, Instr.slice, Instr.sliceBounds, run_underlying he.un, hr, hl, sizeOf, typeInfo, he.info, he.size, conc_v]
      all_goals (split <;> simp_all [eq_comm])

theorem ok_fieldAddr (h : Rel cx.P n s a w) {t : TypeId} {x : Operand} {f : Nat} (hop : o.op = .fieldAddr t x f) {off : Nat} {ft : TypeId} (hf : fieldB cx.P t f = some (off, ft)) (hsz : (match cx.P.info? ft with | some i => !(Nat.beq i.size 0) | none => false) = true) {y : X} (e : ev s x = some y) :
    (match y with
    | .loc d o' => SemOk cx s a o w (.pure fun K => K (.loc d (o' + off)))
    | .v (.pointer (some p)) => SemOk cx s a o w (.pure fun K => K (.v (.pointer (some (p.add off)))))
    | _ => True) := by
  obtain ⟨fs, fd, hu, hfd, h1, h2⟩ := fieldB_ok hf
  obtain ⟨g1, g2⟩ := ev_ok h e
  have hsz' : ∃ i, cx.P.info? ft = some i ∧ i.size ≠ 0 := by
    split at hsz
    · rename_i i hi
      exact ⟨i, hi, fun h0 => by rw [h0] at hsz; cases hsz⟩
    · cases hsz
  obtain ⟨i, hi, hi0⟩ := hsz'
  have run : ∀ (p : Addr) w', (Instr.fieldAt t (.pointer (some p)) f).run cx.P w' = .ok (.pointer (some (p.add off))) w' := fun p w' => by
    simp [Instr.fieldAt, run_underlying hu, hfd, Instr.sureAddr, fieldPlace, sizeOf, typeInfo, h2, hi, hi0, h1]
  cases y with
  | loc d o' =>
    obtain ⟨b, hb⟩ := g2.1 d o' rfl
    simp only [conc, hb] at g1
    intro K hk
    refine ⟨_, hk, ⟨fun d' off' hx => by injection hx with h1 h2; subst h1; exact ⟨b, hb⟩, xok_loc _ _⟩, fun w' => ?_⟩
    have := run ⟨b.b, o', none⟩ w'
    rw [add_add _ rfl] at this
    simp [execOp, hop, g1, this, conc, hb]
  | v x =>
    cases x with
    | pointer p =>
      cases p with
      | none => trivial
      | some p =>
        simp only [conc, cc] at g1
        intro K hk
        exact ⟨_, hk, locOk_v _, fun w' => by simp [execOp, hop, g1, run p w', conc_v]⟩
    | _ => trivial
  | yl k E => trivial
  | clo f i cap => trivial
  | bad => trivial

theorem ok_field (h : Rel cx.P n s a w) {t : TypeId} {x : Operand} {f : Nat} (hop : o.op = .field t x f) {off : Nat} {ft : TypeId} (hf : fieldB cx.P t f = some (off, ft)) {cs : Array Value} (e : ev s x = some (.v (.agg cs))) (hag : isAggB cx.P ft = true) {i : TypeInfo} (hi : cx.P.info? ft = some i) :
    SemOk cx s a o w (.pure fun K => K (.v (.agg ((cs.toList.drop off).take i.size).toArray))) := by
  obtain ⟨fs, fd, hu, hfd, h1, h2⟩ := fieldB_ok hf
  obtain ⟨g1, _⟩ := ev_ok h e
  simp only [conc, cc] at g1
  intro K hk
  refine ⟨_, hk, locOk_v _, fun w' => ?_⟩
  have : cs.extract off (off + i.size) = ((cs.toList.drop off).take i.size).toArray := by
    apply Array.ext'
    simp
  simp [execOp, hop, g1, Instr.field, run_underlying hu, hfd, asAgg, part, isAgg_run ft (und_of_agg hag), hag, h1, h2, sizeOf, typeInfo, hi, this, conc_v]
theorem ok_field1 (h : Rel cx.P n s a w) {t : TypeId} {x : Operand} {f : Nat} (hop : o.op = .field t x f) {off : Nat} {ft : TypeId} (hf : fieldB cx.P t f = some (off, ft)) {cs : Array Value} (e : ev s x = some (.v (.agg cs))) (hag : isAggB cx.P ft = false) (hun : (cx.P.underlying ft).isSome = true) {v : Value} (hv : cs.toList[off]? = some v) :
    SemOk cx s a o w (.pure fun K => K (.v v)) := by
  obtain ⟨fs, fd, hu, hfd, h1, h2⟩ := fieldB_ok hf
  obtain ⟨g1, _⟩ := ev_ok h e
  simp only [conc, cc] at g1
  intro K hk
  refine ⟨_, hk, locOk_v _, fun w' => ?_⟩
  have : cs[off]? = some v := by simpa using hv
  simp [execOp, hop, g1, Instr.field, run_underlying hu, hfd, asAgg, part, isAgg_run ft hun, hag, h1, h2, this, conc_v]

theorem ok_index (h : Rel cx.P n s a w) {t : TypeId} {x y : Operand} (hop : o.op = .indexAddr t x y) {sz bytes : Nat} {z : List Value} (he : elB cx.P t = some (sz, bytes, z)) {p : Option Addr} {len cap : Nat} (e1 : ev s x = some (.v (.slice p len cap))) {k : IntKind} {i : Int} (e2 : ev s y = some (.v (.int k i))) :
    SemOk cx s a o w (.pure fun K => Idx p len i sz fun p => K (.v (.pointer (some p)))) := by
  rintro K ⟨b, rfl, h0, h1, hk⟩
  obtain ⟨e0, it, z0, he⟩ := elB_ok he
  obtain ⟨g1, _⟩ := ev_ok h e1
  obtain ⟨g2, _⟩ := ev_ok h e2
  simp only [conc, cc] at g1 g2
  refine ⟨_, hk, locOk_v _, fun w' => ?_⟩
  simp [execOp, hop, g1, g2, Instr.indexAt, asIntOf, run_underlying he.un, h0, h1, sizeOf, typeInfo, he.info, he.size, conc_v]

theorem ok_extract (h : Rel cx.P n s a w) {x : Operand} {i : Nat} (hop : o.op = .extract x i) {vs : Array Value} (e : ev s x = some (.v (.tuple vs))) {v : Value} (hv : vs.toList[i]? = some v) : SemOk cx s a o w (.pure fun K => K (.v v)) := by
  obtain ⟨g1, _⟩ := ev_ok h e
  simp only [conc, cc] at g1
  have : vs[i]? = some v := by simpa using hv
  exact fun K hk => ⟨_, hk, locOk_v _, fun w' => by simp [execOp, hop, g1, Instr.extract, this, conc_v]⟩

theorem run_call_builtin {c : Call} (hop : o.op = .call c) {b : Builtin} (hb : c.callee = .builtin b) :
    ∃ ks, ∀ w', (execOp a.eval o).run cx.P w' = (builtin b c.argTypes o.type ks (c.args.map a.eval)).run cx.P w' :=
  ⟨_, fun w' => by simp [execOp, hop, resolve, hb, invoke]; rfl⟩

theorem ok_builtin (h : Rel cx.P n s a w) {c : Call} (hop : o.op = .call c) {b : Builtin} (hb : c.callee = .builtin b) {xs : List X} (e : evs s c.args.toList = some xs) : SemOk cx s a o w (semBuiltin cx.P b c.argTypes.toList xs) := by
  have ea : (c.args.map a.eval) = (xs.map (cc)).toArray := by apply Array.ext'; simpa using (evs_ok h e).1
  obtain ⟨ks, hrun⟩ := run_call_builtin (cx := cx) (a := a) hop hb
  unfold semBuiltin
  split
  · -- len
    rename_i t x hts
    have hts : c.argTypes = #[t] := by apply Array.ext'; simpa using hts
    unfold semLen
    split
    · rename_i p k cp
      split
      · rename_i et hu
        intro K hk
        refine ⟨_, hk, locOk_v _, fun w' => ?_⟩
        rw [hrun, ea, hts]
        simp [builtin, Builtin.len_, run_underlying hu, cc, goInt, conc_v]
      · trivial
    · rename_i str
      split
      · rename_i hu
        intro K hk
        refine ⟨_, hk, locOk_v _, fun w' => ?_⟩
        rw [hrun, ea, hts]
        simp [builtin, Builtin.len_, run_underlying hu, cc, goInt, conc_v]
      · trivial
    · trivial
  · -- append
    rename_i t u p k cp p' k' cp' hts
    split
    · rename_i sz bytes z htu he
      have htu := Nat.eq_of_beq_eq_true htu
      subst htu
      have hts : c.argTypes = #[t, t] := by apply Array.ext'; simpa using hts
      obtain ⟨e0, i, z0, he⟩ := elB_ok he
      intro w1 K hk
      obtain ⟨r, w2, h1, h2, h3⟩ := app_ok (ty := o.type) he _ _ hk
      refine ⟨_, w2, .inl ?_, argOk_v _, h2, h3⟩
      rw [hrun, ea, hts]
      simp [builtin, cc, h1]
    · trivial
  · -- copy
    rename_i t u p k cp p' k' cp' hts
    split
    · rename_i sz bytes z htu he
      have htu := Nat.eq_of_beq_eq_true htu
      subst htu
      have hts : c.argTypes = #[t, t] := by apply Array.ext'; simpa using hts
      obtain ⟨e0, i, z0, he⟩ := elB_ok he
      intro w1 K hk
      obtain ⟨w2, h1, h2, h3⟩ := cpy_ok (ty := o.type) he _ _ hk
      refine ⟨_, w2, .inl ?_, argOk_v _, h2, h3⟩
      rw [hrun, ea, hts]
      simp [builtin, cc, h1]
    · trivial
  · -- min
    rename_i k i l
    split
    · rename_i r hr
      intro K hk
      refine ⟨_, hk, locOk_v _, fun w' => ?_⟩
      rw [hrun, ea]
      simp [builtin, Builtin.min_, cc, foldInt_min _ _ _ hr, conc_v]
    · trivial
  · rename_i k i l
    split
    · rename_i r hr
      intro K hk
      refine ⟨_, hk, locOk_v _, fun w' => ?_⟩
      rw [hrun, ea]
      simp [builtin, Builtin.max_, cc, foldInt_max _ _ _ hr, conc_v]
    · trivial
  · trivial

theorem ok_call (h : Rel cx.P n s a w) {c : Call} (hop : o.op = .call c) {f : Operand} (hb : c.callee = .value f) {xs : List X} (e : evs s c.args.toList = some xs) {g : FuncId} {fs cap : List Value} (ef : ev s f = some (.clo g fs cap)) (hnb : noBodyB cx.P g = true) :
    SemOk cx s a o w (.call g (fs.map .v ++ (xs ++ cap.map .v))) := by
  obtain ⟨e1, e2⟩ := evs_ok h e
  have ea : (c.args.map a.eval) = (xs.map (cc)).toArray := by apply Array.ext'; simpa using e1
  obtain ⟨g1, _⟩ := ev_ok h ef
  simp only [conc, cc] at g1
  refine ⟨fun x hx => ?_, fun w' => ?_⟩
  · rcases List.mem_append.1 hx with hx | hx
    · obtain ⟨v, _, rfl⟩ := List.mem_map.1 hx; exact argOk_v v
    · rcases List.mem_append.1 hx with hx | hx
      · exact e2 x hx
      · obtain ⟨v, _, rfl⟩ := List.mem_map.1 hx; exact argOk_v v
  · have hcc : ∀ l : List Value, l.map (cc ∘ X.v) = l := fun l => by
      rw [show (cc ∘ X.v) = id from rfl]; simp
    simp [execOp, hop, resolve, hb, g1, Deferred.ofValue, invoke, ea, noBody_ok hnb, hcc]

theorem ok_callV (h : Rel cx.P n s a w) {c : Call} (hop : o.op = .call c) {f : Operand} (hb : c.callee = .value f) {xs : List X} (e : evs s c.args.toList = some xs) {v : Value} (ef : ev s f = some (.v v)) {vs : List Value} (ev : vals xs = some vs) (r : List (Bool × List Shp)) :
    SemOk cx s a o w (.callV v vs r) := by
  obtain ⟨e1, e2⟩ := evs_ok h e
  have ea : (c.args.map a.eval) = vs.toArray := by apply Array.ext'; simpa [vals_ok ev] using e1
  obtain ⟨g1, _⟩ := ev_ok h ef
  simp only [conc, cc] at g1
  exact fun w' => by simp [execOp, hop, resolve, hb, g1, ea]

theorem ok_yield (h : Rel cx.P n s a w) {c : Call} (hop : o.op = .call c) {f : Operand} (hb : c.callee = .value f) {xs : List X} (e : evs s c.args.toList = some xs) {v : Value} {E} (ef : Go.Sh.ev s f = some (.yl v E)) {vs : List Value} (hv : vals xs = some vs) :
    SemOk cx s a o w (.yield E v vs) := by
  obtain ⟨e1, e2⟩ := evs_ok h e
  have ea : (c.args.map a.eval) = vs.toArray := by apply Array.ext'; simpa [vals_ok hv] using e1
  obtain ⟨g1, g2⟩ := ev_ok h ef
  simp only [conc, cc] at g1
  exact ⟨g2.2 v E rfl, fun w' => by simp [execOp, hop, resolve, hb, g1, ea]⟩

theorem ok_slice3 (h : Rel cx.P n s a w) {t : TypeId} {x mx : Operand} {lo hi : Option Operand} (hop : o.op = .slice t x lo hi (some mx)) {sz bytes : Nat} {z : List Value} (he : elB cx.P t = some (sz, bytes, z)) {p : Option Addr} {len cap : Nat}
    (e : ev s x = some (.v (.slice p len cap))) {l : Option Int} {r m : Int} {km : IntKind} (e1 : optInt s lo = some l) (e2 : optInt s hi = some (some r)) (e3 : ev s mx = some (.v (.int km m))) :
    SemOk cx s a o w (.pure fun K => (0 ≤ m ∧ m ≤ cap ∧ r ≤ m ∧ semSlice sz p len m.toNat l (some r) fun s => K (.v (.slice s.a s.len s.cap)))) := by
  rintro K ⟨m0, m1, m2, b0, b1, b2, b3, hk⟩
  obtain ⟨e0, i, z0, he⟩ := elB_ok he
  obtain ⟨g1, _⟩ := ev_ok h e
  simp only [conc, cc] at g1
  obtain ⟨g3, _⟩ := ev_ok h e3
  simp only [conc, cc] at g3
  have o1 := optInt_ok h e1
  have o2 := optInt_ok h e2
  refine ⟨_, hk, locOk_v _, fun w' => ?_⟩
  obtain ⟨kr, o2⟩ := o2
  simp only [Option.getD_some] at *
  have hm := sliceBound_ok (P := cx.P) (w := w') (k := km) (y := cap) (code := .slice3Acap) m0 m1
  have hr := sliceBound_ok (P := cx.P) (w := w') (k := kr) (y := m.toNat) (code := .slice3B) b0 (by omega)
  have hrn : ((r.toNat : Nat) : Int) = r := Int.toNat_of_nonneg b0
  cases l with
  | none =>
    have o1 : lo = none := o1
    subst o1
    simp [execOp, hop, g1, g3, o2, Instr.sliceAt, Instr.slice, Instr.sliceBounds, run_underlying he.un, hm, hr, sizeOf, typeInfo, he.info, conc_v]
    all_goals (split <;> simp_all [eq_comm])
  | some l =>
    obtain ⟨kl, o1⟩ := o1
    simp only [Option.getD_some] at *
    have hl := sliceBound_ok (P := cx.P) (w := w') (k := kl) (y := r.toNat) (code := .slice3C) b2 (by omega)
    simp [execOp, hop, g1, g3, o1, o2, Instr.sliceAt, Instr.slice, Instr.sliceBounds, run_underlying he.un, hm, hr, hl, sizeOf, typeInfo, he.info, he.size, conc_v]
    all_goals (split <;> simp_all [eq_comm])
end
end Go.Sh
