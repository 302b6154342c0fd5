/- What 'sem1' says of an operation is what it does. -/
import Derived.Test.YthpbelgmppaafaaDen
import Derived.WideLaws
namespace Go.Sh
open Go.RowKit

structure Rel (F : Nat → Value) (n : Nat) (s : S) (a : Act) (w : World) : Prop where
  sl : ∀ t x, find s.sl t = some x → x ≠ .bad → a.tmps[t]? = some (conc F s.bx x) ∧ (∀ d off, x = .loc d off → ∃ b, find s.bx d = some b)
  size : a.tmps.size = n
  df : a.defers = []
  bx : ∀ d b, find s.bx d = some b → (b.m ≠ .out → Blk w b.b b.cs) ∧ (b.m = .rw → b.b ∉ s.ro) ∧ (b.m = .ro → b.b ∈ s.ro)
  dist : ∀ d d' b b', d ≠ d' → find s.bx d = some b → find s.bx d' = some b' → b.m ≠ .out → b'.m ≠ .out → b.b ≠ b'.b
  ro : ∀ b ∈ s.ro, b < w.heap.size

def LocOk (s : S) (x : X) : Prop := ∀ d off, x = .loc d off → ∃ b, find s.bx d = some b

section
variable {cx : Cx} {n : Nat} {s : S} {a : Act} {w : World}

theorem ev_ok (h : Rel cx.F n s a w) {o : Operand} {x : X} (e : ev s o = some x) : a.eval o = conc cx.F s.bx x ∧ LocOk s x := by
  cases o with
  | tmp t =>
    have e' : find s.sl t = some x ∧ x ≠ .bad := by
      simp only [ev] at e
      split at e
      · cases e
      · rename_i hne; exact ⟨e, fun hx => hne (by rw [e, hx])⟩
    obtain ⟨h1, h2⟩ := h.sl t x e'.1 e'.2
    refine ⟨?_, h2⟩
    simp only [Act.eval]
    rw [Array.getD_eq_getD_getElem?, h1]
    rfl
  | const v => simp only [ev, Option.some.injEq] at e; subst e; exact ⟨rfl, fun d off h => by cases h⟩
  | func f => simp only [ev, Option.some.injEq] at e; subst e; exact ⟨rfl, fun d off h => by cases h⟩
  | global g => simp only [ev, Option.some.injEq] at e; subst e; exact ⟨rfl, fun d off h => by cases h⟩

def NotLoc (x : X) : Prop := ∀ d off, x ≠ .loc d off
theorem conc_of {F : Nat → Value} {bx : List (Nat × Bx)} {x : X} (h : NotLoc x) : conc F bx x = cc F x := by
  cases x with
  | loc d off => exact absurd rfl (h d off)
  | _ => rfl

theorem evc_ok (h : Rel cx.F n s a w) {o : Operand} {x : X} (e : evc s o = some x) : a.eval o = cc cx.F x ∧ NotLoc x := by
  unfold evc at e
  split at e
  · rename_i d off hev
    obtain ⟨h1, h2⟩ := ev_ok h hev
    split at e
    · rename_i b cs hb
      injection e with e
      subst e
      refine ⟨?_, fun d off h => by cases h⟩
      rw [h1]; simp [conc, hb, cc]
    · cases e
  · rename_i hne
    obtain ⟨h1, h2⟩ := ev_ok h e
    have : NotLoc x := fun d off hx => hne d off (by rw [← hx, ← e])
    exact ⟨by rw [h1, conc_of this], this⟩

theorem evs_ok (h : Rel cx.F n s a w) : ∀ {l : List Operand} {xs : List X}, evs s l = some xs → l.map a.eval = xs.map (cc cx.F) ∧ ∀ x ∈ xs, NotLoc x
  | [], xs, e => by simp only [evs, Option.some.injEq] at e; subst e; exact ⟨rfl, fun x h => by cases h⟩
  | o :: l, xs, e => by
    simp only [evs] at e
    split at e
    · rename_i x ys h1 h2
      injection e with e
      subst e
      obtain ⟨g1, g2⟩ := evc_ok h h1
      obtain ⟨g3, g4⟩ := evs_ok h h2
      exact ⟨by simp [g1, g3], fun x hx => by rcases List.mem_cons.1 hx with rfl | hx; exact g2; exact g4 x hx⟩
    · cases e

theorem valOf_ok {F : Nat → Value} {x : X} {v : Value} (h : valOf F x = some v) : cc F x = v := by
  cases x <;> simp [valOf] at h <;> simp [cc, h]

theorem evv_ok (h : Rel cx.F n s a w) {o : Operand} {v : Value} (e : evv cx.F s o = some v) : a.eval o = v := by
  unfold evv at e
  split at e
  · rename_i x hx
    rw [(evc_ok h hx).1, valOf_ok e]
  · cases e

theorem evvs_ok (h : Rel cx.F n s a w) : ∀ {l : List Operand} {vs : List Value}, evvs cx.F s l = some vs → l.map a.eval = vs
  | [], vs, e => by simp only [evvs, Option.some.injEq] at e; subst e; rfl
  | o :: l, vs, e => by
    simp only [evvs] at e
    split at e
    · rename_i x ys h1 h2
      injection e with e
      subst e
      simp [evv_ok h h1, evvs_ok h h2]
    · cases e

theorem evps_ok (h : Rel cx.F n s a w) : ∀ {l : List (Nat × Operand)} {vs : List (Nat × Value)}, evps cx.F s l = some vs → l.map (fun p => (p.1, a.eval p.2)) = vs
  | [], vs, e => by simp only [evps, Option.some.injEq] at e; subst e; rfl
  | (i, o) :: l, vs, e => by
    simp only [evps] at e
    split at e
    · rename_i x ys h1 h2
      injection e with e
      subst e
      simp [evv_ok h h1, evps_ok h h2]
    · cases e

/-! ### Types -/
theorem sizeB_ok {P : Program} {t : TypeId} {k : Nat} (h : sizeB P t k = true) : ∃ i, P.info? t = some i ∧ i.size = k := by
  unfold sizeB at h
  split at h
  · rename_i i hi; exact ⟨i, hi, Nat.eq_of_beq_eq_true h⟩
  · cases h
theorem sliceB_ok {P : Program} {t e : TypeId} (h : sliceB P t = some e) : P.underlying t = some (.slice e) := by
  unfold sliceB at h
  split at h
  · rename_i u hu; injection h with h; subst h; exact hu
  · cases h
structure ElOk (P : Program) (t e : TypeId) (i : TypeInfo) (z : Value) (sz bytes : Nat) (zs : List Value) : Prop where
  un : P.underlying t = some (.slice e)
  info : P.info? e = some i
  zero : i.zero = some z
  size : i.size = sz
  bytes : i.bytes = bytes
  cells : z.cells.toList = zs
  len : zs.length = sz
  pos : 0 < sz
theorem elB_ok {P : Program} {t : TypeId} {sz bytes : Nat} {zs : List Value} (h : elB P t = some (sz, bytes, zs)) : ∃ e i z, ElOk P t e i z sz bytes zs := by
  unfold elB at h
  split at h
  · rename_i e he
    split at h
    · rename_i i hi
      split at h
      · rename_i z hz
        split at h
        · rename_i hb
          simp only [Option.some.injEq, Prod.mk.injEq] at h
          obtain ⟨h1, h2, h3⟩ := h
          simp only [Bool.and_eq_true, Bool.not_eq_true'] at hb
          have hb1 := Nat.eq_of_beq_eq_true hb.1
          have hb2 := Nat.ne_of_beq_eq_false hb.2
          exact ⟨e, i, z, sliceB_ok he, hi, hz, h1, h2, h3, by rw [← h3, ← h1]; exact hb1, by omega⟩
        · cases h
      · cases h
    · cases h
  · cases h
theorem fieldB_ok {P : Program} {t : TypeId} {f off : Nat} {ft : TypeId} (h : fieldB P t f = some (off, ft)) : ∃ fs fd, P.underlying t = some (.struct fs) ∧ fs[f]? = some fd ∧ fd.offset = off ∧ fd.type = ft := by
  unfold fieldB at h
  split at h
  · rename_i fs hfs
    split at h
    · rename_i fd hfd
      simp only [Option.some.injEq, Prod.mk.injEq] at h
      exact ⟨fs, fd, hfs, hfd, h.1, h.2⟩
    · cases h
  · cases h
theorem intB_ok {P : Program} {t : TypeId} {k : IntKind} (h : intB P t = some k) : P.underlying t = some (.int k) := by
  unfold intB at h
  split at h
  · rename_i u hu; injection h with h; subst h; exact hu
  · cases h
theorem isAgg_run {P : Program} (t : TypeId) (h : (P.underlying t).isSome = true) (w : World) : (isAgg t).run P w = .ok (isAggB P t) w := by
  obtain ⟨d, hd⟩ := Option.isSome_iff_exists.1 h
  unfold isAgg isAggB
  simp only [Sem.run_bind, run_underlying hd, Result.andThen_ok]
  rw [hd]
  cases d <;> rfl

/-! ### Pure operations -/
def PureRun (cx : Cx) (s : S) (a : Act) (o : Oper) (x : X) : Prop := LocOk s x ∧ ∀ w, (execOp a.eval o).run cx.P w = .ok (.value (conc cx.F s.bx x)) w

theorem locOk_v (v : Value) : LocOk s (.v v) := fun d off h => by cases h

theorem semBin_ok {op : BinOp} {x y : Value} {V : (X → Prop) → Prop} (h : semBin op x y = .pure V) {K : X → Prop} (hv : V K) (t : TypeId) (ox oy : Operand) :
    ∃ v, K (.v v) ∧ ∀ P w, (do eqGuard op t ox oy x y; binOp op t x y).run P w = .ok v w := by
  unfold semBin at h
  split at h
  all_goals first
    | (cases h; done)
    | (split at h
       · rename_i hk
         have hk := kEq_spec hk
         subst hk
         injection h with h
         subst h
         first
           | exact ⟨_, hv, fun P w => by simp [eqGuard, binOp, Op.intArith, Op.intCmp]⟩
           | (split at hv
              · exact hv.elim
              · rename_i hb
                exact ⟨_, hv, fun P w => by simp [eqGuard, binOp, Op.intDiv, hb]⟩)
       · cases h)

theorem eq_bool {P : Program} {t : TypeId} (hu : P.underlying t = some .bool) (d : Nat) (a b : Bool) (w : World) : (Op.equalIn (d + 1) t (.bool a) (.bool b)).run P w = .ok (a == b) w := by
  simp [Op.equalIn, run_underlying hu]
theorem eq_ptr {P : Program} {t e : TypeId} (hu : P.underlying t = some (.pointer e)) (d : Nat) (p : Option Addr) (w : World) : (Op.equalIn (d + 1) t (.pointer p) (.pointer none)).run P w = .ok p.isNone w := by
  cases p <;> simp [Op.equalIn, run_underlying hu]

theorem semBinT_ok {P : Program} {op : BinOp} {t : TypeId} {x y : Value} {V : (X → Prop) → Prop} (h : semBinT P op t x y = .pure V) {K : X → Prop} (hv : V K) (ox oy : Operand) :
    ∃ v, K (.v v) ∧ ∀ w, (do eqGuard op t ox oy x y; binOp op t x y).run P w = .ok v w := by
  unfold semBinT at h
  split at h
  · rename_i a b hu
    injection h with h; subst h
    exact ⟨_, hv, fun w => by
      have := eq_bool hu 9999 a b w
      simp [eqGuard, binOp, Op.equal, Op.maxDepth, this]⟩
  · rename_i a b hu
    injection h with h; subst h
    exact ⟨_, hv, fun w => by
      have := eq_bool hu 9999 a b w
      simp [eqGuard, binOp, Op.equal, Op.maxDepth, this]⟩
  · rename_i e p hu
    injection h with h; subst h
    exact ⟨_, hv, fun w => by
      have := eq_ptr hu 9999 p w
      simp [eqGuard, binOp, Op.equal, Op.maxDepth, this]⟩
  · rename_i e p hu
    injection h with h; subst h
    exact ⟨_, hv, fun w => by
      have := eq_ptr hu 9999 p w
      simp [eqGuard, binOp, Op.equal, Op.maxDepth, this]⟩
  · obtain ⟨v, h1, h2⟩ := semBin_ok h hv t ox oy
    exact ⟨v, h1, fun w => h2 P w⟩
  · cases h
end
end Go.Sh
