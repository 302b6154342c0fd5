/- What 'sem1' says of an operation is what it does. -/
import Derived.Test.YtoomennincfkgaaDen
import Derived.WideLaws
import Derived.RangeFuncIn
import Derived.RangeFuncLeaves
namespace Go.Sh
open Go.RowKit

/-- How a callee ends. -/
def Ans (K : Value → World → Prop) : Ending → World → Prop
  | .returned v, w => K v w
  | _, _ => False
theorem Ans.mono {K K' : Value → World → Prop} (h : ∀ v w, K v w → K' v w) : ∀ e w, Ans K e w → Ans K' e w := fun e w he => by
  cases e with
  | returned v => exact h _ _ he
  | _ => exact he.elim

/-- A yield: what is known of its round. -/
def YOk (P : Program) (v : Value) (E : List Value → (Bool → World → Prop) → World → Prop) : Prop :=
  ∃ l, v = .func (.yield l) #[] #[] ∧ ∀ vs K w, E vs K w → ∃ fn tmps assign body, (Instr.yield l vs.toArray).run P w = .ok (.round l fn tmps assign body) w ∧ RoundIn Fence.wide 0 P l fn tmps assign body w (Ans fun v w' => ∃ b, v = .bool b ∧ K b w')
def XOk (P : Program) (x : X) : Prop := ∀ v E, x = .yl v E → YOk P v E
def LocOk (P : Program) (s : S) (x : X) : Prop := (∀ d off, x = .loc d off → ∃ b, find s.bx d = some b) ∧ XOk P x

def markOf (D : Nat) : Deferred := { target := .collected D, args := #[] }

structure Rel (P : Program) (n : Nat) (s : S) (a : Act) (w : World) : Prop where
  sl : ∀ t x, find s.sl t = some x → x ≠ .bad → a.tmps[t]? = some (conc s.bx x) ∧ LocOk P s x
  size : a.tmps.size = n
  df : a.defers = s.df.map markOf
  dfw : ∀ D ∈ s.df, D ∈ s.ro ∧ w.heap[D]? = some (.deferred (some []))
  dfn : s.df.Nodup
  bx : ∀ d b, find s.bx d = some b → (b.m ≠ .out → Blk w b.b b.cs) ∧ (b.m = .rw → b.b ∉ s.ro) ∧ (b.m = .ro → b.b ∈ s.ro)
  dist : ∀ d d' b b', d ≠ d' → find s.bx d = some b → find s.bx d' = some b' → b.m ≠ .out → b'.m ≠ .out → b.b ≠ b'.b
  ro : ∀ b ∈ s.ro, b < w.heap.size

theorem xok_of {P : Program} {x : X} (h : ∀ v E, x ≠ .yl v E) : XOk P x := fun v E e => absurd e (h v E)
theorem xok_v {P : Program} (v : Value) : XOk P (.v v) := fun _ _ e => by cases e
theorem xok_loc {P : Program} (d o : Nat) : XOk P (.loc d o) := fun _ _ e => by cases e
theorem xok_clo {P : Program} (f : FuncId) (i c : List Value) : XOk P (.clo f i c) := fun _ _ e => by cases e

section
variable {cx : Cx} {n : Nat} {s : S} {a : Act} {w : World}

theorem ev_ok (h : Rel cx.P n s a w) {o : Operand} {x : X} (e : ev s o = some x) : a.eval o = conc s.bx x ∧ LocOk cx.P s x := by
  cases o with
  | tmp t =>
    have e' : find s.sl t = some x ∧ x ≠ .bad := by
      simp only [ev] at e
      split at e
      · cases e
      · rename_i hne; exact ⟨e, fun hx => hne (by rw [e, hx])⟩
    obtain ⟨h1, h2⟩ := h.sl t x e'.1 e'.2
    refine ⟨?_, h2⟩
    simp only [Act.eval]
    rw [Array.getD_eq_getD_getElem?, h1]
    rfl
  | const v => simp only [ev, Option.some.injEq] at e; subst e; exact ⟨rfl, fun d off h => (by cases h), xok_v _⟩
  | func f => simp only [ev, Option.some.injEq] at e; subst e; exact ⟨rfl, fun d off h => (by cases h), xok_clo _ _ _⟩
  | global g => simp only [ev, Option.some.injEq] at e; subst e; exact ⟨rfl, fun d off h => (by cases h), xok_v _⟩

def NotLoc (x : X) : Prop := ∀ d off, x ≠ .loc d off
def ArgOk (P : Program) (x : X) : Prop := NotLoc x ∧ XOk P x
theorem conc_of {bx : List (Nat × Bx)} {x : X} (h : NotLoc x) : conc bx x = cc x := by
  cases x with
  | loc d off => exact absurd rfl (h d off)
  | _ => rfl

theorem evc_ok (h : Rel cx.P n s a w) {o : Operand} {x : X} (e : evc s o = some x) : a.eval o = cc x ∧ ArgOk cx.P x := by
  unfold evc at e
  split at e
  · rename_i d off hev
    obtain ⟨h1, h2⟩ := ev_ok h hev
    split at e
    · rename_i b cs hb
      injection e with e
      subst e
      refine ⟨?_, fun d off h => (by cases h), xok_v _⟩
      rw [h1]; simp [conc, hb, cc]
    · cases e
  · rename_i hne
    obtain ⟨h1, h2⟩ := ev_ok h e
    have : NotLoc x := fun d off hx => hne d off (by rw [← hx, ← e])
    exact ⟨by rw [h1, conc_of this], this, h2.2⟩

theorem evs_ok (h : Rel cx.P n s a w) : ∀ {l : List Operand} {xs : List X}, evs s l = some xs → l.map a.eval = xs.map cc ∧ ∀ x ∈ xs, ArgOk cx.P x
  | [], xs, e => by simp only [evs, Option.some.injEq] at e; subst e; exact ⟨rfl, fun x h => by cases h⟩
  | o :: l, xs, e => by
    simp only [evs] at e
    split at e
    · rename_i f i cap ys h1 h2
      injection e with e
      subst e
      obtain ⟨g1, g2⟩ := evc_ok h h1
      obtain ⟨g3, g4⟩ := evs_ok h h2
      exact ⟨by simp [g1, g3, cc], fun x hx => by rcases List.mem_cons.1 hx with rfl | hx; exact ⟨fun d off h => (by cases h), xok_v _⟩; exact g4 x hx⟩
    · rename_i x ys h1 h2
      injection e with e
      subst e
      obtain ⟨g1, g2⟩ := evc_ok h h1
      obtain ⟨g3, g4⟩ := evs_ok h h2
      exact ⟨by simp [g1, g3], fun x hx => by rcases List.mem_cons.1 hx with rfl | hx; exact g2; exact g4 x hx⟩
    · cases e

theorem valOf_ok {x : X} {v : Value} (h : valOf x = some v) : cc x = v := by
  cases x <;> simp [valOf] at h <;> simp [cc, h]
theorem vals_ok : ∀ {xs : List X} {vs : List Value}, vals xs = some vs → xs.map cc = vs
  | [], vs, h => by simp only [vals, Option.some.injEq] at h; subst h; rfl
  | x :: l, vs, h => by
    simp only [vals] at h
    split at h
    · rename_i v us h1 h2
      injection h with h
      subst h
      simp [valOf_ok h1, vals_ok h2]
    · cases h

theorem evv_ok (h : Rel cx.P n s a w) {o : Operand} {v : Value} (e : evv s o = some v) : a.eval o = v := by
  unfold evv at e
  split at e
  · rename_i x hx
    rw [(evc_ok h hx).1, valOf_ok e]
  · cases e

theorem evvs_ok (h : Rel cx.P n s a w) : ∀ {l : List Operand} {vs : List Value}, evvs s l = some vs → l.map a.eval = vs
  | [], vs, e => by simp only [evvs, Option.some.injEq] at e; subst e; rfl
  | o :: l, vs, e => by
    simp only [evvs] at e
    split at e
    · rename_i x ys h1 h2
      injection e with e
      subst e
      simp [evv_ok h h1, evvs_ok h h2]
    · cases e

theorem evps_ok (h : Rel cx.P n s a w) : ∀ {l : List (Nat × Operand)} {vs : List (Nat × Value)}, evps s l = some vs → l.map (fun p => (p.1, a.eval p.2)) = vs
  | [], vs, e => by simp only [evps, Option.some.injEq] at e; subst e; rfl
  | (i, o) :: l, vs, e => by
    simp only [evps] at e
    split at e
    · rename_i x ys h1 h2
      injection e with e
      subst e
      simp [evv_ok h h1, evps_ok h h2]
    · cases e

/-! ### Types -/
theorem sizeB_ok {P : Program} {t : TypeId} {k : Nat} (h : sizeB P t k = true) : ∃ i, P.info? t = some i ∧ i.size = k := by
  unfold sizeB at h
  split at h
  · rename_i i hi; exact ⟨i, hi, Nat.eq_of_beq_eq_true h⟩
  · cases h
theorem sliceB_ok {P : Program} {t e : TypeId} (h : sliceB P t = some e) : P.underlying t = some (.slice e) := by
  unfold sliceB at h
  split at h
  · rename_i u hu; injection h with h; subst h; exact hu
  · cases h
structure ElOk (P : Program) (t e : TypeId) (i : TypeInfo) (z : Value) (sz bytes : Nat) (zs : List Value) : Prop where
  un : P.underlying t = some (.slice e)
  info : P.info? e = some i
  zero : i.zero = some z
  size : i.size = sz
  bytes : i.bytes = bytes
  cells : z.cells.toList = zs
  len : zs.length = sz
  pos : 0 < sz
theorem elB_ok {P : Program} {t : TypeId} {sz bytes : Nat} {zs : List Value} (h : elB P t = some (sz, bytes, zs)) : ∃ e i z, ElOk P t e i z sz bytes zs := by
  unfold elB at h
  split at h
  · rename_i e he
    split at h
    · rename_i i hi
      split at h
      · rename_i z hz
        split at h
        · rename_i hb
          simp only [Option.some.injEq, Prod.mk.injEq] at h
          obtain ⟨h1, h2, h3⟩ := h
          simp only [Bool.and_eq_true, Bool.not_eq_true'] at hb
          have hb1 := Nat.eq_of_beq_eq_true hb.1
          have hb2 := Nat.ne_of_beq_eq_false hb.2
          exact ⟨e, i, z, sliceB_ok he, hi, hz, h1, h2, h3, by rw [← h3, ← h1]; exact hb1, by omega⟩
        · cases h
      · cases h
    · cases h
  · cases h
theorem fieldB_ok {P : Program} {t : TypeId} {f off : Nat} {ft : TypeId} (h : fieldB P t f = some (off, ft)) : ∃ fs fd, P.underlying t = some (.struct fs) ∧ fs[f]? = some fd ∧ fd.offset = off ∧ fd.type = ft := by
  unfold fieldB at h
  split at h
  · rename_i fs hfs
    split at h
    · rename_i fd hfd
      simp only [Option.some.injEq, Prod.mk.injEq] at h
      exact ⟨fs, fd, hfs, hfd, h.1, h.2⟩
    · cases h
  · cases h
theorem intB_ok {P : Program} {t : TypeId} {k : IntKind} (h : intB P t = some k) : P.underlying t = some (.int k) := by
  unfold intB at h
  split at h
  · rename_i u hu; injection h with h; subst h; exact hu
  · cases h
theorem isAgg_run {P : Program} (t : TypeId) (h : (P.underlying t).isSome = true) (w : World) : (isAgg t).run P w = .ok (isAggB P t) w := by
  obtain ⟨d, hd⟩ := Option.isSome_iff_exists.1 h
  unfold isAgg isAggB
  simp only [Sem.run_bind, run_underlying hd, Result.andThen_ok]
  rw [hd]
  cases d <;> rfl

/-! ### Pure operations -/
def PureRun (cx : Cx) (s : S) (a : Act) (o : Oper) (x : X) : Prop := LocOk cx.P s x ∧ ∀ w, (execOp a.eval o).run cx.P w = .ok (.value (conc s.bx x)) w

theorem locOk_v {P : Program} (v : Value) : LocOk P s (.v v) := ⟨fun d off h => (by cases h), xok_v v⟩

theorem semBin_ok {op : BinOp} {x y : Value} {V : (X → Prop) → Prop} (h : semBin op x y = .pure V) {K : X → Prop} (hv : V K) (t : TypeId) (ox oy : Operand) :
    ∃ v, K (.v v) ∧ ∀ P w, (do eqGuard op t ox oy x y; binOp op t x y).run P w = .ok v w := by
  unfold semBin at h
  split at h
  all_goals first
    | (cases h; done)
    | (injection h with h
       subst h
       obtain ⟨hb, hv⟩ := hv
       exact ⟨_, hv, fun P w => by
         have hn : ¬ (_ : Int) < 0 := Int.not_lt.2 hb
         simp [eqGuard, binOp, Op.shift, hn, bshr]⟩)
    | (split at h
       · rename_i hk
         have hk := kEq_spec hk
         subst hk
         injection h with h
         subst h
         first
           | exact ⟨_, hv, fun P w => by simp [eqGuard, binOp, Op.intArith, Op.intCmp, Op.intBits, bxor]⟩
           | (split at hv
              · exact hv.elim
              · rename_i hb
                exact ⟨_, hv, fun P w => by simp [eqGuard, binOp, Op.intDiv, hb]⟩)
       · cases h)

theorem eq_bool {P : Program} {t : TypeId} (hu : P.underlying t = some .bool) (d : Nat) (a b : Bool) (w : World) : (Op.equalIn (d + 1) t (.bool a) (.bool b)).run P w = .ok (a == b) w := by
  simp [Op.equalIn, run_underlying hu]
theorem eq_ptr {P : Program} {t e : TypeId} (hu : P.underlying t = some (.pointer e)) (d : Nat) (p : Option Addr) (w : World) : (Op.equalIn (d + 1) t (.pointer p) (.pointer none)).run P w = .ok p.isNone w := by
  cases p <;> simp [Op.equalIn, run_underlying hu]

theorem part_ok {P : Program} {t : TypeId} {cs : Array Value} {off : Nat} {v : Value} (h : partB P t cs off = some v) (w : World) : (part t cs off).run P w = .ok v w := by
  unfold partB at h
  split at h
  · rename_i hag
    split at h
    · rename_i i hi
      injection h with h
      subst h
      have hu : (P.underlying t).isSome = true := by
        unfold isAggB at hag
        split at hag <;> simp_all
      simp only [part, Sem.run_bind, isAgg_run t hu w, Result.andThen_ok, hag, if_true]
      simp only [sizeOf, typeInfo, Sem.run_bind]
      simp [hi]
      apply Array.ext'
      simp
    · cases h
  · rename_i hag
    split at h
    · rename_i hu
      have h' : cs[off]? = some v := by rw [← Array.getElem?_toList]; exact h
      simp only [part, Sem.run_bind, isAgg_run t hu w, Result.andThen_ok, hag]
      simp [h']
    · cases h

theorem eqFs_ok {P : Program} {d e : Nat} {xs ys : Array Value} (ih : ∀ {t : TypeId} {x y : Value} {b : Bool}, eqV P d t x y = some b → ∀ w, (Op.equalIn e t x y).run P w = .ok b w) :
    ∀ (fs : List Field) (b : Bool), fs.foldr (fun f acc => match f.name == "_", partB P f.type xs f.offset, partB P f.type ys f.offset with
          | false, some u, some v => (match eqV P d f.type u v, acc with | some b, some r => some (b && r) | _, _ => none)
          | _, _, _ => none) (some true) = some b → ∀ w, (do
      let r ← forIn fs ((none, ()) : Option Bool × Unit) fun f _ =>
          if f.name ≠ "_" then do
            let x ← part f.type xs f.offset
            let y ← part f.type ys f.offset
            let q ← Op.equalIn e f.type x y
            if (!q) = true then pure (ForInStep.done (some false, ())) else pure (ForInStep.yield (none, ()))
          else pure (ForInStep.yield (none, ()))
      match r.fst with
      | some r => pure r
      | none => pure true : Sem Bool).run P w = .ok b w
  | [], b, h, w => by
    simp only [List.foldr_nil, Option.some.injEq] at h
    subst h
    simp
  | f :: fs, b, h, w => by
    simp only [List.foldr_cons] at h
    split at h
    · rename_i u v hn hu hv
      split at h
      · rename_i b1 r hb hr
        injection h with h
        subst h
        have hn' : f.name ≠ "_" := by simpa using hn
        have ih2 := eqFs_ok ih fs r hr w
        simp only [List.forIn_cons, Sem.run_bind, hn', ne_eq, not_false_eq_true, if_true, part_ok hu, part_ok hv, Result.andThen_ok, ih hb] at ih2 ⊢
        cases b1 with
        | false => simp
        | true => simpa using ih2
      · cases h
    · cases h

theorem eqV_ok {P : Program} (e : Nat) : ∀ {d : Nat} {t : TypeId} {x y : Value} {b : Bool}, eqV P d t x y = some b → ∀ w, (Op.equalIn (d + e) t x y).run P w = .ok b w
  | 0, t, x, y, b, h, w => by simp [eqV] at h
  | d + 1, t, x, y, b, h, w => by
    rw [show d + 1 + e = (d + e) + 1 by omega]
    simp only [eqV] at h
    split at h
    · rename_i hu
      split at h
      · injection h with h; subst h; simp [Op.equalIn, run_underlying hu]
      · cases h
    · rename_i k hu
      split at h
      · split at h
        · rename_i hk
          have hk := kEq_spec hk
          subst hk
          injection h with h; subst h; simp [Op.equalIn, run_underlying hu]
        · cases h
      · cases h
    · rename_i fs hu
      split at h
      · split at h
        · cases h
        · rename_i hs
          have := eqFs_ok (eqV_ok e (d := d)) fs.toList b h w
          simp only [Op.equalIn, Sem.run_bind, run_underlying hu, Result.andThen_ok, run_program, hs, Bool.false_eq_true, if_false]
          rw [← Array.forIn_toList]
          rw [Sem.run_bind] at this
          refine Eq.trans ?_ this
          congr 1
          funext a w'
          cases a.1 <;> rfl
      · cases h
    · cases h

theorem eqV_guard {P : Program} {t : TypeId} {xs ys : Array Value} (hg : P.eqGuardType P.depth t = false) (op : BinOp) (ox oy : Operand) (w : World) : (eqGuard op t ox oy (.agg xs) (.agg ys)).run P w = .ok () w := by
  cases op <;> simp [eqGuard, run_program, hg]

theorem eqV_agg {P : Program} {d : Nat} {t : TypeId} {x y : Value} {b : Bool} {fs : Array Field} (hu : P.underlying t = some (.struct fs)) (h : eqV P d t x y = some b) : ∃ xs ys, x = .agg xs ∧ y = .agg ys := by
  cases d with
  | zero => simp [eqV] at h
  | succ d =>
    simp only [eqV, hu] at h
    split at h
    · exact ⟨_, _, rfl, rfl⟩
    · cases h

theorem semBinT_ok {P : Program} {op : BinOp} {t : TypeId} {x y : Value} {V : (X → Prop) → Prop} (h : semBinT P op t x y = .pure V) {K : X → Prop} (hv : V K) (ox oy : Operand) :
    ∃ v, K (.v v) ∧ ∀ w, (do eqGuard op t ox oy x y; binOp op t x y).run P w = .ok v w := by
  unfold semBinT at h
  split at h
  · rename_i a b hu
    injection h with h; subst h
    exact ⟨_, hv, fun w => by
      have := eq_bool hu 9999 a b w
      simp [eqGuard, binOp, Op.equal, Op.maxDepth, this]⟩
  · rename_i a b hu
    injection h with h; subst h
    exact ⟨_, hv, fun w => by
      have := eq_bool hu 9999 a b w
      simp [eqGuard, binOp, Op.equal, Op.maxDepth, this]⟩
  · rename_i e p hu
    injection h with h; subst h
    exact ⟨_, hv, fun w => by
      have := eq_ptr hu 9999 p w
      simp [eqGuard, binOp, Op.equal, Op.maxDepth, this]⟩
  · rename_i e p hu
    injection h with h; subst h
    exact ⟨_, hv, fun w => by
      have := eq_ptr hu 9999 p w
      simp [eqGuard, binOp, Op.equal, Op.maxDepth, this]⟩
  · obtain ⟨v, h1, h2⟩ := semBin_ok h hv t ox oy
    exact ⟨v, h1, fun w => h2 P w⟩
  · split at h
    · rename_i b hb hg
      injection h with h; subst h
      exact ⟨_, hv, fun w => by
        obtain ⟨xs, ys, rfl, rfl⟩ := eqV_agg (by assumption) hb
        have h1 := eqV_ok 9990 hb w
        simp only [Sem.run_bind, eqV_guard hg, Result.andThen_ok, binOp, Op.equal, Op.maxDepth]
        rw [show (10000 : Nat) = 10 + 9990 from rfl, h1]
        rfl⟩
    · cases h
  · split at h
    · rename_i b hb hg
      injection h with h; subst h
      exact ⟨_, hv, fun w => by
        obtain ⟨xs, ys, rfl, rfl⟩ := eqV_agg (by assumption) hb
        have h1 := eqV_ok 9990 hb w
        simp only [Sem.run_bind, eqV_guard hg, Result.andThen_ok, binOp, Op.equal, Op.maxDepth]
        rw [show (10000 : Nat) = 10 + 9990 from rfl, h1]
        rfl⟩
    · cases h
  · cases h
end
end Go.Sh
