/- 'den' is sound: a function's call. -/
import Derived.Test.YtoomennincfkgaaSnd7
namespace Go.Sh
open Go.RowKit

section
variable {cx : Cx} {n : Nat} {s : S} {a : Act} {w : World}

theorem find_args : ∀ (xs : List X) (i t : Nat) (x : X), find (argSlX i xs) t = some x → ∃ k, t = i + k ∧ xs[k]? = some x
  | [], i, t, x, h => by cases h
  | y :: l, i, t, x, h => by
    simp only [argSlX] at h
    rw [find_cons] at h
    split at h
    · rename_i e
      have h := Option.some.inj h
      subst h
      exact ⟨0, by omega, rfl⟩
    · obtain ⟨k, h1, h2⟩ := find_args l (i + 1) t x h
      exact ⟨k + 1, by omega, by simpa using h2⟩

theorem rel_start {P : Program} {xs : List X} (hx : ∀ x ∈ xs, ArgOk P x) (hn : xs.length ≤ n) (w : World) :
    Rel P n ⟨argSlX 0 xs, [], [], []⟩ { tmps := (xs.map cc).toArray ++ Array.replicate (n - (xs.map cc).toArray.size) undef, defers := [] } w := by
  refine ⟨fun t x ht _ => ?_, by simp; omega, rfl, fun D hD => (by cases hD), List.nodup_nil, fun d b hb => (by cases hb), fun d d' b b' _ hb => (by cases hb), fun b hb => (by cases hb)⟩
  obtain ⟨k, h1, h2⟩ := find_args xs 0 t x ht
  have hk : t = k := by omega
  subst hk
  have hm := List.mem_of_getElem? h2
  have hlt : t < xs.length := (List.getElem?_eq_some_iff.1 h2).1
  refine ⟨?_, fun d off e => absurd e ((hx x hm).1 d off), (hx x hm).2⟩
  rw [conc_of (hx x hm).1]
  rw [Array.getElem?_append_left (by simpa using hlt)]
  simp [h2]

def resF (tmps : Array Value) : ResultVar → Sem Value
  | .tmp t => pure (tmps.getD t undef)
  | .cell x t => do loadVar t (← asAddr (tmps.getD x undef))

theorem rets_ok (h : Rel cx.P n s a w) : ∀ (l : List ResultVar) (K : List Value → Prop), rets cx s w l K → ∃ vs, K vs ∧ (l.mapM (resF a.tmps)).run cx.P w = .ok vs w
  | [], K, hk => ⟨[], hk, by simp⟩
  | .tmp t :: l, K, hk => by
    simp only [rets] at hk
    split at hk
    · rename_i v hv
      obtain ⟨vs, h1, h2⟩ := rets_ok h l _ hk
      have := evv_ok h hv
      simp only [Act.eval] at this
      refine ⟨_, h1, ?_⟩
      simp only [List.mapM_cons, Sem.run_bind, h2, resF, Sem.run_pure, Result.andThen_ok, this]
    · exact hk.elim
  | .cell x t :: l, K, hk => by
    simp only [rets] at hk
    have hs := sem1_ok (o := { dst := none, op := .load t (.tmp x), type := t, pos := "", after := #[], guard := none }) h
    split at hk
    · rename_i R hR
      rw [hR] at hs
      obtain ⟨y, h1, h2, h3⟩ := hs _ hk
      have h3 := h3 w (Ext.refl w)
      split at h1
      · rename_i v hv
        obtain ⟨vs, g1, g2⟩ := rets_ok h l _ h1
        refine ⟨_, g1, ?_⟩
        have hc : conc s.bx y = v := by
          rw [conc_of, valOf_ok hv]
          intro d off e
          rw [e] at hv
          cases hv
        rw [hc] at h3
        simp only [execOp, Act.eval] at h3
        have key : (resF a.tmps (.cell x t)).run cx.P w = .ok v w := by
          show (do loadVar t (← asAddr (a.tmps.getD x undef)) : Sem Value).run cx.P w = _
          generalize a.tmps.getD x undef = u at h3 ⊢
          have h4 : (do loadVar t (← Instr.sureAddr u) : Sem Value).run cx.P w = .ok v w := by
            simp only [Instr.loadAt, Sem.run_bind] at h3 ⊢
            generalize (Instr.sureAddr u).run cx.P w = q at *
            cases q with
            | ok p w1 =>
              simp only [Result.andThen_ok] at h3 ⊢
              generalize (loadVar t p).run cx.P w1 = q at *
              cases q with
              | ok p w1 =>
                simp only [Result.andThen_ok, Sem.run_pure, Result.ok.injEq, Next.value.injEq] at h3
                rw [h3.1, h3.2]
              | halt _ _ => simp at h3
            | halt _ _ => simp at h3
          cases u <;> first
            | (simp [Instr.sureAddr] at h4; done)
            | (rename_i p; cases p with
               | none => simp [Instr.sureAddr] at h4
               | some p => simpa [Instr.sureAddr, asAddr] using h4)
        simp only [List.mapM_cons, Sem.run_bind, key, g2, Sem.run_pure, Result.andThen_ok]
      · exact h1.elim
    · exact hk.elim

theorem results_of {fn : Func} {vs : List Value} (h : (fn.results.toList.mapM (resF a.tmps)).run cx.P w = .ok vs w) : (results fn a.tmps).run cx.P w = .ok (tup vs) w := by
  have e : results fn a.tmps = (do let vs ← fn.results.mapM (resF a.tmps); pure (if h : vs.size = 1 then vs[0] else .tuple vs)) := rfl
  rw [e, Array.mapM_eq_mapM_toList]
  simp only [Sem.run_bind, Sem.run_map, h, Result.andThen_ok, Sem.run_pure]
  congr 1
  match vs with
  | [] => rfl
  | [v] => rfl
  | v :: u :: l => simp [tup]

/-- The marks are taken off; then the results are read. -/
theorem leave_ok {cx : Cx} {n : Nat} {fn : Func} {R : Ending → World → Prop} : ∀ (ds : List Nat) (s : S) (a : Act) (w : World), s.df = ds → Rel cx.P n s a w → offs ds w (fun w' => rets cx ⟨s.sl, s.bx, s.ro, []⟩ w' fn.results.toList fun vs => R (.returned (tup vs)) w') →
    LeavesInM (WF none) 0 cx.P fn a.tmps R (ds.map markOf) .returning w
  | [], s, a, w, hd, h, hk => by
    have h' : Rel cx.P n ⟨s.sl, s.bx, s.ro, []⟩ { a with defers := [] } w := ⟨h.sl, h.size, rfl, fun D hD => (by cases hD), List.nodup_nil, h.bx, h.dist, h.ro⟩
    obtain ⟨vs, g1, g2⟩ := rets_ok h' _ _ hk
    exact ⟨_, results_of (a := a) g2, g1⟩
  | D :: ds, s, a, w, hd, h, hk => by
    obtain ⟨hD1, hD2⟩ := h.dfw D (by rw [hd]; exact List.mem_cons_self)
    have hnd := h.dfn
    rw [hd] at hnd
    refine ⟨(by intro e; cases e), .inl ⟨D, _, rfl, run_takeDeferred hD2, ?_⟩⟩
    have ho : Off D w (w.putObj D (.deferred none)) := putObj_off _
    have h' : Rel cx.P n ⟨s.sl, s.bx, s.ro, ds⟩ { a with defers := ds.map markOf } (w.putObj D (.deferred none)) := by
      refine ⟨h.sl, h.size, rfl, fun D' hD' => ?_, (List.nodup_cons.1 hnd).2, fun d b hb => ?_, h.dist, fun b hb => by rw [ho.size]; exact h.ro b hb⟩
      · obtain ⟨k1, k2⟩ := h.dfw D' (by rw [hd]; exact List.mem_cons_of_mem _ hD')
        exact ⟨k1, by rw [ho.block D' (fun e => (List.nodup_cons.1 hnd).1 (e ▸ hD'))]; exact k2⟩
      · obtain ⟨k1, k2⟩ := h.bx d b hb
        refine ⟨fun hm => ?_, k2⟩
        obtain ⟨T, hT⟩ := k1 hm
        exact ⟨T, by rw [ho.block b.b (fun e => by rw [e, hD2] at hT; cases hT)]; exact hT⟩
    exact leave_ok ds ⟨s.sl, s.bx, s.ro, ds⟩ { a with defers := ds.map markOf } _ rfl h' (hk _ ho)

theorem args_nil {P : Program} : ∀ x ∈ ([] : List X), ArgOk P x := fun _ h => by cases h
theorem args_cons {P : Program} {l : List X} (v : Value) (h : ∀ x ∈ l, ArgOk P x) : ∀ x ∈ X.v v :: l, ArgOk P x := fun x hx => by
  rcases List.mem_cons.1 hx with rfl | hx
  · exact argOk_v v
  · exact h x hx

/-- A context that knows one function more. -/
def Cx.add (P : Program) (cx : Cx) (f : FuncId) (o : CVT → List X → (Value → World → Prop) → World → Prop) (q : CVT → List X → World → (Value → Prop) → Prop) : Cx :=
  { P, CV := cx.CV, top := true, O := fun g CV xs K w => match Nat.beq g f with | true => o CV xs K w | false => cx.O g CV xs K w, Q := fun g CV xs w K => match Nat.beq g f with | true => q CV xs w K | false => cx.Q g CV xs w K }
def Cx.with (cx : Cx) (CV : CVT) : Cx := { P := cx.P, CV, top := true, O := cx.O, Q := cx.Q }
def noCV : CVT := fun _ _ _ _ => False
theorem noCV_ok (P : Program) : CVOk P noCV := fun _ _ _ _ h => h.elim
def Cx.none (P : Program) : Cx := { P, CV := noCV, top := true, O := fun _ _ _ _ _ => False, Q := fun _ _ _ _ _ => False }
theorem CxOk.none (P : Program) : CxOk (Cx.none P) := ⟨fun _ _ _ _ _ _ _ h => h.elim, fun _ _ _ _ _ _ _ h => h.elim⟩
theorem CxOk.with {cx : Cx} (h : CxOk cx) (CV : CVT) : CxOk (cx.with CV) := ⟨h.O, h.Q⟩
theorem CxOk.add {P : Program} {cx : Cx} (h : CxOk cx) (hP : cx.P = P) {f : FuncId} {o : CVT → List X → (Value → World → Prop) → World → Prop} {q : CVT → List X → World → (Value → Prop) → Prop}
    (ho : ∀ CV, CVOk P CV → ∀ xs K w, (∀ x ∈ xs, ArgOk P x) → o CV xs K w → Calls P f (xs.map cc).toArray w (Ans K))
    (hq : ∀ CV, CVOk P CV → ∀ xs K w, (∀ x ∈ xs, ArgOk P x) → q CV xs w K → ∃ v, K v ∧ ∀ w', Ext w w' → Calls P f (xs.map cc).toArray w' fun e w'' => e = .returned v ∧ Ext w' w'') : CxOk (Cx.add P cx f o q) := by
  subst hP
  refine ⟨fun CV hcv g xs K w hx hk => ?_, fun CV hcv g xs K w hx hk => ?_⟩
  · simp only [Cx.add] at hk
    cases hb : Nat.beq g f with
    | true =>
      rw [hb] at hk
      have := Nat.eq_of_beq_eq_true hb
      subst this
      exact ho CV hcv xs K w hx hk
    | false => rw [hb] at hk; exact h.O CV hcv g xs K w hx hk
  · simp only [Cx.add] at hk
    cases hb : Nat.beq g f with
    | true =>
      rw [hb] at hk
      have := Nat.eq_of_beq_eq_true hb
      subst this
      exact hq CV hcv xs K w hx hk
    | false => rw [hb] at hk; exact h.Q CV hcv g xs K w hx hk

/-- Function values, called through what a context knows. -/
def callVal (cx : Cx) (CV : CVT) : CVT := fun v vs K w => match v with
  | .func (.func g) first cap => (match noBodyB cx.P g with | true => cx.O g CV (first.toList.map .v ++ (vs.map .v ++ cap.toList.map .v)) K w | false => False)
  | _ => False
theorem callVal_ok {cx : Cx} (ok : CxOk cx) {CV : CVT} (h : CVOk cx.P CV) : CVOk cx.P (callVal cx CV) := fun v vs K w hk => by
  unfold callVal at hk
  split at hk
  · rename_i g first cap
    split at hk
    · rename_i hb
      refine ⟨g, first, cap, rfl, hb, ?_⟩
      have := ok.O CV h g _ K w (fun x hx => ?_) hk
      · have e : ((first.toList.map X.v ++ (vs.map X.v ++ cap.toList.map X.v)).map cc).toArray = first ++ vs.toArray ++ cap := by
          apply Array.ext'
          have e1 : ∀ l : List Value, l.map (cc ∘ X.v) = l := fun l => by rw [show (cc ∘ X.v) = id from rfl]; simp
          simp [e1]
        rw [e] at this
        exact this
      · simp only [List.mem_append, List.mem_map] at hx
        rcases hx with ⟨v, _, rfl⟩ | ⟨v, _, rfl⟩ | ⟨v, _, rfl⟩ <;> exact argOk_v v
    · exact hk.elim
  · exact hk.elim
/-- .. so many times one within the other. -/
def CVn (cx : Cx) : Nat → CVT
  | 0 => noCV
  | k + 1 => callVal cx (CVn cx k)
theorem CVn_ok {cx : Cx} (ok : CxOk cx) : ∀ k, CVOk cx.P (CVn cx k)
  | 0 => noCV_ok _
  | k + 1 => callVal_ok ok (CVn_ok ok k)

theorem calls_den (hf : cx.P.follows .mixedOrders = true) (ok : CxOk cx) (cv : CVOk cx.P cx.CV) {f : FuncId} {fn : Func} (hfn : cx.P.funcs[f]? = some fn) (plan : Plan) {xs : List X} (hx : ∀ x ∈ xs, ArgOk cx.P x) (hn : xs.length ≤ fn.ntmps) {R : Ending → World → Prop}
    (hk : denF cx fn plan xs w (fun v w' => R (.returned v) w')) : Calls cx.P f (xs.map cc).toArray w R := by
  unfold denF at hk
  split at hk
  · rename_i c hc
    refine (callsIn_wide (n := 0)).1 (callsIn_of_wp_marks (F := WF none) hfn hc trivial ?_ rfl)
    have h0 := rel_start hx hn w
    refine wpIn_mono (den_ok plan cx none c _ _ w _ (writes c) _ _ w hf ok cv (fun _ => rfl) (fun _ h => h) h0 (Fr.refl _ _ _ _) hk) ?_
    have fin : ∀ (e : Exit) (s' : S) (a' : Act) (w' : World), (e = .normal ∨ e = .ret) → Rel cx.P fn.ntmps s' a' w' → (expose s' w' (resOps fn.results.toList) fun s => offs s.df w' fun w' => rets cx ⟨s.sl, s.bx, s.ro, []⟩ w' fn.results.toList fun vs => R (.returned (tup vs)) w') → bodyPostM (WF none) 0 cx.P fn R e a' w' := fun e s' a' w' he h1 h3 => by
      obtain ⟨s2, h2, _, ⟨_, _, _, hdf, _⟩, hr⟩ := expose_ok (W := []) _ _ _ h1 (Fr.refl [] s' a' w') h3
      have := leave_ok s2.df s2 _ w' rfl h2 hr
      rw [← h2.df] at this
      rcases he with rfl | rfl <;> exact this
    rintro e a' w' ⟨ex, s', rfl, h1, _, h3⟩
    cases ex with
    | nrm => exact fin _ s' a' w' (.inl rfl) h1 h3
    | ret => exact fin _ s' a' w' (.inr rfl) h1 h3
    | exit id => exact h3.elim
    | goto l => exact h3.elim
  · exact hk.elim
theorem calls_is (hf : cx.P.follows .mixedOrders = true) (ok : CxOk cx) (cv : CVOk cx.P cx.CV) {f : FuncId} {fn : Func} (hfn : cx.P.funcs[f]? = some fn) (plan : Plan) {xs : List X} (hx : ∀ x ∈ xs, ArgOk cx.P x) (hn : Nat.ble xs.length fn.ntmps = true) {R : Ending → World → Prop} {A : Prop}
    (e : A = denF cx fn plan xs w (fun v w' => R (.returned v) w')) (h : A) : Calls cx.P f (xs.map cc).toArray w R := calls_den hf ok cv hfn plan hx (Nat.le_of_ble_eq_true hn) (e ▸ h)
end
end Go.Sh
