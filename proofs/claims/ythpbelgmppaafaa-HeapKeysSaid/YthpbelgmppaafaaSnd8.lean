/- 'den' is sound: a function's call. -/
import Derived.Test.YthpbelgmppaafaaSnd7
namespace Go.Sh
open Go.RowKit

section
variable {cx : Cx} {n : Nat} {s : S} {a : Act} {w : World}

theorem find_args : ∀ (xs : List X) (i t : Nat) (x : X), find (argSlX i xs) t = some x → ∃ k, t = i + k ∧ xs[k]? = some x
  | [], i, t, x, h => by cases h
  | y :: l, i, t, x, h => by
    simp only [argSlX] at h
    rw [find_cons] at h
    split at h
    · rename_i e
      have h := Option.some.inj h
      subst h
      exact ⟨0, by omega, rfl⟩
    · obtain ⟨k, h1, h2⟩ := find_args l (i + 1) t x h
      exact ⟨k + 1, by omega, by simpa using h2⟩

theorem rel_start {xs : List X} (hx : ∀ x ∈ xs, NotLoc x) (hn : xs.length ≤ n) (w : World) :
    Rel cx.F n ⟨argSlX 0 xs, [], []⟩ { tmps := (xs.map (cc cx.F)).toArray ++ Array.replicate (n - (xs.map (cc cx.F)).toArray.size) undef, defers := [] } w := by
  refine ⟨fun t x ht _ => ?_, by simp; omega, rfl, fun d b hb => (by cases hb), fun d d' b b' _ hb => (by cases hb), fun b hb => (by cases hb)⟩
  obtain ⟨k, h1, h2⟩ := find_args xs 0 t x ht
  have hk : t = k := by omega
  subst hk
  have hm := List.mem_of_getElem? h2
  have hlt : t < xs.length := (List.getElem?_eq_some_iff.1 h2).1
  refine ⟨?_, fun d off e => absurd e (hx x hm d off)⟩
  rw [conc_of (hx x hm)]
  rw [Array.getElem?_append_left (by simpa using hlt)]
  simp [h2]

def resF (tmps : Array Value) : ResultVar → Sem Value
  | .tmp t => pure (tmps.getD t undef)
  | .cell x t => do loadVar t (← asAddr (tmps.getD x undef))

theorem rets_ok (h : Rel cx.F n s a w) : ∀ (l : List ResultVar) (K : List Value → Prop), rets cx s w l K → ∃ vs, K vs ∧ (l.mapM (resF a.tmps)).run cx.P w = .ok vs w
  | [], K, hk => ⟨[], hk, by simp⟩
  | .tmp t :: l, K, hk => by
    simp only [rets] at hk
    split at hk
    · rename_i v hv
      obtain ⟨vs, h1, h2⟩ := rets_ok h l _ hk
      have := evv_ok h hv
      simp only [Act.eval] at this
      refine ⟨_, h1, ?_⟩
      simp only [List.mapM_cons, Sem.run_bind, h2, resF, Sem.run_pure, Result.andThen_ok, this]
    · exact hk.elim
  | .cell x t :: l, K, hk => by
    simp only [rets] at hk
    have hs := sem1_ok (o := { dst := none, op := .load t (.tmp x), type := t, pos := "", after := #[], guard := none }) h
    split at hk
    · rename_i R hR
      rw [hR] at hs
      obtain ⟨y, h1, h2, h3⟩ := hs _ hk
      have h3 := h3 w (Ext.refl w)
      split at h1
      · rename_i v hv
        obtain ⟨vs, g1, g2⟩ := rets_ok h l _ h1
        refine ⟨_, g1, ?_⟩
        have hc : conc cx.F s.bx y = v := by
          rw [conc_of, valOf_ok hv]
          intro d off e
          rw [e] at hv
          cases hv
        rw [hc] at h3
        simp only [execOp, Act.eval] at h3
        have key : (resF a.tmps (.cell x t)).run cx.P w = .ok v w := by
          show (do loadVar t (← asAddr (a.tmps.getD x undef)) : Sem Value).run cx.P w = _
          generalize a.tmps.getD x undef = u at h3 ⊢
          have h4 : (do loadVar t (← Instr.sureAddr u) : Sem Value).run cx.P w = .ok v w := by
            simp only [Instr.loadAt, Sem.run_bind] at h3 ⊢
            generalize (Instr.sureAddr u).run cx.P w = q at *
            cases q with
            | ok p w1 =>
              simp only [Result.andThen_ok] at h3 ⊢
              generalize (loadVar t p).run cx.P w1 = q at *
              cases q with
              | ok p w1 =>
                simp only [Result.andThen_ok, Sem.run_pure, Result.ok.injEq, Next.value.injEq] at h3
                rw [h3.1, h3.2]
              | halt _ _ => simp at h3
            | halt _ _ => simp at h3
          cases u <;> first
            | (simp [Instr.sureAddr] at h4; done)
            | (rename_i p; cases p with
               | none => simp [Instr.sureAddr] at h4
               | some p => simpa [Instr.sureAddr, asAddr] using h4)
        simp only [List.mapM_cons, Sem.run_bind, key, g2, Sem.run_pure, Result.andThen_ok]
      · exact h1.elim
    · exact hk.elim

theorem results_of {fn : Func} {vs : List Value} (h : (fn.results.toList.mapM (resF a.tmps)).run cx.P w = .ok vs w) : (results fn a.tmps).run cx.P w = .ok (tup vs) w := by
  have e : results fn a.tmps = (do let vs ← fn.results.mapM (resF a.tmps); pure (if h : vs.size = 1 then vs[0] else .tuple vs)) := rfl
  rw [e, Array.mapM_eq_mapM_toList]
  simp only [Sem.run_bind, Sem.run_map, h, Result.andThen_ok, Sem.run_pure]
  congr 1
  match vs with
  | [] => rfl
  | [v] => rfl
  | v :: u :: l => simp [tup]

/-- A context that knows one function more. -/
def Cx.add (P : Program) (F : Nat → Value) (cx : Cx) (f : FuncId) (o : List X → (Value → World → Prop) → World → Prop) (q : List X → World → (Value → Prop) → Prop) : Cx :=
  { P, F, O := fun g xs K w => match Nat.beq g f with | true => o xs K w | false => cx.O g xs K w, Q := fun g xs w K => match Nat.beq g f with | true => q xs w K | false => cx.Q g xs w K, OF := cx.OF, QF := cx.QF }
def Cx.none (P : Program) (F : Nat → Value) : Cx := { P, F, O := fun _ _ _ _ => False, Q := fun _ _ _ _ => False, OF := fun _ _ _ _ => False, QF := fun _ _ _ _ => False }
theorem CxOk.none (P : Program) (F : Nat → Value) : CxOk (Cx.none P F) := ⟨fun _ _ _ _ h => h.elim, fun _ _ _ _ h => h.elim, fun _ _ _ _ h => h.elim, fun _ _ _ _ h => h.elim⟩
theorem CxOk.add {P : Program} {F : Nat → Value} {cx : Cx} (h : CxOk cx) (hP : cx.P = P) (hF : cx.F = F) {f : FuncId} {o : List X → (Value → World → Prop) → World → Prop} {q : List X → World → (Value → Prop) → Prop}
    (ho : ∀ xs K w, o xs K w → Calls P f (xs.map (cc F)).toArray w (Ans K))
    (hq : ∀ xs K w, q xs w K → ∃ v, K v ∧ ∀ w', Ext w w' → Calls P f (xs.map (cc F)).toArray w' fun e w'' => e = .returned v ∧ Ext w' w'') : CxOk (Cx.add P F cx f o q) := by
  subst hP hF
  refine ⟨fun g xs K w hk => ?_, fun g xs K w hk => ?_, h.OF, h.QF⟩
  · simp only [Cx.add] at hk
    cases hb : Nat.beq g f with
    | true =>
      rw [hb] at hk
      have := Nat.eq_of_beq_eq_true hb
      subst this
      exact ho xs K w hk
    | false => rw [hb] at hk; exact h.O g xs K w hk
  · simp only [Cx.add] at hk
    cases hb : Nat.beq g f with
    | true =>
      rw [hb] at hk
      have := Nat.eq_of_beq_eq_true hb
      subst this
      exact hq xs K w hk
    | false => rw [hb] at hk; exact h.Q g xs K w hk

theorem calls_den (hf : cx.P.follows .mixedOrders = true) (ok : CxOk cx) {f : FuncId} {fn : Func} (hfn : cx.P.funcs[f]? = some fn) (plan : Plan) {xs : List X} (hx : ∀ x ∈ xs, NotLoc x) (hn : xs.length ≤ fn.ntmps) {R : Ending → World → Prop}
    (hk : denF cx fn plan xs w (fun v w' => R (.returned v) w')) : Calls cx.P f (xs.map (cc cx.F)).toArray w R := by
  unfold denF at hk
  split at hk
  · rename_i c hc
    refine calls_of_wp hfn hc ?_
    have h0 := rel_start (cx := cx) hx hn w
    refine wp_mono (den_ok hf ok plan c _ _ w _ (writes c) _ _ w (fun _ h => h) h0 (Fr.refl _ _ _ _) hk) ?_
    have fin : ∀ (e : Exit) (s' : S) (a' : Act) (w' : World), (e = .normal ∨ e = .ret) → Rel cx.F fn.ntmps s' a' w' → (expose s' w' (resOps fn.results.toList) fun s => rets cx s w' fn.results.toList fun vs => R (.returned (tup vs)) w') → bodyPost cx.P fn R e a' w' := fun e s' a' w' he h1 h3 => by
      obtain ⟨s2, h2, _, _, hr⟩ := expose_ok (W := []) _ _ _ h1 (Fr.refl [] s' a' w') h3
      obtain ⟨vs, g1, g2⟩ := rets_ok h2 _ _ hr
      rcases he with rfl | rfl <;> exact ⟨h2.df, _, results_of g2, g1⟩
    rintro e a' w' ⟨ex, s', rfl, h1, _, h3⟩
    cases ex with
    | nrm => exact fin _ s' a' w' (.inl rfl) h1 h3
    | ret => exact fin _ s' a' w' (.inr rfl) h1 h3
    | exit id => exact h3.elim
    | goto l => exact h3.elim
  · exact hk.elim
end
end Go.Sh
