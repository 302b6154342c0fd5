/- The wide fence, in a round and out of it: what the walk says there. -/
import Derived.Test.YtoomennincfkgaaSnd4
import Derived.OrdersIn
import Derived.DefersIn
import Derived.Scope
import Derived.TacticsIn
import Derived.Deep.LoopGhost
namespace Go.Sh
open Go.RowKit

/-- Whatever function; in a round of l (some l), or in none. -/
def WF (r : Option Nat) : Fence := { Fence.wide with round := r }
theorem calls_wf {r : Option Nat} {n : Nat} {P : Program} {f : FuncId} {args : Array Value} {w : World} {R : Ending → World → Prop} (h : Calls P f args w R) : CallsIn (WF r) n P f args w R := callsIn_wide (n := n) |>.2 h
theorem round_wf {r : Option Nat} {n : Nat} {P : Program} {l : Nat} {f : FuncId} {tmps : Array Value} {x y : Code} {w : World} {R : Ending → World → Prop} (h : RoundIn Fence.wide n P l f tmps x y w R) : RoundIn (WF r) n P l f tmps x y w R := h
theorem rows_wf {r : Option Nat} {n : Nat} {P : Program} {row : String} {args : Array Value} {w : World} {R : Value → World → Prop} (h : Rows P row args w R) : RowsIn (WF r) n P row args w R :=
  fun c cs _ => let ⟨v, w', q, s⟩ := h c cs; ⟨v, w', q, (stepsIn_wide (P := P)).2 s⟩
theorem ne_depth {r : Option Nat} {n : Nat} : (WF r).depth.isSome = true → 1 ≤ n := fun h => by cases h

section
variable {P : Program} {r : Option Nat} {n : Nat} {ops : Array Oper} {Q Q0 : Exit → Act → World → Prop}

/-- An operation, brought into the fence. -/
theorem wp_in {o : Oper} (hd : ∀ c, o.op ≠ .defer c) {a : Act} {w : World} {K : Act → World → Prop} (hp : ∀ c a w, Q0 (.panic c) a w → Q (.panic c) a w) (hl : LetsOut Q0 → LetsOut Q) (h : o.wp P a w K Q0) : o.wpIn (WF r) n P a w K Q := by
  refine ⟨fun _ _ => trivial, ?_⟩
  show o.uponIn (WF r) n P a K Q ((o.semAt r a.eval).run P w)
  rw [Oper.semAt_eq r _ _ hd]
  unfold Oper.wp at h
  generalize (execOp a.eval o).run P w = q at *
  cases q with
  | ok x w' =>
    cases x <;> simp only [Oper.upon] at h <;> simp only [Oper.uponIn] <;> first
      | exact h
      | exact ⟨ne_depth, calls_wf (h.mono fun e w'' he => by
          cases e with
          | returned v => exact he
          | panicked c => exact hp _ _ _ he
          | outgrown => exact hl he)⟩
      | exact ⟨ne_depth, rows_wf h⟩
      | exact h.elim
  | halt x w' => cases x <;> simp only [Oper.upon] at h <;> simp only [Oper.uponIn] <;> first | exact hp _ _ _ h | exact h.elim

theorem noexit_lets : LetsOut NoExit → LetsOut Q := fun ⟨_, _, h⟩ => h.elim

/-- Regions that draw. -/
theorem wpAny_in (hd : ∀ (i : Nat) (o : Oper), ops[i]? = some o → ∀ c, o.op ≠ .defer c) (hp : ∀ c a w, Q0 (.panic c) a w → Q (.panic c) a w) (hl : ¬ LetsOut Q0) (hn : ∀ a w, Q0 .normal a w → Q .normal a w) :
    ∀ (fuel : Nat) (listed : Array Bool) (a : Act) (w : World), wpAny P .any ops Q0 fuel listed a w → wpAnyIn (WF r) n P .any ops Q fuel listed a w
  | 0, listed, a, w, h => ⟨h.1, hn _ _ h.2⟩
  | fuel + 1, listed, a, w, h => by
    refine ⟨fun h0 => hn _ _ (h.1 h0), fun i hi => ?_⟩
    have h2 := h.2 i hi
    unfold wpOp at h2
    unfold wpOpIn
    cases ho : ops[i]? with
    | none => rw [ho] at h2; exact wpAny_in hd hp hl hn fuel _ a w h2
    | some o =>
      rw [ho] at h2
      simp only at h2 ⊢
      split at h2
      · rename_i hw
        rw [if_pos hw]
        rcases h2 with h2 | ⟨_, h2⟩
        · exact Oper.wpIn_mono (fun a' w' h' => wpAny_in hd hp hl hn fuel _ a' w' h') (wp_in (hd i o ho) hp (fun h => absurd h hl) h2)
        · exact absurd h2 hl
      · rename_i hw
        rw [if_neg hw]
        exact ⟨fun _ _ => trivial, wpAny_in hd hp hl hn fuel _ _ w h2⟩

theorem wpIn_region_C {B : Nat → Prop} {id : Nat} {kd : Nat → Kd} {ord : List Nat} (hm : P.follows .mixedOrders = true) (hok : okB ops kd ord = true) (hlen : Nat.beq ord.length ops.size = true) {R : Act → World → Prop} (hR : ∀ a w, R a w → Q .normal a w) {a : Act} {w : World}
    (h : wpC B P ops (anc ops) kd R ord ⟨fun _ _ => True, fun _ => False⟩ a w) : (Code.region id ops true).wpIn (WF r) n P Q a w := by
  have hd : ∀ (i : Nat) (o : Oper), ops[i]? = some o → ∀ c, o.op ≠ .defer c := fun i o ho c hc => by
    simp only [okB, Bool.and_eq_true] at hok
    have := List.all_eq_true.1 hok.1.1.1.1 o (List.mem_of_getElem? (by rw [Array.getElem?_toList]; exact ho))
    rw [hc] at this
    cases this
  refine wpIn_region_any hm (wpAny_in (Q0 := fun e a w => match e with | .normal => R a w | _ => False) hd (fun _ _ _ h => h.elim) (fun ⟨_, _, h⟩ => h) hR ops.size _ a _ ?_)
  exact wpAny_C hok hlen (fun _ _ h => h) h

/-- A loop, by a number that goes down. -/
theorem wpIn_loop_ghost {a : Act} {w : World} {c : Code} (I : Nat → Act → World → Prop) (n₀ : Nat) (h₀ : I n₀ a w)
    (round : ∀ n' a w, I n' a w → c.wpIn (WF r) n P (Exit.then (fun a' w' => ∃ k, k < n' ∧ I k a' w') Q) a w) : (Code.loop c).wpIn (WF r) n P Q a w := by
  refine wpIn_loop (fun a w => ∃ n, I n a w) (fun a w => leastOf (fun n => I n a w)) ⟨n₀, h₀⟩ ?_
  intro a w hI
  refine wpIn_mono (round _ a w (leastOf_spec hI).1) ?_
  intro e a' w' hq
  cases e with
  | normal =>
    obtain ⟨n', hlt, hI'⟩ := hq
    exact show (∃ n, I n a' w') ∧ leastOf (fun n => I n a' w') < leastOf (fun n => I n a w) from ⟨⟨n', hI'⟩, Nat.lt_of_le_of_lt ((leastOf_spec ⟨n', hI'⟩).2 n' hI') hlt⟩
  | exit id => exact hq
  | goto l => exact hq
  | ret => exact hq
  | panic ch => exact hq
  | outgrown => exact hq

theorem wpIn_scope_top {c : Code} {a : Act} {w : World} (h : c.wpIn (WF none) n P (Exit.noGoto Q) a w) : (Code.scope c).wpIn (WF none) n P Q a w :=
  (wpIn_wide (n := n)).2 (wp_scope_straight ((wpIn_wide (n := n)).1 h))
end
end Go.Sh
