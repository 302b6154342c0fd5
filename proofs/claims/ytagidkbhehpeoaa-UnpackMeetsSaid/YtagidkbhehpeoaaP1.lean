/- Draw, Prim, Den, Snd1, Snd2, Snd3, SndM, Snd4, SndF, Snd5: merged into one text. -/
import Derived.Orders
import Derived.Deep.Quiet
import Derived.Below
import Derived.OwnWalk
import Derived.RangeFuncRecord
import Derived.Laws.Tables
import Derived.Laws.MakeOwn
import Derived.Laws.Cells
import Derived.Laws.Append
import Derived.Laws.IdiomCopy
import Derived.WalkKit
import Derived.WideLaws
import Derived.RangeFuncIn
import Derived.RangeFuncLeaves
import Derived.OrdersIn
import Derived.DefersIn
import Derived.Scope
import Derived.TacticsIn
import Derived.Deep.LoopGhost
/- Regions that draw their order: one canonical order, walked in a class of worlds that grows, serves every order that the edges allow. -/
namespace Go.Sh
open Go.RowKit

/-- The world grew: what was there is as it was. -/
def Ext (w w' : World) : Prop := Below w.heap.size w w'
theorem Ext.refl (w : World) : Ext w w := Below.refl _ _
theorem Ext.trans {a b c : World} (h : Ext a b) (k : Ext b c) : Ext a c := Below.trans h (Below.mono k h.size)
theorem Ext.size {a b : World} (h : Ext a b) : a.heap.size ≤ b.heap.size := Below.size h
theorem Ext.blk {a b : World} (h : Ext a b) {k : Nat} (hk : k < a.heap.size) : b.heap[k]? = a.heap[k]? := Below.block h k hk

/-- How an operation stands to memory. -/
inductive Kd where
  | pure | quiet | new | big | loc | lst | rd | alc | bigz
  deriving DecidableEq

section
variable {P : Program} {ops : Array Oper} {Q : Exit → Act → World → Prop}

/-- Block b alone may have turned. -/
structure Off (b : Nat) (w w' : World) : Prop where
  os : w'.os = w.os
  tape : w'.tape = w.tape
  output : w'.output = w.output
  size : w'.heap.size = w.heap.size
  block : ∀ k, k ≠ b → w'.heap[k]? = w.heap[k]?

/-- Grown, and the blocks of B may have turned. -/
structure ExtB (B : Nat → Prop) (w w' : World) : Prop where
  size : w.heap.size ≤ w'.heap.size
  block : ∀ k, k < w.heap.size → ¬ B k → w'.heap[k]? = w.heap[k]?
theorem ExtB.of {B : Nat → Prop} {w w' : World} (h : Ext w w') : ExtB B w w' := ⟨h.size, fun _ hk _ => h.blk hk⟩
theorem ExtB.refl (B : Nat → Prop) (w : World) : ExtB B w w := ⟨Nat.le_refl _, fun _ _ _ => rfl⟩
theorem ExtB.trans {B : Nat → Prop} {a b c : World} (h : ExtB B a b) (k : ExtB B b c) : ExtB B a c :=
  ⟨Nat.le_trans h.size k.size, fun i hi hb => (k.block i (Nat.lt_of_lt_of_le hi h.size) hb).trans (h.block i hi hb)⟩
theorem ExtB.off {B : Nat → Prop} {w w' : World} {b : Nat} (h : Off b w w') (hb : B b) : ExtB B w w' :=
  ⟨Nat.le_of_eq h.size.symm, fun k _ hk => h.block k (fun e => hk (e ▸ hb))⟩

def NoExit : Exit → Act → World → Prop := fun _ _ _ => False

theorem wp_noexit {o : Oper} {a : Act} {w : World} {K K' : Act → World → Prop} (hk : ∀ a w, K a w → K' a w) (h : o.wp P a w K NoExit) : o.wp P a w K' Q := by
  unfold Oper.wp at *
  generalize (execOp a.eval o).run P w = r at *
  cases r with
  | ok n w' =>
    cases n <;> simp only [Oper.upon] at h ⊢ <;>
      first
        | exact hk _ _ h
        | exact Calls.mono h (fun e w'' he => by
            cases e with
            | returned v => exact hk _ _ he
            | panicked c => exact he.elim
            | outgrown => obtain ⟨_, _, hx⟩ := he; exact hx.elim)
        | exact Rows.mono h (fun _ _ he => hk _ _ he)
        | exact h.elim
  | halt x w' => cases x <;> simp only [Oper.upon] at h ⊢ <;> exact h.elim

theorem wp_exists {o : Oper} {a : Act} {w : World} {K : Act → World → Prop} (h : o.wp P a w K NoExit) : ∃ a' w', K a' w' := by
  unfold Oper.wp at h
  generalize (execOp a.eval o).run P w = r at *
  cases r with
  | ok n w' =>
    cases n <;> simp only [Oper.upon] at h
    case enter f args =>
      obtain ⟨e, w'', fr, hR, _⟩ := h []
      cases e with
      | returned v => exact ⟨_, _, hR⟩
      | panicked c => exact hR.elim
      | outgrown => obtain ⟨_, _, hx⟩ := hR; exact hx.elim
    case row row args =>
      obtain ⟨v, w'', hR, _⟩ := h default []
      exact ⟨_, _, hR⟩
    all_goals first | exact ⟨_, _, h⟩ | exact h.elim
  | halt x w' => cases x <;> simp only [Oper.upon] at h; exact h.elim

/-- An operation's work on the frame and a temporary that it does not look at. -/
theorem wp_put {o : Oper} (hs : ∀ cs b, o.op ≠ .select cs b) {a : Act} {w : World} {K : Act → World → Prop} {dst : Option Tmp} {v : Value}
    (h1 : ∀ d, dst = some d → d ∉ o.looksAt ops) (h2 : ∀ d, dst = some d → o.dst ≠ some d)
    (h : o.wp P (a.put dst v) w K NoExit) : o.wp P a w (fun a' w' => K (a'.put dst v) w') NoExit := by
  have hc : ∀ (x : Act) (u : Value), (x.put dst v).put o.dst u = (x.put o.dst u).put dst v := fun x u => Act.put_comm x v u h2
  unfold Oper.wp at *
  rw [execOp_put o hs a dst v h1] at h
  generalize (execOp a.eval o).run P w = r at *
  cases r with
  | ok n w' =>
    cases n <;> simp only [Oper.upon] at h ⊢
    case value u => rw [← hc]; exact h
    case skip => rw [← hc]; exact h
    case defer d =>
      have e : ({ a.put dst v with defers := d :: (a.put dst v).defers } : Act) = ({ a with defers := d :: a.defers } : Act).put dst v := by
        cases dst <;> rfl
      rw [e, hc] at h; exact h
    case enter f args =>
      refine Calls.mono h (fun e w'' he => ?_)
      cases e with
      | returned u => simp only [] at he ⊢; rw [← hc]; exact he
      | panicked c => exact he
      | outgrown => obtain ⟨_, _, hx⟩ := he; exact hx.elim
    case row row args => exact Rows.mono h (fun _ _ he => by rw [← hc]; exact he)
    all_goals exact h.elim
  | halt x w' => cases x <;> simp only [Oper.upon] at h ⊢ <;> exact h.elim

/-- .. and back. -/
theorem wp_push {o : Oper} (hs : ∀ cs b, o.op ≠ .select cs b) {a : Act} {w : World} {K : Act → World → Prop} {dst : Option Tmp} {v : Value}
    (h1 : ∀ d, dst = some d → d ∉ o.looksAt ops) (h2 : ∀ d, dst = some d → o.dst ≠ some d)
    (h : o.wp P a w (fun a' w' => K (a'.put dst v) w') NoExit) : o.wp P (a.put dst v) w K NoExit := by
  have hc : ∀ (x : Act) (u : Value), (x.put dst v).put o.dst u = (x.put o.dst u).put dst v := fun x u => Act.put_comm x v u h2
  unfold Oper.wp at *
  rw [execOp_put o hs a dst v h1]
  generalize (execOp a.eval o).run P w = r at *
  cases r with
  | ok n w' =>
    cases n <;> simp only [Oper.upon] at h ⊢
    case value u => rw [hc]; exact h
    case skip => rw [hc]; exact h
    case defer d =>
      have e : ({ a.put dst v with defers := d :: (a.put dst v).defers } : Act) = ({ a with defers := d :: a.defers } : Act).put dst v := by
        cases dst <;> rfl
      rw [e, hc]; exact h
    case enter f args =>
      refine Calls.mono h (fun e w'' he => ?_)
      cases e with
      | returned u => simp only [] at he ⊢; rw [hc]; exact he
      | panicked c => exact he
      | outgrown => obtain ⟨_, _, hx⟩ := he; exact hx.elim
    case row row args => exact Rows.mono h (fun _ _ he => by rw [hc]; exact he)
    all_goals exact h.elim
  | halt x w' => cases x <;> simp only [Oper.upon] at h ⊢ <;> exact h.elim

/-- What an operation that reads sees. -/
def Sees (P : Program) (m : Sem Next) (v : Value) (w : World) : Prop := ∀ w', Ext w w' → m.run P w' = .ok (.value v) w'

/-- What a call's end must grant; the blocks that may have been laid ahead of their turn. -/
structure GZ where
  g : Nat → World → Prop
  z : Nat → Prop
/-- .. of whoever does not lean upon j. -/
def GZ.and (G : GZ) (an : Nat → Nat → Bool) (j : Nat) (p : World → Prop) : GZ := ⟨fun i w => G.g i w ∧ (an i j = false → p w), G.z⟩
def GZ.to (G : GZ) (z : Nat → Prop) : GZ := ⟨G.g, z⟩
/-- .. the blocks between two worlds beside. -/
def zI (z : Nat → Prop) (w w' : World) : Nat → Prop := fun b => z b ∨ (w.heap.size ≤ b ∧ b < w'.heap.size)
def zX (z : Nat → Prop) (b : Nat) : Nat → Prop := fun c => z c ∧ c ≠ b
def KeepZ (z : Nat → Prop) (w w' : World) : Prop := w.heap.size ≤ w'.heap.size ∧ ∀ b, z b → w'.heap[b]? = w.heap[b]?

/-- THE CANONICAL ORDER, IN CLASSES OF WORLDS: 'w' is the world that is known; the true one is any that grew out of it. -/
def wpC (B : Nat → Prop) (P : Program) (ops : Array Oper) (an : Nat → Nat → Bool) (kd : Nat → Kd) (R : Act → World → Prop) : List Nat → GZ → Act → World → Prop
  | [], _, a, w => ∀ w', Ext w w' → R a w'
  | i :: l, G, a, w =>
    match ops[i]? with
    | none => False
    | some o =>
      if Region.wanted o (yielded ops a.tmps) then
        match kd i with
        | .pure => ∃ v, (∀ w', (execOp a.eval o).run P w' = .ok (.value v) w') ∧ wpC B P ops an kd R l G (a.put o.dst v) w
        | .quiet => ∃ v, (∀ w', Ext w w' → o.quietAt P a (Ext w') w' v) ∧ wpC B P ops an kd R l G (a.put o.dst v) w
        | .new => ∀ w', Ext w w' → ∃ v w'', (execOp a.eval o).run P w' = .ok (.value v) w'' ∧ Ext w' w'' ∧ wpC B P ops an kd R l (G.to (zI G.z w w')) (a.put o.dst v) w''
        | .big => ∀ w', Ext w w' → o.wp P a w' (fun a' w'' => G.g i w'' ∧ wpC B P ops an kd R l (G.to fun _ => False) a' w'') NoExit
        | .bigz => ∀ w', Ext w w' → o.wp P a w' (fun a' w'' => G.g i w'' ∧ KeepZ (zI G.z w w') w' w'' ∧ wpC B P ops an kd R l (G.to (zI G.z w w')) a' w'') NoExit
        | .alc => ∃ (fv : Nat → Value) (ob : Obj), (∀ w', (execOp a.eval o).run P w' = .ok (.value (fv w'.heap.size)) (w'.alloc ob)) ∧
            ∀ b w', Ext w w' → (G.z b ∨ w.heap.size ≤ b) → w'.heap[b]? = some ob → wpC B P ops an kd R l (G.to (zX (zI G.z w w') b)) (a.put o.dst (fv b)) w'
        | .rd => ∃ v, Sees P (execOp a.eval o) v w ∧ wpC B P ops an kd R l (G.and an i (Sees P (execOp a.eval o) v)) (a.put o.dst v) w
        | .loc => ∃ v, (∀ w', ExtB B w w' → (execOp a.eval o).run P w' = .ok (.value v) w') ∧ wpC B P ops an kd R l G (a.put o.dst v) w
        | .lst => ∀ w', Ext w w' → ∃ b w'', B b ∧ (execOp a.eval o).run P w' = .ok .skip w'' ∧ Off b w' w'' ∧ wpC B P ops an kd R l (G.to fun _ => False) (a.put o.dst undef) w''
      else wpC B P ops an kd R l G (a.put o.dst undef) w

variable {kd : Nat → Kd} {R : Act → World → Prop} {B : Nat → Prop} {an : Nat → Nat → Bool}

def kdB (a b : Kd) : Bool := match b, a with
  | .pure, _ => true
  | .quiet, .pure => true | .quiet, .quiet => true | .quiet, .loc => true
  | .loc, .pure => true | .loc, .quiet => true | .loc, .loc => true
  | .new, .pure => true | .new, .quiet => true | .new, .loc => true
  | .big, .pure => true | .big, .rd => true
  | .rd, .pure => true | .rd, .quiet => true | .rd, .loc => true | .rd, .rd => true
  | .quiet, .rd => true | .loc, .rd => true | .new, .rd => true
  | .lst, .pure => true | .lst, .loc => true
  | .bigz, .pure => true | .bigz, .rd => true
  | .alc, .pure => true | .alc, .quiet => true | .alc, .loc => true | .alc, .rd => true | .alc, .new => true | .alc, .alc => true | .alc, .bigz => true
  | _, _ => false
/-- What leaves memory as it was. -/
def mild : Kd → Bool | .big => false | .lst => false | .bigz => false | _ => true
/-- .. or may do what it likes. -/
def huge : Kd → Bool | .big => true | .bigz => true | _ => false

/-- May 'i' be taken ahead of 'j'? -/
structure Comm (ops : Array Oper) (an : Nat → Nat → Bool) (kd : Nat → Kd) (j i : Nat) : Prop where
  na : an i j = false
  apart : ∀ oj oi, ops[j]? = some oj → ops[i]? = some oi → oi.apart ops oj = true
  k : kdB (kd j) (kd i) = true

def NoSel (ops : Array Oper) : Prop := ∀ (j : Nat) (o : Oper) cs b, ops[j]? = some o → o.op ≠ .select cs b

/-- What a pure operation (or one that is passed over) yields. -/
def PureAt (P : Program) (ops : Array Oper) (o : Oper) (a : Act) (v : Value) : Prop :=
  (Region.wanted o (yielded ops a.tmps) = true ∧ ∀ w', (execOp a.eval o).run P w' = .ok (.value v) w') ∨ (Region.wanted o (yielded ops a.tmps) = false ∧ v = undef)

theorem PureAt.unique {o : Oper} {a : Act} {v u : Value} (w : World) (h : PureAt P ops o a v) (k : PureAt P ops o a u) : v = u := by
  rcases h with ⟨h1, h2⟩ | ⟨h1, h2⟩ <;> rcases k with ⟨k1, k2⟩ | ⟨k1, k2⟩
  · have := (h2 w).symm.trans (k2 w); injection this with e _; injection e
  · rw [h1] at k1; cases k1
  · rw [h1] at k1; cases k1
  · rw [h2, k2]

theorem PureAt.put {o : Oper} (hs : ∀ cs b, o.op ≠ .select cs b) {a : Act} {dst : Option Tmp} {u v : Value} (h1 : ∀ d, dst = some d → d ∉ o.looksAt ops) :
    PureAt P ops o (a.put dst u) v ↔ PureAt P ops o a v := by
  unfold PureAt
  rw [execOp_put o hs a dst u h1, wanted_put o a dst u h1]

/-- The frames that an operation may leave. -/
def Reach (o : Oper) (a a' : Act) : Prop := (∃ u, a' = a.put o.dst u) ∨ ∃ d, a' = ({ a with defers := d :: a.defers } : Act).put o.dst undef

theorem wp_reach {o : Oper} {a : Act} {w : World} {K : Act → World → Prop} (h : o.wp P a w K NoExit) : o.wp P a w (fun a' w' => Reach o a a' ∧ K a' w') NoExit := by
  unfold Oper.wp at *
  generalize (execOp a.eval o).run P w = r at *
  cases r with
  | ok n w' =>
    cases n <;> simp only [Oper.upon] at h ⊢
    case value u => exact ⟨.inl ⟨u, rfl⟩, h⟩
    case skip => exact ⟨.inl ⟨_, rfl⟩, h⟩
    case defer d => exact ⟨.inr ⟨d, rfl⟩, h⟩
    case enter f args =>
      refine Calls.mono h (fun e w'' he => ?_)
      cases e with
      | returned u => exact ⟨.inl ⟨u, rfl⟩, he⟩
      | panicked c => exact he
      | outgrown => obtain ⟨_, _, hx⟩ := he; exact hx.elim
    case row row args => exact Rows.mono h (fun v _ he => ⟨.inl ⟨v, rfl⟩, he⟩)
    all_goals exact h.elim
  | halt x w' => cases x <;> simp only [Oper.upon] at h ⊢ <;> exact h.elim

theorem PureAt.reach {o oj : Oper} (hs : ∀ cs b, o.op ≠ .select cs b) {a a' : Act} {v : Value} (h1 : ∀ d, oj.dst = some d → d ∉ o.looksAt ops) (hr : Reach oj a a') :
    PureAt P ops o a' v ↔ PureAt P ops o a v := by
  rcases hr with ⟨u, rfl⟩ | ⟨d, rfl⟩
  · exact PureAt.put hs h1
  · rw [PureAt.put hs h1]; rfl

theorem apart3 {x y : Oper} (h : x.apart ops y = true) : (∀ d, x.dst = some d → d ∉ y.looksAt ops) ∧ (∀ d, x.dst = some d → y.dst ≠ some d) ∧ (∀ d, y.dst = some d → d ∉ x.looksAt ops) := Oper.apart_spec h

structure GZ.Le (G' G : GZ) : Prop where
  g : ∀ i w, G'.g i w → G.g i w
  z : ∀ b, G.z b → G'.z b
theorem GZ.Le.to {G' G : GZ} (h : ∀ i w, G'.g i w → G.g i w) {z' z : Nat → Prop} (hz : ∀ b, z b → z' b) : GZ.Le (G'.to z') (G.to z) := ⟨h, hz⟩
theorem GZ.Le.and {G' G : GZ} (h : GZ.Le G' G) (an : Nat → Nat → Bool) (j : Nat) (p : World → Prop) : GZ.Le (G'.and an j p) (G.and an j p) := ⟨fun i w ⟨a, b⟩ => ⟨h.g i w a, b⟩, h.z⟩
theorem zI_mono {z z' : Nat → Prop} {w w1 w' : World} (h : ∀ b, z b → z' b) (hw : w.heap.size ≤ w1.heap.size) : ∀ b, zI z w1 w' b → zI z' w w' b := fun b hb => hb.imp (h b) fun ⟨h1, h2⟩ => ⟨Nat.le_trans hw h1, h2⟩
theorem zX_mono {z z' : Nat → Prop} {c : Nat} (h : ∀ b, z b → z' b) : ∀ b, zX z c b → zX z' c b := fun b hb => ⟨h b hb.1, hb.2⟩
theorem KeepZ.mono {z z' : Nat → Prop} {w w' : World} (h : ∀ b, z b → z' b) (k : KeepZ z' w w') : KeepZ z w w' := ⟨k.1, fun b hb => k.2 b (h b hb)⟩

theorem wpC_mono {l : List Nat} : ∀ {G G' : GZ} {a : Act} {w : World}, GZ.Le G' G → wpC B P ops an kd R l G' a w → wpC B P ops an kd R l G a w := by
  induction l with
  | nil => intro G G' a w _ h; exact h
  | cons i l ih =>
    intro G G' a w hG h
    simp only [wpC] at h ⊢
    cases ho : ops[i]? with
    | none => rw [ho] at h; exact h.elim
    | some o =>
      rw [ho] at h
      simp only at h ⊢
      by_cases hw : Region.wanted o (yielded ops a.tmps) = true
      · rw [if_pos hw] at h ⊢
        cases hk : kd i <;> rw [hk] at h <;> simp only at h ⊢
        · obtain ⟨v, h1, h2⟩ := h; exact ⟨v, h1, ih hG h2⟩
        · obtain ⟨v, h1, h2⟩ := h; exact ⟨v, h1, ih hG h2⟩
        · exact fun w' e' => let ⟨v, w'', h1, h2, h3⟩ := h w' e'; ⟨v, w'', h1, h2, ih (.to hG.g (zI_mono hG.z (Nat.le_refl _))) h3⟩
        · exact fun w' e' => wp_noexit (fun a' w'' ⟨h1, h2⟩ => ⟨hG.g _ _ h1, ih (.to hG.g fun _ h => h) h2⟩) (h w' e')
        · obtain ⟨v, h1, h2⟩ := h; exact ⟨v, h1, ih hG h2⟩
        · exact fun w' e' => let ⟨b, w'', h1, h2, h3, h4⟩ := h w' e'; ⟨b, w'', h1, h2, h3, ih (.to hG.g fun _ h => h) h4⟩
        · obtain ⟨v, h1, h2⟩ := h; exact ⟨v, h1, ih (hG.and _ _ _) h2⟩
        · obtain ⟨fv, ob, h1, h2⟩ := h
          exact ⟨fv, ob, h1, fun b w' e' hb hc => ih (.to hG.g (zX_mono (zI_mono hG.z (Nat.le_refl _)))) (h2 b w' e' (hb.imp (hG.z b) id) hc)⟩
        · exact fun w' e' => wp_noexit (fun a' w'' ⟨h1, hz, h2⟩ => ⟨hG.g _ _ h1, hz.mono (zI_mono hG.z (Nat.le_refl _)), ih (.to hG.g (zI_mono hG.z (Nat.le_refl _))) h2⟩) (h w' e')
      · rw [if_neg hw] at h ⊢; exact ih hG h

theorem ext_alloc (w : World) (o : Obj) : Ext w (w.alloc o) := (Below.refl _ w).alloc (Nat.le_refl _) o

/-- A pure operation may be taken first. -/
theorem pullPure {i : Nat} {oi : Oper} {s : List Nat} (hi : ops[i]? = some oi) (hsel : NoSel ops) (hp : ∀ (G : GZ) (a : Act) (w : World), wpC B P ops an kd R (i :: s) G a w → ∃ v, PureAt P ops oi a v ∧ wpC B P ops an kd R s G (a.put oi.dst v) w) :
    ∀ (p : List Nat), (∀ j ∈ p, ∀ oj, ops[j]? = some oj → oi.apart ops oj = true) → ∀ (G : GZ) (a : Act) (w : World), wpC B P ops an kd R (p ++ i :: s) G a w →
      ∃ v, PureAt P ops oi a v ∧ wpC B P ops an kd R (p ++ s) G (a.put oi.dst v) w := by
  intro p
  induction p with
  | nil => intro _ G a w h; exact hp G a w h
  | cons j p ih =>
    intro hap G a w h
    have ih := ih (fun j' hj' => hap j' (List.mem_cons_of_mem _ hj'))
    simp only [List.cons_append, wpC] at h
    cases hj : ops[j]? with
    | none => rw [hj] at h; exact h.elim
    | some oj =>
      rw [hj] at h
      simp only at h
      obtain ⟨h1, h2, h3⟩ := apart3 (hap j List.mem_cons_self oj hj)
      have hsi := fun cs b => hsel i oi cs b hi
      have hsj := fun cs b => hsel j oj cs b hj
      have back : ∀ (G : GZ) (v u : Value), wpC B P ops an kd R (p ++ s) G ((a.put oj.dst u).put oi.dst v) = wpC B P ops an kd R (p ++ s) G ((a.put oi.dst v).put oj.dst u) := fun G v u => by
        rw [Act.put_comm a v u h2]
      by_cases hw : Region.wanted oj (yielded ops a.tmps) = true
      · rw [if_pos hw] at h
        have hw' : ∀ v, Region.wanted oj (yielded ops (a.put oi.dst v).tmps) = true := fun v => by rw [wanted_put oj a oi.dst v h1]; exact hw
        cases hk : kd j <;> rw [hk] at h <;> simp only at h
        · obtain ⟨u, hu, hr⟩ := h
          obtain ⟨v, hv, hr⟩ := ih _ _ _ hr
          refine ⟨v, (PureAt.put hsi h3).1 hv, ?_⟩
          simp only [List.cons_append, wpC, hj, hk]
          rw [if_pos (hw' v)]
          exact ⟨u, by rw [execOp_put oj hsj a oi.dst v h1]; exact hu, by rw [← back]; exact hr⟩
        · obtain ⟨u, hu, hr⟩ := h
          obtain ⟨v, hv, hr⟩ := ih _ _ _ hr
          refine ⟨v, (PureAt.put hsi h3).1 hv, ?_⟩
          simp only [List.cons_append, wpC, hj, hk]
          rw [if_pos (hw' v)]
          exact ⟨u, fun w' e => by
            have := hu w' e
            unfold Oper.quietAt at this ⊢
            rw [execOp_put oj hsj a oi.dst v h1]; exact this, by rw [← back]; exact hr⟩
        · obtain ⟨u, w'', hu, he, hr⟩ := h w (Ext.refl w)
          obtain ⟨v, hv, _⟩ := ih _ _ _ hr
          have hv0 := (PureAt.put hsi h3).1 hv
          refine ⟨v, hv0, ?_⟩
          simp only [List.cons_append, wpC, hj, hk]
          rw [if_pos (hw' v)]
          intro w' e
          obtain ⟨u, w'', hu, he, hr⟩ := h w' e
          obtain ⟨v', hv', hr⟩ := ih _ _ _ hr
          have := PureAt.unique w hv0 ((PureAt.put hsi h3).1 hv')
          subst this
          exact ⟨u, w'', by rw [execOp_put oj hsj a oi.dst v h1]; exact hu, he, by rw [← back]; exact hr⟩
        · obtain ⟨a', w', hra, _, hr⟩ := wp_exists (wp_reach (h w (Ext.refl w)))
          obtain ⟨v, hv, _⟩ := ih _ _ _ hr
          have hv0 := (PureAt.reach hsi h3 hra).1 hv
          refine ⟨v, hv0, ?_⟩
          simp only [List.cons_append, wpC, hj, hk]
          rw [if_pos (hw' v)]
          intro w' e
          refine wp_push hsj h1 h2 (wp_noexit (fun a' w'' ⟨hra, hg, hr⟩ => ?_) (wp_reach (h w' e)))
          obtain ⟨v', hv', hr⟩ := ih _ _ _ hr
          have := PureAt.unique w hv0 ((PureAt.reach hsi h3 hra).1 hv')
          subst this
          exact ⟨hg, hr⟩
        · obtain ⟨u, hu, hr⟩ := h
          obtain ⟨v, hv, hr⟩ := ih _ _ _ hr
          refine ⟨v, (PureAt.put hsi h3).1 hv, ?_⟩
          simp only [List.cons_append, wpC, hj, hk]
          rw [if_pos (hw' v)]
          exact ⟨u, by rw [execOp_put oj hsj a oi.dst v h1]; exact hu, by rw [← back]; exact hr⟩
        · obtain ⟨b, w'', hb, hu, he, hr⟩ := h w (Ext.refl w)
          obtain ⟨v, hv, _⟩ := ih _ _ _ hr
          have hv0 := (PureAt.put hsi h3).1 hv
          refine ⟨v, hv0, ?_⟩
          simp only [List.cons_append, wpC, hj, hk]
          rw [if_pos (hw' v)]
          intro w' e
          obtain ⟨b, w'', hb, hu, he, hr⟩ := h w' e
          obtain ⟨v', hv', hr⟩ := ih _ _ _ hr
          have := PureAt.unique w hv0 ((PureAt.put hsi h3).1 hv')
          subst this
          exact ⟨b, w'', hb, by rw [execOp_put oj hsj a oi.dst v h1]; exact hu, he, by rw [← back]; exact hr⟩
        · obtain ⟨u, hu, hr⟩ := h
          obtain ⟨v, hv, hr⟩ := ih _ _ _ hr
          refine ⟨v, (PureAt.put hsi h3).1 hv, ?_⟩
          simp only [List.cons_append, wpC, hj, hk]
          rw [if_pos (hw' v)]
          rw [execOp_put oj hsj a oi.dst v h1]
          exact ⟨u, hu, by rw [← back]; exact hr⟩
        · obtain ⟨fv, ob, hu, hr⟩ := h
          have hb0 : (w.alloc ob).heap[w.heap.size]? = some ob := World.alloc_heap_new w _
          obtain ⟨v, hv, _⟩ := ih _ _ _ (hr _ _ (ext_alloc w ob) (.inr (Nat.le_refl _)) hb0)
          have hv0 := (PureAt.put hsi h3).1 hv
          refine ⟨v, hv0, ?_⟩
          simp only [List.cons_append, wpC, hj, hk]
          rw [if_pos (hw' v), execOp_put oj hsj a oi.dst v h1]
          refine ⟨fv, ob, hu, fun b w' e hb hc => ?_⟩
          obtain ⟨v', hv', hr⟩ := ih _ _ _ (hr b w' e hb hc)
          have := PureAt.unique w hv0 ((PureAt.put hsi h3).1 hv')
          subst this
          rw [← back]; exact hr
        · obtain ⟨a', w', hra, _, _, hr⟩ := wp_exists (wp_reach (h w (Ext.refl w)))
          obtain ⟨v, hv, _⟩ := ih _ _ _ hr
          have hv0 := (PureAt.reach hsi h3 hra).1 hv
          refine ⟨v, hv0, ?_⟩
          simp only [List.cons_append, wpC, hj, hk]
          rw [if_pos (hw' v)]
          intro w' e
          refine wp_push hsj h1 h2 (wp_noexit (fun a' w'' ⟨hra, hg, hz, hr⟩ => ?_) (wp_reach (h w' e)))
          obtain ⟨v', hv', hr⟩ := ih _ _ _ hr
          have := PureAt.unique w hv0 ((PureAt.reach hsi h3 hra).1 hv')
          subst this
          exact ⟨hg, hz, hr⟩
      · rw [if_neg hw] at h
        obtain ⟨v, hv, hr⟩ := ih _ _ _ h
        refine ⟨v, (PureAt.put hsi h3).1 hv, ?_⟩
        have hw' : ¬ Region.wanted oj (yielded ops (a.put oi.dst v).tmps) = true := by rw [wanted_put oj a oi.dst v h1]; exact hw
        simp only [List.cons_append, wpC, hj]
        rw [if_neg hw', ← back]
        exact hr

/-- What a box that is laid ahead of its turn is. -/
theorem pullAlc {i : Nat} {oi : Oper} {s : List Nat} {fv : Nat → Value} {ob : Obj} (hi : ops[i]? = some oi) (hsel : NoSel ops) (hki : kd i = .alc) :
    ∀ (p : List Nat), (∀ j ∈ p, (∀ oj, ops[j]? = some oj → oi.apart ops oj = true) ∧ kdB (kd j) .alc = true) → ∀ (G : GZ) (a : Act) (w w0 : World) (b : Nat), Region.wanted oi (yielded ops a.tmps) = true → (∀ w', (execOp a.eval oi).run P w' = .ok (.value (fv w'.heap.size)) (w'.alloc ob)) →
      wpC B P ops an kd R (p ++ i :: s) G a w → Ext w w0 → (G.z b ∨ w.heap.size ≤ b) → w0.heap[b]? = some ob → wpC B P ops an kd R (p ++ s) (G.to (zX G.z b)) (a.put oi.dst (fv b)) w0 := by
  have hsi := fun cs b => hsel i oi cs b hi
  intro p
  induction p with
  | nil =>
    intro _ G a w w0 b hw hrun h e hb hc
    simp only [List.nil_append, wpC, hi] at h
    rw [if_pos hw, hki] at h
    obtain ⟨fv', ob', hrun', h⟩ := h
    have hfv : fv b = fv' b := by
      have := (hrun { w with heap := Array.replicate b ob }).symm.trans (hrun' { w with heap := Array.replicate b ob })
      injection this with this _
      injection this with this
      simpa using this
    have := (hrun w).symm.trans (hrun' w)
    injection this with _ this
    have hx : (w.alloc ob).heap[w.heap.size]? = (w.alloc ob').heap[w.heap.size]? := by rw [this]
    rw [World.alloc_heap_new, World.alloc_heap_new] at hx
    injection hx with hx
    subst hx
    rw [hfv]
    exact wpC_mono (.to (fun _ _ h => h) (zX_mono fun _ h => .inl h)) (h b w0 e hb hc)
  | cons j p ih =>
    intro hcm G a w w0 b hwi hrun h e hb hc
    have ih := ih (fun j' hj' => hcm j' (List.mem_cons_of_mem _ hj'))
    have hblt : b < w0.heap.size := (Array.getElem?_eq_some_iff.1 hc).1
    obtain ⟨hap, hkk⟩ := hcm j List.mem_cons_self
    simp only [List.cons_append, wpC] at h ⊢
    cases hj : ops[j]? with
    | none => rw [hj] at h; exact h.elim
    | some oj =>
      rw [hj] at h
      simp only at h ⊢
      obtain ⟨h1, h2, h3⟩ := apart3 (hap oj hj)
      have hsj := fun cs b => hsel j oj cs b hj
      have keepw : ∀ u, Region.wanted oi (yielded ops (a.put oj.dst u).tmps) = true := fun u => by rw [wanted_put oi a oj.dst u h3]; exact hwi
      have keepr : ∀ u w', (execOp (a.put oj.dst u).eval oi).run P w' = .ok (.value (fv w'.heap.size)) (w'.alloc ob) := fun u w' => by rw [execOp_put oi hsi a oj.dst u h3]; exact hrun w'
      have step : ∀ (G' : GZ) u w1 w2, wpC B P ops an kd R (p ++ i :: s) G' (a.put oj.dst u) w1 → Ext w1 w2 → (G'.z b ∨ w1.heap.size ≤ b) → w2.heap[b]? = some ob → wpC B P ops an kd R (p ++ s) (G'.to (zX G'.z b)) ((a.put oi.dst (fv b)).put oj.dst u) w2 := fun G' u w1 w2 hr e' hb' hc' => by
        rw [Act.put_comm a _ u h2]
        exact ih G' (a.put oj.dst u) w1 w2 b (keepw u) (keepr u) hr e' hb' hc'
      rw [wanted_put oj a oi.dst _ h1, execOp_put oj hsj a oi.dst _ h1]
      have inI : ∀ w' : World, Ext w0 w' → zI G.z w w' b := fun w' e' => hb.imp id fun h => ⟨h, Nat.lt_of_lt_of_le hblt e'.size⟩
      have at' : ∀ w' : World, Ext w0 w' → w'.heap[b]? = some ob := fun w' e' => by rw [e'.blk hblt]; exact hc
      have zle : ∀ (w' : World) c, zI (zX G.z b) w0 w' c → zX (zI G.z w w') b c := fun w' c hz => by
        rcases hz with ⟨hz, hne⟩ | ⟨hz1, hz2⟩
        · exact ⟨.inl hz, hne⟩
        · exact ⟨.inr ⟨Nat.le_trans e.size hz1, hz2⟩, by omega⟩
      by_cases hw : Region.wanted oj (yielded ops a.tmps) = true
      · rw [if_pos hw] at h ⊢
        cases hkj : kd j <;> rw [hkj] at h hkk <;> simp only at h ⊢
        · obtain ⟨u, hu, hr⟩ := h; exact ⟨u, hu, step _ u w w0 hr e hb hc⟩
        · obtain ⟨u, hu, hr⟩ := h
          exact ⟨u, fun w' e' => by
            have := hu w' (e.trans e')
            unfold Oper.quietAt at this ⊢
            rw [execOp_put oj hsj a oi.dst _ h1]; exact this, step _ u w w0 hr e hb hc⟩
        · intro w' e'
          obtain ⟨u, w'', hu, he, hr⟩ := h w' (e.trans e')
          exact ⟨u, w'', hu, he, wpC_mono (.to (fun _ _ h => h) (zle w')) (step _ u w'' w'' hr (Ext.refl _) (.inl (inI w' e')) (at' _ (e'.trans he)))⟩
        · cases hkk
        · obtain ⟨u, hu, hr⟩ := h; exact ⟨u, fun w' e' => hu w' ((ExtB.of e).trans e'), step _ u w w0 hr e hb hc⟩
        · cases hkk
        · obtain ⟨u, hu, hr⟩ := h; exact ⟨u, fun w' e' => hu w' (e.trans e'), step _ u w w0 hr e hb hc⟩
        · obtain ⟨fv', ob', hu, hr⟩ := h
          refine ⟨fv', ob', hu, fun b' w' e' hb' hc' => ?_⟩
          have hne : b ≠ b' := by
            rcases hb' with ⟨_, h⟩ | h
            · exact fun e => h e.symm
            · omega
          have := step _ _ w' w' (hr b' w' (e.trans e') (hb'.imp (fun h => h.1) (Nat.le_trans e.size)) hc') (Ext.refl _) (.inl ⟨inI w' e', hne⟩) (at' _ e')
          refine wpC_mono (.to (fun _ _ h => h) fun c hz => ?_) this
          obtain ⟨h4, h5⟩ := zle w' c hz.1
          exact ⟨⟨h4, hz.2⟩, h5⟩
        · intro w' e'
          refine wp_push hsj h1 h2 (wp_noexit (fun a' w'' ⟨hra, hg, hz, hr⟩ => ⟨hg, hz.mono fun c hz => (zle w' c hz).1, ?_⟩) (wp_reach (h w' (e.trans e'))))
          have hbz := inI w' e'
          refine wpC_mono (.to (fun _ _ h => h) (zle w')) (ih _ a' w'' w'' b ?_ ?_ hr (Ext.refl _) (.inl hbz) ((hz.2 b hbz).trans (at' _ e')))
          · rcases hra with ⟨u, rfl⟩ | ⟨d, rfl⟩
            · exact keepw u
            · rw [wanted_put oi _ oj.dst undef h3]; exact hwi
          · intro w3
            rcases hra with ⟨u, rfl⟩ | ⟨d, rfl⟩
            · exact keepr u w3
            · rw [execOp_put oi hsi _ oj.dst undef h3]
              exact hrun w3
      · rw [if_neg hw] at h ⊢
        exact step _ undef w w0 h e hb hc

/-- What becomes of the world that is known when 'i' is taken. -/
def Went (B : Nat → Prop) (P : Program) (ops : Array Oper) (an : Nat → Nat → Bool) (kd : Nat → Kd) (R : Act → World → Prop) (G : GZ) (i : Nat) (l : List Nat) (w : World) (a' : Act) (w' : World) : Prop :=
  ∃ w1 z, Ext w1 w' ∧ (mild (kd i) = true → Ext w w1) ∧ (kd i = .lst → ExtB B w w1) ∧ (huge (kd i) = true → G.g i w1) ∧ wpC B P ops an kd R l (G.to z) a' w1

def Went0 (B : Nat → Prop) (P : Program) (ops : Array Oper) (an : Nat → Nat → Bool) (kd : Nat → Kd) (R : Act → World → Prop) (G : GZ) (l : List Nat) (a' : Act) (w' : World) : Prop :=
  ∃ w1 z, Ext w1 w' ∧ wpC B P ops an kd R l (G.to z) a' w1

/-- A box is laid alike wherever it is laid. -/
theorem alcAt {i : Nat} {oi : Oper} {s : List Nat} (hi : ops[i]? = some oi) (hsel : NoSel ops) (hki : kd i = .alc) :
    ∀ (p : List Nat), (∀ j ∈ p, ∀ oj, ops[j]? = some oj → oi.apart ops oj = true) → ∀ (G : GZ) (a : Act) (w : World), Region.wanted oi (yielded ops a.tmps) = true → wpC B P ops an kd R (p ++ i :: s) G a w →
      ∃ (fv : Nat → Value) (ob : Obj), ∀ w', (execOp a.eval oi).run P w' = .ok (.value (fv w'.heap.size)) (w'.alloc ob) := by
  have hsi := fun cs b => hsel i oi cs b hi
  intro p
  induction p with
  | nil =>
    intro _ G a w hw h
    simp only [List.nil_append, wpC, hi] at h
    rw [if_pos hw, hki] at h
    obtain ⟨fv, ob, h, _⟩ := h
    exact ⟨fv, ob, h⟩
  | cons j p ih =>
    intro hap G a w hwi h
    have ih := ih (fun j' hj' => hap j' (List.mem_cons_of_mem _ hj'))
    simp only [List.cons_append, wpC] at h
    cases hj : ops[j]? with
    | none => rw [hj] at h; exact h.elim
    | some oj =>
      rw [hj] at h
      simp only at h
      obtain ⟨h1, h2, h3⟩ := apart3 (hap j List.mem_cons_self oj hj)
      have go : ∀ (G : GZ) a' w1, Reach oj a a' → wpC B P ops an kd R (p ++ i :: s) G a' w1 → ∃ (fv : Nat → Value) (ob : Obj), ∀ w', (execOp a.eval oi).run P w' = .ok (.value (fv w'.heap.size)) (w'.alloc ob) := fun G a' w1 hra hr => by
        rcases hra with ⟨u, rfl⟩ | ⟨d, rfl⟩
        · obtain ⟨fv, ob, h⟩ := ih G _ w1 (by rw [wanted_put oi a oj.dst u h3]; exact hwi) hr
          rw [execOp_put oi hsi a oj.dst u h3] at h
          exact ⟨fv, ob, h⟩
        · obtain ⟨fv, ob, h⟩ := ih G _ w1 (by rw [wanted_put oi _ oj.dst undef h3]; exact hwi) hr
          rw [execOp_put oi hsi _ oj.dst undef h3] at h
          exact ⟨fv, ob, h⟩
      by_cases hw : Region.wanted oj (yielded ops a.tmps) = true
      · rw [if_pos hw] at h
        cases hkj : kd j <;> rw [hkj] at h <;> simp only at h
        · obtain ⟨u, hu, hr⟩ := h; exact go _ _ _ (.inl ⟨u, rfl⟩) hr
        · obtain ⟨u, hu, hr⟩ := h; exact go _ _ _ (.inl ⟨u, rfl⟩) hr
        · obtain ⟨u, w'', hu, he, hr⟩ := h w (Ext.refl _); exact go _ _ _ (.inl ⟨u, rfl⟩) hr
        · obtain ⟨a', w', hra, _, hr⟩ := wp_exists (wp_reach (h w (Ext.refl w))); exact go _ _ _ hra hr
        · obtain ⟨u, hu, hr⟩ := h; exact go _ _ _ (.inl ⟨u, rfl⟩) hr
        · obtain ⟨b, w'', hb, hu, he, hr⟩ := h w (Ext.refl w); exact go _ _ _ (.inl ⟨_, rfl⟩) hr
        · obtain ⟨u, hu, hr⟩ := h; exact go _ _ _ (.inl ⟨u, rfl⟩) hr
        · obtain ⟨fv, ob, hu, hr⟩ := h
          exact go _ _ _ (.inl ⟨_, rfl⟩) (hr _ _ (ext_alloc w ob) (.inr (Nat.le_refl _)) (World.alloc_heap_new w _))
        · obtain ⟨a', w', hra, _, _, hr⟩ := wp_exists (wp_reach (h w (Ext.refl w))); exact go _ _ _ hra hr
      · rw [if_neg hw] at h
        exact go _ _ _ (.inl ⟨_, rfl⟩) h

/-- Any operation that may be taken first. -/
theorem pull {i : Nat} {oi : Oper} {s : List Nat} (hi : ops[i]? = some oi) (hsel : NoSel ops) :
    ∀ (p : List Nat), (∀ j ∈ p, Comm ops an kd j i) → ∀ (G : GZ) (a : Act) (w w0 : World), wpC B P ops an kd R (p ++ i :: s) G a w → Ext w w0 →
      if Region.wanted oi (yielded ops a.tmps) then oi.wp P a w0 (Went B P ops an kd R G i (p ++ s) w) NoExit else Went0 B P ops an kd R G (p ++ s) (a.put oi.dst undef) w0 := by
  have hsi := fun cs b => hsel i oi cs b hi
  have base : ∀ (G : GZ) (a : Act) (w w0 : World), wpC B P ops an kd R (i :: s) G a w → Ext w w0 →
      if Region.wanted oi (yielded ops a.tmps) then oi.wp P a w0 (Went B P ops an kd R G i s w) NoExit else Went0 B P ops an kd R G s (a.put oi.dst undef) w0 := by
    intro G a w w0 h e
    simp only [wpC, hi] at h
    by_cases hw : Region.wanted oi (yielded ops a.tmps) = true
    · rw [if_pos hw] at h ⊢
      cases hk : kd i <;> rw [hk] at h <;> simp only at h
      · obtain ⟨v, hv, hr⟩ := h
        unfold Oper.wp
        rw [hv w0]
        exact ⟨w, G.z, e, fun _ => Ext.refl w, fun _ => ExtB.refl B w, fun hb => by (rw [hk] at hb; cases hb), hr⟩
      · obtain ⟨v, hv, hr⟩ := h
        have h3 := hv w0 e
        unfold Oper.quietAt at h3
        unfold Oper.wp
        have hnb : huge (kd i) = true → G.g i w := fun hb => by rw [hk] at hb; cases hb
        generalize (execOp a.eval oi).run P w0 = r at *
        cases r with
        | ok n w' =>
          cases n <;> simp only [Oper.quietUpon] at h3 <;> simp only [Oper.upon]
          case value u => obtain ⟨rfl, rfl⟩ := h3; exact ⟨w, G.z, e, fun _ => Ext.refl w, fun _ => ExtB.refl B w, hnb, hr⟩
          case skip => obtain ⟨rfl, rfl⟩ := h3; exact ⟨w, G.z, e, fun _ => Ext.refl w, fun _ => ExtB.refl B w, hnb, hr⟩
          case enter f args =>
            obtain ⟨rfl, hc⟩ := h3
            exact hc.mono fun e' w'' ⟨he, hw''⟩ => by subst he; exact ⟨w, G.z, e.trans hw'', fun _ => Ext.refl w, fun _ => ExtB.refl B w, hnb, hr⟩
        | halt x w' => simp only [Oper.quietUpon] at h3
      · obtain ⟨v, w'', hv, he, hr⟩ := h w0 e
        unfold Oper.wp
        rw [hv]
        exact ⟨w'', _, Ext.refl _, fun _ => e.trans he, fun _ => .of (e.trans he), fun hb => by (rw [hk] at hb; cases hb), hr⟩
      · exact wp_noexit (fun a' w'' ⟨hg, hr⟩ => ⟨w'', _, Ext.refl _, fun hb => by (rw [hk] at hb; cases hb), fun hb => by (rw [hk] at hb; cases hb), fun _ => hg, hr⟩) (h w0 e)
      · obtain ⟨v, hv, hr⟩ := h
        unfold Oper.wp
        rw [hv w0 (.of e)]
        exact ⟨w, G.z, e, fun _ => Ext.refl w, fun _ => ExtB.refl B w, fun hb => by (rw [hk] at hb; cases hb), hr⟩
      · obtain ⟨b, w'', hb, hv, he, hr⟩ := h w0 e
        unfold Oper.wp
        rw [hv]
        exact ⟨w'', _, Ext.refl _, fun hb => by (rw [hk] at hb; cases hb), fun _ => (ExtB.of e).trans (.off he hb), fun hb => by (rw [hk] at hb; cases hb), hr⟩
      · obtain ⟨v, hv, hr⟩ := h
        unfold Oper.wp
        rw [hv w0 e]
        exact ⟨w, G.z, e, fun _ => Ext.refl w, fun _ => ExtB.refl B w, fun hb => by (rw [hk] at hb; cases hb), wpC_mono (G' := G.and _ _ _) ⟨fun _ _ h => And.left h, fun _ h => h⟩ hr⟩
      · obtain ⟨fv, ob, hrun, hr⟩ := h
        unfold Oper.wp
        rw [hrun]
        have ea := ext_alloc w0 ob
        exact ⟨_, _, Ext.refl _, fun _ => e.trans ea, fun _ => .of (e.trans ea), fun hb => by (rw [hk] at hb; cases hb), hr _ _ (e.trans ea) (.inr e.size) (World.alloc_heap_new w0 _)⟩
      · exact wp_noexit (fun a' w'' ⟨hg, _, hr⟩ => ⟨w'', _, Ext.refl _, fun hb => by (rw [hk] at hb; cases hb), fun hb => by (rw [hk] at hb; cases hb), fun _ => hg, hr⟩) (h w0 e)
    · rw [if_neg hw] at h ⊢
      exact ⟨w, G.z, e, h⟩
  intro p
  induction p with
  | nil => intro _ G a w w0 h e; exact base G a w w0 h e
  | cons j p ih =>
    intro hcm G a w w0 h e
    have ih := ih (fun j' hj' => hcm j' (List.mem_cons_of_mem _ hj'))
    have cm := hcm j List.mem_cons_self
    -- a pure one, or one that is passed over
    by_cases hpure : Region.wanted oi (yielded ops a.tmps) = false ∨ kd i = .pure
    · have hall : ∀ (G : GZ) (a : Act) (w : World), (Region.wanted oi (yielded ops a.tmps) = false ∨ kd i = .pure) → wpC B P ops an kd R (i :: s) G a w → ∃ v, PureAt P ops oi a v ∧ wpC B P ops an kd R s G (a.put oi.dst v) w := by
        intro G a w hq h
        simp only [wpC, hi] at h
        by_cases hw : Region.wanted oi (yielded ops a.tmps) = true
        · rw [if_pos hw] at h
          rcases hq with hq | hq
          · rw [hq] at hw; cases hw
          · rw [hq] at h; obtain ⟨v, h1, h2⟩ := h; exact ⟨v, .inl ⟨hw, h1⟩, h2⟩
        · rw [if_neg hw] at h; exact ⟨undef, .inr ⟨by simpa using hw, rfl⟩, h⟩
      -- pulled through, frame by frame
      have go : ∀ (p : List Nat), (∀ j ∈ p, ∀ oj, ops[j]? = some oj → oi.apart ops oj = true) → ∀ (G : GZ) (a : Act) (w : World), (Region.wanted oi (yielded ops a.tmps) = false ∨ kd i = .pure) → wpC B P ops an kd R (p ++ i :: s) G a w →
          ∃ v, PureAt P ops oi a v ∧ wpC B P ops an kd R (p ++ s) G (a.put oi.dst v) w := by
        rcases Classical.em (kd i = .pure) with hk | hk
        · intro p hap G a w _ h
          exact pullPure hi hsel (fun G a w h => hall G a w (.inr hk) h) p hap G a w h
        · -- passed over: as a pure one whose kind is 'pure': the kinds of others stay
          intro p hap G a w hq0 h0
          replace hq0 : Region.wanted oi (yielded ops a.tmps) = false := hq0.resolve_right hk
          clear e ih
          revert h0 hq0
          revert G a w
          induction p with
          | nil => intro G a w h hq; exact hall G a w (.inl hq) h
          | cons j p ihp =>
            intro G a w h hq
            have ihp := ihp (fun j' hj' => hap j' (List.mem_cons_of_mem _ hj'))
            refine ⟨undef, .inr ⟨hq, rfl⟩, ?_⟩
            simp only [List.cons_append, wpC] at h ⊢
            cases hj : ops[j]? with
            | none => rw [hj] at h; exact h.elim
            | some oj =>
              rw [hj] at h
              simp only at h ⊢
              obtain ⟨h1, h2, h3⟩ := apart3 (hap j List.mem_cons_self oj hj)
              have hsj := fun cs b => hsel j oj cs b hj
              have back : ∀ (G : GZ) (u : Value), wpC B P ops an kd R (p ++ s) G ((a.put oj.dst u).put oi.dst undef) = wpC B P ops an kd R (p ++ s) G ((a.put oi.dst undef).put oj.dst u) := fun G u => by
                rw [Act.put_comm a undef u h2]
              have keep : ∀ u, Region.wanted oi (yielded ops (a.put oj.dst u).tmps) = false := fun u => by rw [wanted_put oi a oj.dst u h3]; exact hq
              have step : ∀ G u w1, wpC B P ops an kd R (p ++ i :: s) G (a.put oj.dst u) w1 → wpC B P ops an kd R (p ++ s) G ((a.put oi.dst undef).put oj.dst u) w1 := fun G u w1 hr => by
                obtain ⟨v, hv, hr⟩ := ihp _ _ _ hr (keep u)
                rcases hv with ⟨hv, _⟩ | ⟨_, rfl⟩
                · rw [keep u] at hv; cases hv
                · rw [← back]; exact hr
              have stepr : ∀ a', Reach oj a a' → ∀ (G : GZ) w1, wpC B P ops an kd R (p ++ i :: s) G a' w1 → wpC B P ops an kd R (p ++ s) G (a'.put oi.dst undef) w1 := fun a' hra G w1 hr => by
                have hq' : Region.wanted oi (yielded ops a'.tmps) = false := by
                  rcases hra with ⟨u, rfl⟩ | ⟨d, rfl⟩
                  · exact keep u
                  · rw [wanted_put oi _ oj.dst undef h3]; exact hq
                obtain ⟨v, hv, hr⟩ := ihp _ _ _ hr hq'
                rcases hv with ⟨hv, _⟩ | ⟨_, rfl⟩
                · rw [hq'] at hv; cases hv
                · exact hr
              rw [wanted_put oj a oi.dst undef h1, execOp_put oj hsj a oi.dst undef h1]
              by_cases hw : Region.wanted oj (yielded ops a.tmps) = true
              · rw [if_pos hw] at h ⊢
                cases hkj : kd j <;> rw [hkj] at h <;> simp only at h ⊢
                · obtain ⟨u, hu, hr⟩ := h; exact ⟨u, hu, step _ u w hr⟩
                · obtain ⟨u, hu, hr⟩ := h
                  exact ⟨u, fun w' e => by
                    have := hu w' e
                    unfold Oper.quietAt at this ⊢
                    rw [execOp_put oj hsj a oi.dst undef h1]; exact this, step _ u w hr⟩
                · intro w' e
                  obtain ⟨u, w'', hu, he, hr⟩ := h w' e
                  exact ⟨u, w'', hu, he, step _ u w'' hr⟩
                · intro w' e
                  refine wp_push hsj h1 h2 (wp_noexit (fun a' w'' ⟨hra, hg, hr⟩ => ⟨hg, stepr a' hra _ _ hr⟩) (wp_reach (h w' e)))
                · obtain ⟨u, hu, hr⟩ := h; exact ⟨u, hu, step _ u w hr⟩
                · intro w' e
                  obtain ⟨b, w'', hb, hu, he, hr⟩ := h w' e
                  exact ⟨b, w'', hb, hu, he, step _ undef w'' hr⟩
                · obtain ⟨u, hu, hr⟩ := h; exact ⟨u, hu, step _ u w hr⟩
                · obtain ⟨fv, ob, hu, hr⟩ := h
                  exact ⟨fv, ob, hu, fun b w' e hb hc => step _ _ w' (hr b w' e hb hc)⟩
                · intro w' e
                  refine wp_push hsj h1 h2 (wp_noexit (fun a' w'' ⟨hra, hg, hz, hr⟩ => ⟨hg, hz, stepr a' hra _ _ hr⟩) (wp_reach (h w' e)))
              · rw [if_neg hw] at h ⊢
                exact step _ undef w h
      obtain ⟨v, hv, hr⟩ := go (j :: p) (fun j' hj' oj hoj => (hcm j' hj').apart oj oi hoj hi) G a w hpure h
      rcases hv with ⟨hw, hv⟩ | ⟨hw, rfl⟩
      · rw [if_pos hw]
        have hkp : kd i = .pure := by
          rcases hpure with hq | hq
          · rw [hq] at hw; cases hw
          · exact hq
        unfold Oper.wp
        rw [hv w0]
        exact ⟨w, G.z, e, fun _ => Ext.refl w, fun _ => ExtB.refl B w, fun hb => by (rw [hkp] at hb; cases hb), hr⟩
      · rw [if_neg (by rw [hw]; exact Bool.false_ne_true)]
        exact ⟨w, G.z, e, hr⟩
    · -- it looks at memory, or makes, or writes some
      have hwi : Region.wanted oi (yielded ops a.tmps) = true := by
        cases hb : Region.wanted oi (yielded ops a.tmps) with
        | true => rfl
        | false => exact absurd (.inl hb) hpure
      have hki : kd i ≠ .pure := fun hk => hpure (.inr hk)
      rw [if_pos hwi]
      by_cases hal : kd i = .alc
      · -- a box
        have hrun : ∃ (fv : Nat → Value) (ob : Obj), ∀ w', (execOp a.eval oi).run P w' = .ok (.value (fv w'.heap.size)) (w'.alloc ob) :=
          alcAt hi hsel hal (j :: p) (fun j' hj' oj hoj => (hcm j' hj').apart oj oi hoj hi) G a w hwi h
        obtain ⟨fv, ob, hrun⟩ := hrun
        have ea := ext_alloc w0 ob
        unfold Oper.wp
        rw [hrun]
        exact ⟨_, zX G.z w0.heap.size, Ext.refl _, fun _ => e.trans ea, fun _ => .of (e.trans ea), fun hb => by (rw [hal] at hb; cases hb),
          pullAlc hi hsel hal (j :: p) (fun j' hj' => ⟨fun oj hoj => (hcm j' hj').apart oj oi hoj hi, hal ▸ (hcm j' hj').k⟩) G a w _ _ hwi hrun h (e.trans ea) (.inr e.size) (World.alloc_heap_new w0 _)⟩
      simp only [List.cons_append, wpC] at h
      cases hj : ops[j]? with
      | none => rw [hj] at h; exact h.elim
      | some oj =>
        rw [hj] at h
        simp only at h
        obtain ⟨h1, h2, h3⟩ := apart3 (cm.apart oj oi hj hi)
        have hsj := fun cs b => hsel j oj cs b hj
        have hwi' : ∀ u, Region.wanted oi (yielded ops (a.put oj.dst u).tmps) = true := fun u => by rw [wanted_put oi a oj.dst u h3]; exact hwi
        -- the step with the rest of the walk given
        have fin : ∀ (G' : GZ) u, (∀ w, G'.g i w → G.g i w) → wpC B P ops an kd R (p ++ i :: s) G' (a.put oj.dst u) w →
            (∀ a' w1 z, Reach oi a a' → (mild (kd i) = true → Ext w w1) → (kd i = .lst → ExtB B w w1) → (huge (kd i) = true → G'.g i w1) → wpC B P ops an kd R (p ++ s) (G'.to z) (a'.put oj.dst u) w1 → wpC B P ops an kd R (j :: (p ++ s)) (G.to z) a' w1) →
            oi.wp P a w0 (Went B P ops an kd R G i (j :: (p ++ s)) w) NoExit := fun G' u hG hr hb => by
          have h4 := ih _ _ _ w0 hr e
          rw [if_pos (hwi' u)] at h4
          have h5 := wp_reach (wp_put hsi h3 (fun d hd hod => h2 d hod hd) h4)
          refine wp_noexit (fun a' w' ⟨hra, w1, z, e1, e2, e3, e4, hr⟩ => ⟨w1, z, e1, e2, e3, fun k => hG _ (e4 k), hb a' w1 z hra e2 e3 e4 hr⟩) h5
        have wantr : ∀ a', Reach oi a a' → Region.wanted oj (yielded ops a'.tmps) = Region.wanted oj (yielded ops a.tmps) := fun a' hr => by
          rcases hr with ⟨u, rfl⟩ | ⟨d, rfl⟩
          · exact wanted_put oj a oi.dst u h1
          · rw [wanted_put oj _ oi.dst undef h1]
        have execr : ∀ a', Reach oi a a' → execOp a'.eval oj = execOp a.eval oj := fun a' hr => by
          rcases hr with ⟨u, rfl⟩ | ⟨d, rfl⟩
          · exact execOp_put oj hsj a oi.dst u h1
          · rw [execOp_put oj hsj _ oi.dst undef h1]
            refine execOp_congr oj hsj fun x _ => ?_
            cases x <;> rfl
        by_cases hw : Region.wanted oj (yielded ops a.tmps) = true
        · rw [if_pos hw] at h
          have hkk := cm.k
          cases hkj : kd j <;> rw [hkj] at h hkk <;> simp only at h
          · obtain ⟨u, hu, hr⟩ := h
            refine fin G u (fun _ h => h) hr fun a' w1 z hra he _ _ hr => ?_
            simp only [wpC, hj, hkj]
            rw [if_pos ((wantr a' hra).trans hw)]
            exact ⟨u, by rw [execr a' hra]; exact hu, hr⟩
          · obtain ⟨u, hu, hr⟩ := h
            have hnb : mild (kd i) = true := by cases hk : kd i <;> rw [hk] at hkk <;> first | rfl | cases hkk
            refine fin G u (fun _ h => h) hr fun a' w1 z hra he _ _ hr => ?_
            simp only [wpC, hj, hkj]
            rw [if_pos ((wantr a' hra).trans hw)]
            exact ⟨u, fun w' e' => by
              have := hu w' ((he hnb).trans e')
              unfold Oper.quietAt at this ⊢
              rw [execr a' hra]; exact this, hr⟩
          · exfalso
            cases hk : kd i <;> rw [hk] at hkk <;> first | exact hki hk | exact hal hk | cases hkk
          · exfalso
            cases hk : kd i <;> rw [hk] at hkk <;> first | exact hki hk | exact hal hk | cases hkk
          · obtain ⟨u, hu, hr⟩ := h
            refine fin G u (fun _ h => h) hr fun a' w1 z hra he hl _ hr => ?_
            have hE : ExtB B w w1 := by
              cases hk : kd i with
              | lst => exact hl hk
              | big => rw [hk] at hkk; cases hkk
              | bigz => rw [hk] at hkk; cases hkk
              | alc => exact absurd hk hal
              | _ => exact .of (he (by rw [hk]; rfl))
            simp only [wpC, hj, hkj]
            rw [if_pos ((wantr a' hra).trans hw)]
            exact ⟨u, fun w' e' => by
              rw [execr a' hra]; exact hu w' (hE.trans e'), hr⟩
          · exfalso
            cases hk : kd i <;> rw [hk] at hkk <;> first | exact hki hk | exact hal hk | cases hkk
          · obtain ⟨u, hu, hr⟩ := h
            refine fin (G.and _ _ _) u (fun _ h => And.left h) hr fun a' w1 z hra he hl hg hr => ?_
            have hS : Sees P (execOp a.eval oj) u w1 := by
              cases hk : kd i with
              | big => exact (hg (by rw [hk]; rfl)).2 cm.na
              | bigz => exact (hg (by rw [hk]; rfl)).2 cm.na
              | alc => exact absurd hk hal
              | lst => rw [hk] at hkk; cases hkk
              | _ => exact fun w' e' => hu w' ((he (by rw [hk]; rfl)).trans e')
            simp only [wpC, hj, hkj]
            rw [if_pos ((wantr a' hra).trans hw), execr a' hra]
            exact ⟨u, hS, hr⟩
          · exfalso
            cases hk : kd i <;> rw [hk] at hkk <;> first | exact hki hk | exact hal hk | cases hkk
          · exfalso
            cases hk : kd i <;> rw [hk] at hkk <;> first | exact hki hk | exact hal hk | cases hkk
        · rw [if_neg hw] at h
          refine fin G undef (fun _ h => h) h fun a' w1 z hra he _ _ hr => ?_
          simp only [wpC, hj]
          rw [if_neg (by rw [wantr a' hra]; exact hw)]
          exact hr

/-! ### The check of a region's edges -/
inductive Anc (ops : Array Oper) : Nat → Nat → Prop
  | direct {i : Nat} {o : Oper} {e : Edge} (hi : ops[i]? = some o) (he : e ∈ o.after) (hb : Region.binds .any e = true) : Anc ops i e.on
  | far {i j k : Nat} (h : Anc ops i j) (h' : Anc ops j k) : Anc ops i k

def edgeMask (acc : List Nat) : List Edge → Nat
  | [] => 0
  | e :: es => bif Region.binds .any e then (2 ^ e.on) ||| acc.getD e.on 0 ||| edgeMask acc es else edgeMask acc es
def masksFrom : List Oper → List Nat → List Nat
  | [], acc => acc
  | o :: os, acc => masksFrom os (acc ++ [edgeMask acc o.after.toList])

theorem edgeMask_spec {i : Nat} {o : Oper} (hi : ops[i]? = some o) {acc : List Nat} (hacc : ∀ k m, acc[k]? = some m → ∀ j, m.testBit j = true → Anc ops k j) :
    ∀ es : List Edge, (∀ e ∈ es, e ∈ o.after) → ∀ j, (edgeMask acc es).testBit j = true → Anc ops i j := by
  intro es
  induction es with
  | nil => intro _ j h; simp [edgeMask] at h
  | cons e es ih =>
    intro hes j h
    have ih := ih (fun e he => hes e (List.mem_cons_of_mem _ he)) j
    unfold edgeMask at h
    cases hb : Region.binds .any e with
    | false => rw [hb] at h; exact ih h
    | true =>
      rw [hb] at h
      simp only [cond_true, Nat.testBit_or, Bool.or_eq_true] at h
      rcases h with (h | h) | h
      · rw [Nat.testBit_two_pow] at h
        have : e.on = j := by simpa using h
        subst this
        exact .direct hi (hes e List.mem_cons_self) hb
      · cases hm : acc[e.on]? with
        | none => simp [List.getD, hm] at h
        | some m =>
          simp only [List.getD, hm, Option.getD_some] at h
          exact .far (.direct hi (hes e List.mem_cons_self) hb) (hacc _ _ hm _ h)
      · exact ih h

theorem masksFrom_spec : ∀ (os : List Oper) (acc : List Nat), (∀ k o, os[k]? = some o → ops[acc.length + k]? = some o) →
    (∀ k m, acc[k]? = some m → ∀ j, m.testBit j = true → Anc ops k j) → ∀ k m, (masksFrom os acc)[k]? = some m → ∀ j, m.testBit j = true → Anc ops k j := by
  intro os
  induction os with
  | nil => intro acc _ hacc; exact hacc
  | cons o os ih =>
    intro acc hos hacc
    refine ih _ (fun k o' hk => ?_) (fun k m hk j hj => ?_)
    · rw [List.length_append, List.length_singleton, Nat.add_assoc, Nat.add_comm 1 k]
      exact hos (k + 1) o' (by simpa using hk)
    · rcases Nat.lt_or_ge k acc.length with h | h
      · rw [List.getElem?_append_left h] at hk; exact hacc k m hk j hj
      · rw [List.getElem?_append_right h] at hk
        have hk0 : k - acc.length = 0 := by
          rcases Nat.eq_zero_or_pos (k - acc.length) with h0 | h0
          · exact h0
          · rw [List.getElem?_eq_none (by simp only [List.length_singleton]; omega)] at hk; cases hk
        rw [hk0] at hk
        have hm : edgeMask acc o.after.toList = m := by simpa using hk
        subst hm
        have hke : k = acc.length := by omega
        subst hke
        exact edgeMask_spec (by have := hos 0 o rfl; simpa using this) hacc _ (fun e he => by simpa using he) j hj

/-- j stands ahead of i in the canonical order. -/
def pairB (ops : Array Oper) (kd : Nat → Kd) (ms : List Nat) (j i : Nat) : Bool :=
  match ops[j]?, ops[i]? with
  | some oj, some oi =>
    (oj.after.all fun e => !(Region.binds .any e) || !(Nat.beq e.on i)) && !(Nat.beq j i) && ((ms.getD i 0).testBit j || (kdB (kd j) (kd i) && oi.apart ops oj))
  | _, _ => false
def pairsB (f : Nat → Nat → Bool) : List Nat → Bool
  | [] => true
  | j :: l => l.all (f j) && pairsB f l
def noSelB (ops : List Oper) : Bool := ops.all fun o => match o.op with | .select .. => false | .defer _ => false | _ => true
def selfB : List Oper → Nat → Nat → Bool
  | [], _, _ => true
  | o :: os, i, n => (o.after.all fun e => !(Region.binds .any e) || (!(Nat.beq e.on i) && Nat.blt e.on n)) && selfB os (i + 1) n
def okB (ops : Array Oper) (kd : Nat → Kd) (ord : List Nat) : Bool :=
  noSelB ops.toList && selfB ops.toList 0 ops.size && ((List.range ops.size).all fun i => ord.contains i) && (ord.all fun i => Nat.blt i ops.size) &&
    pairsB (pairB ops kd (masksFrom ops.toList [])) ord

theorem pairsB_spec {f : Nat → Nat → Bool} : ∀ {l : List Nat}, pairsB f l = true → l.Pairwise (fun j i => f j i = true)
  | [], _ => .nil
  | j :: l, h => by
    simp only [pairsB, Bool.and_eq_true, List.all_eq_true] at h
    exact .cons h.1 (pairsB_spec h.2)
theorem selfB_spec : ∀ {os : List Oper} {i n : Nat}, selfB os i n = true → ∀ k o, os[k]? = some o → ∀ e ∈ o.after, Region.binds .any e = true → e.on ≠ i + k ∧ e.on < n
  | [], _, _, _, k, o, hk => by simp at hk
  | o :: os, i, n, h, k, o', hk => by
    simp only [selfB, Bool.and_eq_true] at h
    cases k with
    | zero =>
      have : o = o' := by simpa using hk
      subst this
      intro e he hb
      have := Array.all_eq_true'.1 h.1 e he
      simp only [hb, Bool.not_true, Bool.false_or, Bool.and_eq_true, Bool.not_eq_true', Nat.blt_eq] at this
      exact ⟨Nat.ne_of_beq_eq_false this.1, this.2⟩
    | succ k =>
      intro e he hb
      have := selfB_spec h.2 k o' (by simpa using hk) e he hb
      exact ⟨by omega, this.2⟩

structure Inv (ops : Array Oper) (f : Nat → Nat → Bool) (listed : Array Bool) (l : List Nat) : Prop where
  size : listed.size = ops.size
  pw : l.Pairwise (fun j i => f j i = true)
  mem : ∀ i, i ∈ l ↔ listed.getD i true = false
  closed : ∀ i o, ops[i]? = some o → listed.getD i false = true → ∀ e ∈ o.after, Region.binds .any e = true → listed.getD e.on false = true

theorem Inv.anc {f : Nat → Nat → Bool} {listed : Array Bool} {l : List Nat} (inv : Inv ops f listed l) {i j : Nat} (h : Anc ops i j) : listed.getD i false = true → listed.getD j false = true := by
  induction h with
  | direct hi he hb => exact fun hl => inv.closed _ _ hi hl _ he hb
  | far _ _ ih1 ih2 => exact fun hl => ih2 (ih1 hl)
theorem Inv.ready {f : Nat → Nat → Bool} {listed : Array Bool} {l : List Nat} (inv : Inv ops f listed l) {i j : Nat} (h : Anc ops i j) : i ∈ Region.ready .any ops listed → listed.getD j false = true := by
  induction h with
  | direct hi he hb =>
    intro hr
    obtain ⟨_, o, ho, hall⟩ := mem_ready.1 hr
    rw [hi] at ho
    injection ho with ho
    subst ho
    exact hall _ he hb
  | far _ h2 ih1 _ => exact fun hr => inv.anc h2 (ih1 hr)

/-- Who leans upon whom. -/
def anc (ops : Array Oper) (i j : Nat) : Bool := ((masksFrom ops.toList []).getD i 0).testBit j

theorem wpAny_of_wpC {B : Nat → Prop} {kd : Nat → Kd} {ord : List Nat} (hok : okB ops kd ord = true) {R : Act → World → Prop} (hR : ∀ a w, R a w → Q .normal a w) :
    ∀ (fuel : Nat) (listed : Array Bool) (l : List Nat) (G : GZ) (a : Act) (w w0 : World), Inv ops (pairB ops kd (masksFrom ops.toList [])) listed l → l.length = fuel → wpC B P ops (anc ops) kd R l G a w → Ext w w0 →
      wpAny P .any ops Q fuel listed a w0 := by
  simp only [okB, Bool.and_eq_true] at hok
  obtain ⟨⟨⟨⟨hsel, hself⟩, hcov⟩, hlt⟩, hpairs⟩ := hok
  have hsel : NoSel ops := fun j o cs b hj hop => by
    have := List.all_eq_true.1 hsel o (List.mem_of_getElem? (by rw [Array.getElem?_toList]; exact hj))
    rw [hop] at this; cases this
  have hself : ∀ k o, ops[k]? = some o → ∀ e ∈ o.after, Region.binds .any e = true → e.on ≠ k ∧ e.on < ops.size := fun k o hk e he hb => by
    have := selfB_spec hself k o (by rw [Array.getElem?_toList]; exact hk) e he hb
    exact ⟨by omega, this.2⟩
  have hms := masksFrom_spec (ops := ops) ops.toList [] (fun k o hk => by simpa using hk) (fun k m hk => by simp at hk)
  have both : ∀ (listed : Array Bool) i, listed.size = ops.size → i < ops.size → listed.getD i true ≠ false → listed.getD i false = true := fun listed i hs hi h => by
    have : i < listed.size := by omega
    simp [this] at h ⊢; exact h
  intro fuel
  induction fuel with
  | zero =>
    intro listed l G a w w0 inv hl h e
    have hl : l = [] := List.eq_nil_of_length_eq_zero hl
    subst hl
    refine ⟨?_, hR _ _ (h w0 e)⟩
    cases hr : Region.ready .any ops listed with
    | nil => rfl
    | cons i t =>
      have := (mem_ready.1 (show i ∈ Region.ready .any ops listed by rw [hr]; exact List.mem_cons_self)).1
      have := (inv.mem i).2 this
      cases this
  | succ fuel ih =>
    intro listed l G a w w0 inv hl h e
    refine ⟨fun hnil => ?_, fun i hi => ?_⟩
    · -- the first of what is left may come up
      exfalso
      cases l with
      | nil => cases hl
      | cons i0 t =>
        have hun := (inv.mem i0).1 List.mem_cons_self
        cases hi0 : ops[i0]? with
        | none =>
          simp only [wpC, hi0] at h
        | some o =>
          have : i0 ∈ Region.ready .any ops listed := by
            refine mem_ready.2 ⟨hun, o, hi0, fun ed he hb => ?_⟩
            obtain ⟨h1, h2⟩ := hself i0 o hi0 ed he hb
            refine both listed ed.on inv.size h2 fun hf => ?_
            have hm := (inv.mem ed.on).2 hf
            rcases List.mem_cons.1 hm with hm | hm
            · exact h1 hm
            · have hp := (List.pairwise_cons.1 inv.pw).1 ed.on hm
              unfold pairB at hp
              rw [hi0] at hp
              cases hj : ops[ed.on]? with
              | none => rw [hj] at hp; cases hp
              | some oj =>
                rw [hj] at hp
                simp only [Bool.and_eq_true] at hp
                have := Array.all_eq_true'.1 hp.1.1 ed he
                simp [hb] at this
          rw [hnil] at this
          cases this
    · obtain ⟨hun, oi, hoi, _⟩ := mem_ready.1 hi
      obtain ⟨p, s, rfl⟩ := List.append_of_mem ((inv.mem i).2 hun)
      have hpw := List.pairwise_append.1 inv.pw
      have hcm : ∀ j ∈ p, Comm ops (anc ops) kd j i := fun j hj => by
        have hp := hpw.2.2 j hj i List.mem_cons_self
        unfold pairB at hp
        cases hoj : ops[j]? with
        | none => rw [hoj] at hp; cases hp
        | some oj =>
          rw [hoj, hoi] at hp
          simp only [Bool.and_eq_true, Bool.or_eq_true] at hp
          by_cases hm : ((masksFrom ops.toList []).getD i 0).testBit j = true
          · exfalso
            have hun' := (inv.mem j).1 (List.mem_append_left _ hj)
            have hmi : ∃ m, (masksFrom ops.toList [])[i]? = some m ∧ m.testBit j = true := by
              cases hq : (masksFrom ops.toList [])[i]? with
              | none => simp [List.getD, hq] at hm
              | some m => exact ⟨m, rfl, by simpa [List.getD, hq] using hm⟩
            obtain ⟨m, hm1, hm2⟩ := hmi
            have := inv.ready (hms i m hm1 j hm2) hi
            rcases Nat.lt_or_ge j listed.size with hlt | hge
            · simp [hlt] at this hun'; rw [hun'] at this; cases this
            · simp [Array.getElem?_eq_none hge] at this
          · obtain ⟨hk, hap⟩ := hp.2.resolve_left hm
            exact ⟨by simpa [anc] using hm, fun oj' oi' h1 h2 => by
              rw [hoj] at h1; rw [hoi] at h2; injection h1 with h1; injection h2 with h2; subst h1; subst h2; exact hap, hk⟩
      have hlen : (p ++ s).length = fuel := by simp at hl ⊢; omega
      -- what is left behind it
      have inv' : Inv ops (pairB ops kd (masksFrom ops.toList [])) (listed.setIfInBounds i true) (p ++ s) := by
        have hnd : ∀ j ∈ p ++ s, j ≠ i := fun j hj hji => by
          subst hji
          rcases List.mem_append.1 hj with hj | hj
          · have hp := hpw.2.2 j hj j List.mem_cons_self
            unfold pairB at hp
            rw [hoi] at hp
            simp at hp
          · have hp := (List.pairwise_cons.1 hpw.2.1).1 j hj
            unfold pairB at hp
            rw [hoi] at hp
            simp at hp
        refine ⟨by simp [inv.size], ?_, fun j => ?_, fun j oj hj hl ed he hb => ?_⟩
        · exact List.Pairwise.sublist ((List.Sublist.refl p).append (List.sublist_cons_self i s)) inv.pw
        · by_cases hji : j = i
          · subst hji
            constructor
            · intro hj; exact absurd rfl (hnd j hj)
            · intro hf
              have : j < listed.size := by rw [inv.size]; exact (Array.getElem?_eq_some_iff.1 hoi).1
              simp [this] at hf
          · rw [getD_set_ne true (fun e => hji e.symm), ← inv.mem j]
            simp [hji]
        · by_cases hji : j = i
          · subst hji
            rw [hoi] at hj
            injection hj with hj
            subst hj
            obtain ⟨_, o2, ho2, hall⟩ := mem_ready.1 hi
            rw [hoi] at ho2
            injection ho2 with ho2
            subst ho2
            exact getD_set_true (hall ed he hb)
          · rw [getD_set_ne false (fun e => hji e.symm)] at hl
            exact getD_set_true (inv.closed j oj hj hl ed he hb)
      have h4 := pull hoi hsel p hcm G a w w0 h e
      unfold wpOp
      rw [hoi]
      simp only
      by_cases hw : Region.wanted oi (yielded ops a.tmps) = true
      · rw [if_pos hw] at h4 ⊢
        exact .inl (wp_noexit (fun a' w' ⟨w1, z, e1, _, _, _, hr⟩ => ih _ _ (G.to z) a' w1 w' inv' hlen hr e1) h4)
      · rw [if_neg hw] at h4 ⊢
        obtain ⟨w1, z, e1, hr⟩ := h4
        exact ih _ _ (G.to z) _ w1 _ inv' hlen hr e1

/-- A REGION THAT DRAWS ITS ORDER, walked in one order. -/
theorem wpAny_C {B : Nat → Prop} {kd : Nat → Kd} {ord : List Nat} (hok : okB ops kd ord = true) (hlen : Nat.beq ord.length ops.size = true) {R : Act → World → Prop} (hR : ∀ a w, R a w → Q .normal a w) {a : Act} {w : World}
    (h : wpC B P ops (anc ops) kd R ord ⟨fun _ _ => True, fun _ => False⟩ a w) : wpAny P .any ops Q ops.size (Array.replicate ops.size false) a { w with drawn := w.drawn + 1 } := by
  refine (wpAny_of_wpC hok hR ops.size _ ord _ a w _ ⟨by simp, ?_, fun i => ?_, fun i o _ hl => ?_⟩ (Nat.eq_of_beq_eq_true hlen) h ?_)
  · simp only [okB, Bool.and_eq_true] at hok
    exact pairsB_spec hok.2
  · simp only [okB, Bool.and_eq_true] at hok
    obtain ⟨⟨⟨_, hcov⟩, hlt⟩, _⟩ := hok
    constructor
    · intro hi
      have := List.all_eq_true.1 hlt i hi
      have : i < ops.size := by simpa using this
      simp [this]
    · intro hf
      have hi : i < ops.size := by
        rcases Nat.lt_or_ge i ops.size with h' | h'
        · exact h'
        · simp [h'] at hf
      have := List.all_eq_true.1 hcov i (List.mem_range.2 hi)
      simpa using this
  · exfalso
    rcases Nat.lt_or_ge i ops.size with h' | h'
    · simp [h'] at hl
    · simp [h'] at hl
  · exact ⟨rfl, rfl, rfl, Nat.le_refl _, fun _ _ => rfl⟩
end
end Go.Sh

/- The words of the shallow programs: what a Go operation asks of memory, as a proposition over what follows it. -/
namespace Go.Sh
open Go.RowKit

structure SV where
  a : Option Addr
  len : Nat
  cap : Nat

inductive Shp where
  | int (k : IntKind) | bool | ptr | slice | map | str | val
  deriving DecidableEq

@[reducible] def Shp.T : Shp → Type
  | .int _ => Int
  | .bool => Bool
  | .ptr => Option Addr
  | .slice => SV
  | .map => Option Nat
  | .str => ByteArray
  | .val => Value

def Shp.enc : (σ : Shp) → σ.T → Value
  | .int k, n => .int k n
  | .bool, b => .bool b
  | .ptr, p => .pointer p
  | .slice, s => .slice s.a s.len s.cap
  | .map, r => .map r
  | .str, s => .string s
  | .val, v => v

def kEq : IntKind → IntKind → Bool
  | .i8, .i8 => true | .i16, .i16 => true | .i32, .i32 => true | .i64, .i64 => true
  | .u8, .u8 => true | .u16, .u16 => true | .u32, .u32 => true | .u64, .u64 => true
  | _, _ => false
theorem kEq_spec {a b : IntKind} (h : kEq a b = true) : a = b := by cases a <;> cases b <;> first | rfl | cases h

def Shp.dec : (σ : Shp) → Value → Option σ.T
  | .int k, .int j n => match kEq k j with | true => some n | false => none
  | .bool, .bool b => some b
  | .ptr, .pointer p => some p
  | .slice, .slice a l c => some ⟨a, l, c⟩
  | .map, .map r => some r
  | .str, .string s => some s
  | .val, v => some v
  | _, _ => none

theorem Shp.enc_dec {σ : Shp} {v : Value} {x : σ.T} (h : σ.dec v = some x) : σ.enc x = v := by
  cases σ <;> cases v <;> simp only [Shp.dec] at h <;> first
    | (cases h; done)
    | (injection h with h; subst h; rfl)
    | (split at h
       · rename_i hk; injection h with h; subst h; simp only [Shp.enc]; rw [kEq_spec hk]
       · cases h)

/-- A block of cells that may be written, all of it. -/
def Blk (w : World) (b : Nat) (cs : List Value) : Prop := ∃ T, w.heap[b]? = some (.cells cs.toArray T (0, 0))

def Keeps (bs : List Nat) (w w' : World) : Prop := ∀ b ∈ bs, w'.heap[b]? = w.heap[b]?

/-- Cells are read, one behind the other. -/
def rdL (w : World) (a : Addr) : List Shp → Nat → (List Value → Prop) → Prop
  | [], _, K => K []
  | σ :: l, j, K => ∃ x : σ.T, w.cell? (a.add j) = some (σ.enc x) ∧ rdL w a l (j + 1) (fun vs => K (σ.enc x :: vs))

/-- Cells are written, one behind the other. -/
def stL (w : World) (a : Addr) : List Value → Nat → (World → Prop) → Prop
  | [], _, K => K w
  | v :: l, j, K => (w.cell? (a.add j)).isSome = true ∧ w.frozen? (a.add j) = false ∧ stL (w.setCell (a.add j) v) a l (j + 1) K

/-- n cells from an address on hold these. -/
def Cells (w : World) (a : Addr) (cs : List Value) : Prop := ∀ j v, cs[j]? = some v → w.cell? (a.add j) = some v
/-- The cells of a slice's elements: 'n' elements of 'sz' cells. -/
def SlCells (w : World) (a : Option Addr) (cs : List Value) : Prop := cs = [] ∨ ∃ p, a = some p ∧ Cells w p cs

def one (v : Value) : Bool := match v with | .agg _ => false | .tuple _ => false | _ => true

def zeros (z : List Value) (n : Nat) : List Value := (List.range (n * z.length)).map fun i => z.getD (i % z.length) undef

/-- append(s, x...): elements of 'sz' cells, 'bytes' bytes, the zero element's cells 'z'. -/
def App (bytes : Nat) (z : List Value) (s x : SV) (w : World) (K : SV → World → Prop) : Prop :=
  (s.len + x.len) * bytes ≤ 2 ^ 47 ∧ s.len + x.len < 2 ^ 62 ∧ ∃ xs : List Value, xs.length = x.len * z.length ∧ SlCells w x.a xs ∧
    ((s.len + x.len ≤ s.cap ∧ (x.len * z.length = 0 ∨ ∃ p, s.a = some p ∧ p.spot = none ∧ (∀ v ∈ xs, one v = true) ∧ (∀ j, j < xs.length → (w.cell? ⟨p.block, p.off + s.len * z.length + j, none⟩).isSome = true) ∧
          (∀ j, j < xs.length → w.frozen? ⟨p.block, p.off + s.len * z.length + j, none⟩ = false)) ∧
        ∀ w', (∀ p, s.a = some p → Off p.block w w' ∧ (∀ j v, xs[j]? = some v → w'.cell? ⟨p.block, p.off + s.len * z.length + j, none⟩ = some v) ∧
            (∀ o, (o < p.off + s.len * z.length ∨ p.off + s.len * z.length + xs.length ≤ o) → w'.cell? ⟨p.block, o, none⟩ = w.cell? ⟨p.block, o, none⟩) ∧ (∀ cs, Blk w p.block cs → ∃ cs', Blk w' p.block cs' ∧ cs'.length = cs.length)) →
          (s.a = none → w' = w) → K ⟨s.a, s.len + x.len, s.cap⟩ w') ∨
     (s.cap < s.len + x.len ∧ ∃ os : List Value, os.length = s.len * z.length ∧ SlCells w s.a os ∧
        ∀ b c w', Ext w w' → w.heap.size ≤ b → s.len + x.len ≤ c → Blk w' b (os ++ xs ++ zeros z (c - (s.len + x.len))) → K ⟨some ⟨b, 0, none⟩, s.len + x.len, c⟩ w'))

/-- make([]T, n, c) -/
def MkS (bytes : Nat) (z : List Value) (n c : Int) (w : World) (K : SV → World → Prop) : Prop :=
  0 ≤ n ∧ n ≤ c ∧ (bytes : Int) * c ≤ 2 ^ 48 ∧ c < 2 ^ 62 ∧ ∀ b w', Ext w w' → w.heap.size ≤ b → Blk w' b (zeros z c.toNat) → K ⟨some ⟨b, 0, none⟩, n.toNat, c.toNat⟩ w'

/-- make, in a draw, maybe ahead of its turn. -/
def MkA (bytes : Nat) (z : List Value) (n c : Int) (Z : Nat → Prop) (w : World) (K : Nat → World → Prop) : Prop :=
  0 ≤ n ∧ n ≤ c ∧ (bytes : Int) * c ≤ 2 ^ 48 ∧ c < 2 ^ 62 ∧ ∀ b w', Ext w w' → (Z b ∨ w.heap.size ≤ b) → Blk w' b (zeros z c.toNat) → K b w'

/-- make(map) -/
def MkM (w : World) (K : Option Nat → World → Prop) : Prop := ∀ r w', Ext w w' → w.heap.size ≤ r → w'.heap[r]? = some (.map #[] 0) → K (some r) w'

/-- make(map), in a draw, maybe ahead of its turn. -/
def MkMA (Z : Nat → Prop) (w : World) (K : Nat → World → Prop) : Prop := ∀ r w', Ext w w' → (Z r ∨ w.heap.size ≤ r) → w'.heap[r]? = some (.map #[] 0) → K r w'

/-- A new block, its cells known. -/
def NewB (cs : List Value) (w : World) (K : Nat → World → Prop) : Prop := ∀ b w', Ext w w' → w.heap.size ≤ b → Blk w' b cs → K b w'

/-- A pointer that is not nil. -/
def Nn (p : Option Addr) (K : Addr → Prop) : Prop := ∃ a, p = some a ∧ K a
/-- The address of x[i]. -/
def Idx (a : Option Addr) (n : Nat) (i : Int) (sz : Nat) (K : Addr → Prop) : Prop := ∃ b, a = some b ∧ 0 ≤ i ∧ i < n ∧ K (b.add (i.toNat * sz))
/-- x[l:h], by its bounds. -/
def semSlice (sz : Nat) (a : Option Addr) (n c : Nat) (l h : Option Int) (K : SV → Prop) : Prop :=
  0 ≤ h.getD n ∧ (∀ x, h = some x → x ≤ c) ∧ 0 ≤ l.getD 0 ∧ l.getD 0 ≤ h.getD n ∧
    K ⟨if c = (l.getD 0).toNat then a else a.map (·.add ((l.getD 0).toNat * sz)), (h.getD n).toNat - (l.getD 0).toNat, c - (l.getD 0).toNat⟩

def LoopT (σ : Type) (body : σ → (σ → World → Prop) → World → Prop) (s : σ) (w : World) : Prop :=
  ∃ (I : σ → World → Prop) (μ : σ → World → Nat), I s w ∧ ∀ s w, I s w → body s (fun s' w' => I s' w' ∧ μ s' w' < μ s w) w

def Join (σ : Type) (m : (σ → World → Prop) → Prop) (k : σ → World → Prop) : Prop := m k

theorem Join.cut {σ : Type} {m : (σ → World → Prop) → Prop} {k : σ → World → Prop} (R : σ → World → Prop)
    (h1 : ∀ J : σ → World → Prop, (∀ x w, R x w → J x w) → m J) (h2 : ∀ x w, R x w → k x w) : Join σ m k := h1 k h2

/-- A quiet call: one answer in whatever world grew out of this one. -/
def Quiet (ρ : Type) (enc : ρ → Value) (f : (ρ → World → Prop) → World → Prop) (w : World) (K : ρ → Prop) : Prop :=
  ∃ r : ρ, (∀ w', Ext w w' → f (fun r' w'' => Ending.returned (enc r') = Ending.returned (enc r) ∧ Ext w' w'') w') ∧ K r

theorem Quiet.mk {ρ : Type} {enc : ρ → Value} {f : (ρ → World → Prop) → World → Prop} {w : World} {K : ρ → Prop} (r : ρ) (h : ∀ w', Ext w w' → ∀ K' : ρ → World → Prop, (∀ w'', Ext w' w'' → K' r w'') → f K' w') (hk : K r) : Quiet ρ enc f w K :=
  ⟨r, fun w' e => h w' e _ (fun _ e' => ⟨rfl, e'⟩), hk⟩

/-! ### Function values, maps, copies, ranges over functions -/
/-- What is known of function values: the call of a value. -/
abbrev CVT := Value → List Value → (Value → World → Prop) → World → Prop

/-- Values of a make that is known. -/
def exL : List Shp → (List Value → Prop) → Prop
  | [], K => K []
  | σ :: l, K => ∃ x : σ.T, exL l fun vs => K (σ.enc x :: vs)
def exV : Bool → List Shp → (Value → Prop) → Prop
  | true, l, K => exL l fun vs => K (.agg vs.toArray)
  | false, [σ], K => ∃ x : σ.T, K (σ.enc x)
  | false, _, _ => False
def exVs : List (Bool × List Shp) → (List Value → Prop) → Prop
  | [], K => K []
  | (a, l) :: r, K => exV a l fun v => exVs r fun vs => K (v :: vs)

/-- A quiet call of a function value. -/
def QuietV (CV : CVT) (v : Value) (vs : List Value) (w : World) (K : Value → Prop) : Prop :=
  ∃ r, (∀ w', Ext w w' → CV v vs (fun r' w'' => r' = r ∧ Ext w' w'') w') ∧ K r
/-- Keys are made of whole numbers: one, or a struct of them. -/
def encK : Bool → List Int → Value
  | true, l => .agg (l.map (Value.int .i64)).toArray
  | false, [n] => .int .i64 n
  | false, _ => undef
def assoc (m : List (List Int × Value)) (k : List Int) : Option Value := (m.find? (fun p => p.1 == k)).map (·.2)
def upd (m : List (List Int × Value)) (k : List Int) (v : Value) : List (List Int × Value) :=
  match m with
  | [] => [(k, v)]
  | p :: m => if p.1 == k then (k, v) :: m else p :: upd m k v
/-- A map, by its entries. -/
def MapIs (ag : Bool) (n : Nat) (w : World) (b : Nat) (m : List (List Int × Value)) : Prop :=
  ∃ (es : Array MapEntry) (c : Nat), w.heap[b]? = some (.map es c) ∧ es.toList.map (fun e => (e.key, e.val)) = m.map (fun p => (encK ag p.1, p.2)) ∧
    (∀ p ∈ m, p.1.length = n) ∧ (m.map (·.1)).Nodup ∧ (∀ e ∈ es.toList, e.born < c) ∧ (es.toList.map (·.born)).Nodup
def MapR (ag : Bool) (n : Nat) (w : World) : Option Nat → List (List Int × Value) → Prop
  | none, m => m = []
  | some b, m => MapIs ag n w b m
/-- m[k] -/
def MLk (ag : Bool) (r : Option Nat) (k : List Int) (z : Value) (w : World) (K : Value → Bool → Prop) : Prop :=
  ∃ m, MapR ag k.length w r m ∧ K ((assoc m k).getD z) (assoc m k).isSome
/-- m[k] = v -/
def MUp (ag : Bool) (r : Option Nat) (k : List Int) (v : Value) (w : World) (K : World → Prop) : Prop :=
  ∃ b, r = some b ∧ ∃ m, MapIs ag k.length w b m ∧ ∀ w', Off b w w' → MapIs ag k.length w' b (upd m k v) → K w'

/-- copy(s, x) -/
def Cpy (sz : Nat) (s x : SV) (w : World) (K : World → Prop) : Prop :=
  ∃ xs : List Value, xs.length = min x.len s.len * sz ∧ SlCells w x.a xs ∧
    (xs = [] ∨ ∃ p, s.a = some p ∧ p.spot = none ∧ (∀ v ∈ xs, one v = true) ∧ (∀ j, j < xs.length → (w.cell? ⟨p.block, p.off + j, none⟩).isSome = true) ∧ (∀ j, j < xs.length → w.frozen? ⟨p.block, p.off + j, none⟩ = false)) ∧
    ∀ w', (xs = [] → w' = w) → (∀ p, s.a = some p → Off p.block w w' ∧ (∀ j v, xs[j]? = some v → w'.cell? ⟨p.block, p.off + j, none⟩ = some v) ∧
        (∀ o, (o < p.off ∨ p.off + xs.length ≤ o) → w'.cell? ⟨p.block, o, none⟩ = w.cell? ⟨p.block, o, none⟩) ∧ (∀ cs, Blk w p.block cs → ∃ cs', Blk w' p.block cs' ∧ cs'.length = cs.length)) → K w'

/-- A function value that is laid into a box: one cell. -/
def BoxV (v : Value) (k : Prop) : Prop := match v with | .func _ _ _ => k | v => one v = true ∧ k
def bxor (k : IntKind) (a b : Int) : Int := k.wrap (BitVec.ofInt k.bits a ^^^ BitVec.ofInt k.bits b).toNat
def bshr (k : IntKind) (a b : Int) : Int := a.fdiv (2 ^ min b.toNat k.bits)

/-- A round has ended by a jump. -/
def Pend (l : Nat) (c : Code) (w1 w : World) : Prop := ∃ r : Loop, w1.heap[l]? = some (.loop r) ∧ w.heap[l]? = some (.loop { r with state := .done, pending := some c })
end Go.Sh

/- The computed weakest precondition 'den' of the model's code, over frames that are known in part. -/
namespace Go.Sh
open Go.RowKit

inductive X where
  | v (x : Value)
  | loc (d off : Nat)
  | clo (f : FuncId) (first cap : List Value)
  | yl (v : Value) (E : List Value → (Bool → World → Prop) → World → Prop)
  | bad

inductive BM where
  | rw | ro | out

structure Bx where
  b : Nat
  cs : List Value
  m : BM

structure S where
  sl : List (Nat × X)
  bx : List (Nat × Bx)
  ro : List Nat
  df : List Nat := []

def find {α : Type} : List (Nat × α) → Nat → Option α
  | [], _ => none
  | (k, x) :: t, i => match Nat.beq k i with | true => some x | false => find t i

structure Cx where
  P : Program
  CV : CVT
  top : Bool
  O : FuncId → CVT → List X → (Value → World → Prop) → World → Prop
  Q : FuncId → CVT → List X → World → (Value → Prop) → Prop

def cc : X → Value
  | .v x => x
  | .loc _ _ => undef
  | .clo f first cap => .func (.func f) first.toArray cap.toArray
  | .yl v _ => v
  | .bad => undef
def conc (bx : List (Nat × Bx)) : X → Value
  | .loc d off => match find bx d with | some b => .pointer (some ⟨b.b, off, none⟩) | none => undef
  | x => cc x

def S.put (s : S) (d : Nat) (x : X) : S := { s with sl := (d, x) :: s.sl }
def S.putO (s : S) : Option Nat → X → S
  | some d, x => s.put d x
  | none, _ => s
/-- What leans on boxes that are no more is forgotten. -/
def kill (f : Nat → Bool) : List (Nat × X) → List (Nat × X)
  | [] => []
  | (t, x) :: l => match x with
    | .loc d o => (t, match f d with | true => .bad | false => .loc d o) :: kill f l
    | x => (t, x) :: kill f l
def S.newbox (s : S) (d b : Nat) (cs : List Value) : S := { s with sl := (d, .loc d 0) :: kill (Nat.beq d) s.sl, bx := (d, ⟨b, cs, .rw⟩) :: s.bx }
def S.setbox (s : S) (d : Nat) (x : Bx) : S := { s with bx := (d, x) :: s.bx }

def ev (s : S) : Operand → Option X
  | .tmp t => match find s.sl t with | some .bad => none | x => x
  | .const v => some (.v v)
  | .func f => some (.clo f [] [])
  | .global g => some (.v (.pointer (some ⟨g, 0, none⟩)))

/-- .. as a value for whoever is not this frame: a pointer to a box only if the box has been given out. -/
def evc (s : S) (o : Operand) : Option X :=
  match ev s o with
  | some (.loc d off) =>
    match find s.bx d with
    | some ⟨b, _, .out⟩ => some (.v (.pointer (some ⟨b, off, none⟩)))
    | _ => none
  | x => x

def evs (s : S) : List Operand → Option (List X)
  | [] => some []
  | o :: l => match evc s o, evs s l with
    | some (.clo f first cap), some xs => some (.v (.func (.func f) first.toArray cap.toArray) :: xs)
    | some x, some xs => some (x :: xs)
    | _, _ => none
def valOf : X → Option Value
  | .v x => some x
  | .clo f first cap => some (.func (.func f) first.toArray cap.toArray)
  | .loc _ _ => none
  | .yl _ _ => none
  | .bad => none
def vals : List X → Option (List Value)
  | [] => some []
  | x :: l => match valOf x, vals l with | some v, some vs => some (v :: vs) | _, _ => none
def evv (s : S) (o : Operand) : Option Value := match evc s o with | some x => valOf x | none => none
def evvs (s : S) : List Operand → Option (List Value)
  | [] => some []
  | o :: l => match evv s o, evvs s l with | some x, some xs => some (x :: xs) | _, _ => none
def evps (s : S) : List (Nat × Operand) → Option (List (Nat × Value))
  | [] => some []
  | (i, o) :: l => match evv s o, evps s l with | some x, some xs => some ((i, x) :: xs) | _, _ => none

/-! ### Types -/
def leafOf (P : Program) (t : TypeId) : Option Shp :=
  match P.underlying t with
  | some .bool => some .bool
  | some (.int k) => some (.int k)
  | some .string => some .str
  | some (.pointer _) => some .ptr
  | some (.slice _) => some .slice
  | some (.map _ _) => some .map
  | some (.func ..) => some .val
  | some (.interface _) => some .val
  | _ => none
def leaves (P : Program) : Nat → TypeId → Option (List Shp)
  | 0, _ => none
  | n + 1, t =>
    match P.underlying t with
    | some (.struct fs) => fs.toList.foldr (fun f acc => match leaves P n f.type, acc with | some a, some b => some (a ++ b) | _, _ => none) (some [])
    | some (.array len e) => match leaves P n e with | some a => some ((List.replicate len a).flatten) | none => none
    | _ => match leafOf P t with | some σ => some [σ] | none => none
def isAggB (P : Program) (t : TypeId) : Bool := match P.underlying t with | some (.struct _) => true | some (.array _ _) => true | _ => false
def sizeB (P : Program) (t : TypeId) (n : Nat) : Bool := match P.info? t with | some i => Nat.beq i.size n | none => false
def zeroB (P : Program) (t : TypeId) : Option Value := match P.info? t with | some i => i.zero | none => none
def fieldB (P : Program) (t : TypeId) (f : Nat) : Option (Nat × TypeId) :=
  match P.underlying t with
  | some (.struct fs) => match fs[f]? with | some fd => some (fd.offset, fd.type) | none => none
  | _ => none
def sliceB (P : Program) (t : TypeId) : Option TypeId := match P.underlying t with | some (.slice e) => some e | _ => none
def intB (P : Program) (t : TypeId) : Option IntKind := match P.underlying t with | some (.int k) => some k | _ => none
/-- An array: how many, how great each, of what. -/
def arrB (P : Program) (t : TypeId) : Option (Nat × Nat × TypeId) := match P.underlying t with | some (.array len e) => (match P.info? e with | some i => some (len, i.size, e) | none => none) | _ => none
def elB (P : Program) (t : TypeId) : Option (Nat × Nat × List Value) :=
  match sliceB P t with
  | some e => match P.info? e with
    | some i => match i.zero with
      | some z => match Nat.beq z.cells.toList.length i.size && !(Nat.beq i.size 0) with
        | true => some (i.size, i.bytes, z.cells.toList)
        | false => none
      | none => none
    | none => none
  | none => none

/-- Keys of whole numbers: one (false, 1), or a struct of n (true, n). -/
def keyFs (P : Program) : List Field → Nat → Bool
  | [], _ => true
  | f :: l, i => (match intB P f.type with | some .i64 => true | _ => false) && Nat.beq f.offset i && !(f.name == "_") && keyFs P l (i + 1)
def keyB (P : Program) (t : TypeId) : Option (Bool × Nat) :=
  match P.underlying t with
  | some (.int .i64) => some (false, 1)
  | some (.struct fs) => (match keyFs P fs.toList 0 && !(P.stoodInHeld t) && Nat.blt 0 fs.size with | true => some (true, fs.size) | false => none)
  | _ => none
def intsV : List Value → Option (List Int)
  | [] => some []
  | .int .i64 n :: l => (match intsV l with | some ns => some (n :: ns) | none => none)
  | _ :: _ => none
def keyV (ag : Bool) (n : Nat) (v : Value) : Option (List Int) :=
  match ag, v with
  | false, .int .i64 k => some [k]
  | true, .agg cs => (match intsV cs.toList with | some l => (match Nat.beq l.length n with | true => some l | false => none) | none => none)
  | _, _ => none
def mapB (P : Program) (t : TypeId) : Option (Bool × Nat × TypeId) :=
  match P.underlying t with
  | some (.map k e) => (match keyB P k with | some (ag, n) => some (ag, n, e) | none => none)
  | _ => none
/-- The make of a value. -/
def shV (P : Program) (t : TypeId) : Option (Bool × List Shp) :=
  match isAggB P t with
  | true => (match leaves P 10 t with | some l => some (true, l) | none => none)
  | false => (match leafOf P t with | some σ => some (false, [σ]) | none => none)
def shVs (P : Program) : List TypeId → Option (List (Bool × List Shp))
  | [] => some []
  | t :: l => match shV P t, shVs P l with | some x, some xs => some (x :: xs) | _, _ => none
def resV (P : Program) (t : TypeId) : Option (List (Bool × List Shp)) :=
  match P.underlying t with
  | some (.tuple ts) => shVs P ts.toList
  | _ => shVs P [t]
def tup : List Value → Value
  | [v] => v
  | vs => .tuple vs.toArray

def isValL (P : Program) (t : TypeId) : Bool := match leafOf P t with | some .val => true | _ => false
/-! ### What an operation asks -/
inductive OpR : Type 1 where
  | pure (V : (X → Prop) → Prop)
  | read (R : World → (X → Prop) → Prop)
  | box (cs : List Value)
  | boxV (v : Value)
  | new (N : World → (X → World → Prop) → Prop)
  | big (B : World → (X → World → Prop) → Prop)
  | lst (d : Nat) (b : Nat) (cs : List Value)
  | call (f : FuncId) (xs : List X)
  | callV (v : Value) (vs : List Value) (r : List (Bool × List Shp))
  | yield (E : List Value → (Bool → World → Prop) → World → Prop) (v : Value) (vs : List Value)
  | bad

def putAt (cs : List Value) (off : Nat) (vs : List Value) : List Value := cs.take off ++ vs ++ cs.drop (off + vs.length)

def partB (P : Program) (t : TypeId) (cs : Array Value) (off : Nat) : Option Value :=
  match isAggB P t with
  | true => (match P.info? t with | some i => some (.agg ((cs.toList.drop off).take i.size).toArray) | none => none)
  | false => (match (P.underlying t).isSome with | true => cs.toList[off]? | false => none)
/-- a == b, of whole numbers, bools and structs of them. -/
def eqV (P : Program) : Nat → TypeId → Value → Value → Option Bool
  | 0, _, _, _ => none
  | d + 1, t, x, y =>
    match P.underlying t with
    | some .bool => (match x, y with | .bool a, .bool b => some (a == b) | _, _ => none)
    | some (.int _) => (match x, y with | .int k a, .int j b => (match kEq k j with | true => some (a == b) | false => none) | _, _ => none)
    | some (.struct fs) => (match x, y with
      | .agg xs, .agg ys => (match P.stoodInHeld t with
        | true => none
        | false => fs.toList.foldr (fun f acc => match f.name == "_", partB P f.type xs f.offset, partB P f.type ys f.offset with
          | false, some u, some v => (match eqV P d f.type u v, acc with | some b, some r => some (b && r) | _, _ => none)
          | _, _, _ => none) (some true))
      | _, _ => none)
    | _ => none

def semBin (op : BinOp) (x y : Value) : OpR :=
  match op, x, y with
  | .add, .int k a, .int j b => match kEq k j with | true => .pure fun K => K (.v (.int k (k.wrap (a + b)))) | false => .bad
  | .sub, .int k a, .int j b => match kEq k j with | true => .pure fun K => K (.v (.int k (k.wrap (a - b)))) | false => .bad
  | .mul, .int k a, .int j b => match kEq k j with | true => .pure fun K => K (.v (.int k (k.wrap (a * b)))) | false => .bad
  | .xor, .int k a, .int j b => match kEq k j with | true => .pure fun K => K (.v (.int k (bxor k a b))) | false => .bad
  | .shr, .int k a, .int _ b => .pure fun K => (0 ≤ b ∧ K (.v (.int k (bshr k a b))))
  | .quo, .int k a, .int j b => match kEq k j with | true => .pure fun K => (if b = 0 then False else K (.v (.int k (k.wrap (a.tdiv b))))) | false => .bad
  | .rem, .int k a, .int j b => match kEq k j with | true => .pure fun K => (if b = 0 then False else K (.v (.int k (a.tmod b)))) | false => .bad
  | .eql, .int k a, .int j b => match kEq k j with | true => .pure fun K => K (.v (.bool (a == b))) | false => .bad
  | .neq, .int k a, .int j b => match kEq k j with | true => .pure fun K => K (.v (.bool (a != b))) | false => .bad
  | .lss, .int k a, .int j b => match kEq k j with | true => .pure fun K => K (.v (.bool (decide (a < b)))) | false => .bad
  | .leq, .int k a, .int j b => match kEq k j with | true => .pure fun K => K (.v (.bool (decide (a ≤ b)))) | false => .bad
  | .gtr, .int k a, .int j b => match kEq k j with | true => .pure fun K => K (.v (.bool (decide (a > b)))) | false => .bad
  | .geq, .int k a, .int j b => match kEq k j with | true => .pure fun K => K (.v (.bool (decide (a ≥ b)))) | false => .bad
  | _, _, _ => .bad

def semBinT (P : Program) (op : BinOp) (t : TypeId) (x y : Value) : OpR :=
  match P.underlying t, op, x, y with
  | some .bool, .eql, .bool a, .bool b => .pure fun K => K (.v (.bool (a == b)))
  | some .bool, .neq, .bool a, .bool b => .pure fun K => K (.v (.bool (!(a == b))))
  | some (.pointer _), .eql, .pointer p, .pointer none => .pure fun K => K (.v (.bool p.isNone))
  | some (.pointer _), .neq, .pointer p, .pointer none => .pure fun K => K (.v (.bool (!p.isNone)))
  | some (.slice _), .eql, .slice p _ _, .slice none _ _ => .pure fun K => K (.v (.bool p.isNone))
  | some (.slice _), .neq, .slice p _ _, .slice none _ _ => .pure fun K => K (.v (.bool (!p.isNone)))
  | some (.int _), op, x, y => semBin op x y
  | some (.struct _), .eql, x, y => (match eqV P 10 t x y, P.eqGuardType P.depth t with | some b, false => .pure fun K => K (.v (.bool b)) | _, _ => .bad)
  | some (.struct _), .neq, x, y => (match eqV P 10 t x y, P.eqGuardType P.depth t with | some b, false => .pure fun K => K (.v (.bool (!b))) | _, _ => .bad)
  | _, _, _, _ => .bad

def semLen (P : Program) (t : TypeId) : X → OpR
  | .v (.slice _ n _) => match P.underlying t with | some (.slice _) => .pure fun K => K (.v (.int .i64 (n : Int))) | _ => .bad
  | .v (.string s) => match P.underlying t with | some .string => .pure fun K => K (.v (.int .i64 (s.size : Int))) | _ => .bad
  | _ => .bad

def foldInt (f : Int → Int → Int) (k : IntKind) : Int → List X → Option Int
  | a, [] => some a
  | a, .v (.int j b) :: l => match kEq k j with | true => foldInt f k (f a b) l | false => none
  | _, _ => none

def semBuiltin (P : Program) (b : Builtin) (ts : List TypeId) (xs : List X) : OpR :=
  match b, ts, xs with
  | .len, [t], [x] => semLen P t x
  | .append, [t, u], [.v (.slice a n c), .v (.slice a' n' c')] =>
    match Nat.beq t u, elB P t with
    | true, some (_, bytes, z) => .big fun w K => App bytes z ⟨a, n, c⟩ ⟨a', n', c'⟩ w (fun s w' => K (.v (.slice s.a s.len s.cap)) w')
    | _, _ => .bad
  | .copy, [t, u], [.v (.slice a n c), .v (.slice a' n' c')] =>
    match Nat.beq t u, elB P t with
    | true, some (sz, _, _) => .big fun w K => Cpy sz ⟨a, n, c⟩ ⟨a', n', c'⟩ w (fun w' => K (.v (.int .i64 (min n' n : Nat))) w')
    | _, _ => .bad
  | .min, _, .v (.int k a) :: l => match foldInt (fun x y => if y < x then y else x) k a l with | some r => .pure fun K => K (.v (.int k r)) | none => .bad
  | .max, _, .v (.int k a) :: l => match foldInt (fun x y => if y > x then y else x) k a l with | some r => .pure fun K => K (.v (.int k r)) | none => .bad
  | _, _, _ => .bad

def noBodyB (P : Program) (f : FuncId) : Bool := match P.funcs[f]? with | some fn => fn.body.isSome && !(fn.name == "runtime.NumGoroutine") | none => false

def optInt (s : S) : Option Operand → Option (Option Int)
  | none => some none
  | some o => match ev s o with | some (.v (.int _ n)) => some (some n) | _ => none

def sem1 (cx : Cx) (s : S) (o : Oper) : OpR :=
  match o.op with
  | .move x => match ev s x with | some x => .pure fun K => K x | none => .bad
  | .assign x => match ev s x with | some x => .pure fun K => K x | none => .bad
  | .pick c a b => match ev s c with
    | some (.v (.bool true)) => (match ev s a with | some x => .pure fun K => K x | none => .bad)
    | some (.v (.bool false)) => (match ev s b with | some x => .pure fun K => K x | none => .bad)
    | _ => .bad
  | .alloc t => match zeroB cx.P t with | some z => .box z.cells.toList | none => .bad
  | .box t x => match isValL cx.P t with
    | true => (match evv s x with | some v => .boxV v | none => .bad)
    | false => (match evv s x with | some v => .box v.cells.toList | none => .bad)
  | .build t parts => match evps s parts.toList with
    | some vs => (match cx.P.built t vs with | some cells => .pure fun K => K (.v (.agg cells.toList.toArray)) | none => .bad)
    | none => .bad
  | .load t a => match ev s a with
    | some (.loc d off) => (match find s.bx d with
      | some ⟨b, _, .out⟩ => (match isAggB cx.P t with
        | true => (match leaves cx.P 10 t with
          | some l => (match sizeB cx.P t l.length with
            | true => .read fun w K => rdL w ⟨b, off, none⟩ l 0 (fun vs => K (.v (.agg vs.toArray)))
            | false => .bad)
          | none => .bad)
        | false => (match leafOf cx.P t with
          | some σ => .read fun w K => ∃ x : σ.T, w.cell? ⟨b, off, none⟩ = some (σ.enc x) ∧ K (.v (σ.enc x))
          | none => .bad))
      | some ⟨_, cs, _⟩ => (match isAggB cx.P t with
        | true => (match leaves cx.P 10 t with
          | some l => (match sizeB cx.P t l.length && Nat.ble (off + l.length) cs.length with
            | true => .read fun _ K => K (.v (.agg ((cs.drop off).take l.length).toArray))
            | false => .bad)
          | none => .bad)
        | false => (match cs[off]? with
          | some v => (match (cx.P.underlying t).isSome with | true => .read fun _ K => K (.v v) | false => .bad)
          | none => .bad))
      | none => .bad)
    | some (.v (.pointer (some p))) => (match isAggB cx.P t with
      | true => (match leaves cx.P 10 t with
        | some l => (match sizeB cx.P t l.length with
          | true => .read fun w K => rdL w p l 0 (fun vs => K (.v (.agg vs.toArray)))
          | false => .bad)
        | none => .bad)
      | false => (match leafOf cx.P t with
        | some σ => .read fun w K => ∃ x : σ.T, w.cell? p = some (σ.enc x) ∧ K (.v (σ.enc x))
        | none => .bad))
    | _ => .bad
  | .store t a x => match evv s x with
    | some v => (match sizeB cx.P t v.cells.toList.length && v.cells.toList.all one with
      | true => (match ev s a with
        | some (.loc d off) => (match find s.bx d with
          | some ⟨b, cs, .rw⟩ => (match Nat.ble (off + v.cells.toList.length) cs.length with | true => .lst d b (putAt cs off v.cells.toList) | false => .bad)
          | some ⟨b, _, .out⟩ => .big fun w K => stL w ⟨b, off, none⟩ v.cells.toList 0 (fun w' => K (.v undef) w')
          | _ => .bad)
        | some (.v (.pointer (some p))) => .big fun w K => stL w p v.cells.toList 0 (fun w' => K (.v undef) w')
        | _ => .bad)
      | false => .bad)
    | none => .bad
  | .nilCheck x => match ev s x with
    | some (.loc d off) => .pure fun K => K (.loc d off)
    | some (.v (.pointer p)) => .pure fun K => Nn p fun a => K (.v (.pointer (some a)))
    | some (.clo f first cap) => .pure fun K => K (.clo f first cap)
    | _ => .bad
  | .binOp op t x y _ => match evv s x, evv s y with | some a, some b => semBinT cx.P op t a b | _, _ => .bad
  | .unOp op _ x => match op, ev s x with
    | .not, some (.v (.bool b)) => .pure fun K => K (.v (.bool (!b)))
    | .neg, some (.v (.int k n)) => .pure fun K => K (.v (.int k (k.wrap (0 - n))))
    | _, _ => .bad
  | .convert src dst x => match ev s x, intB cx.P src, intB cx.P dst with
    | some (.v (.int _ n)), some _, some k => .pure fun K => K (.v (.int k (k.wrap n)))
    | _, _, _ => .bad
  | .makeFunc (.func f) first captured => match evvs s first.toList, evvs s captured.toList with
    | some fs, some cap => .pure fun K => K (.clo f fs cap)
    | _, _ => .bad
  | .buildSlice t len parts => match elB cx.P t, evps s parts.toList with
    | some (sz, _, z), some vs => (match Nat.ble (len * sz) 16777216, Instr.fill (fun i => some (i * sz, sz)) (zeros z len).toArray vs with
      | true, some cells => .new fun w K => NewB cells.toList w (fun b w' => K (.v (.slice (some ⟨b, 0, none⟩) len len)) w')
      | _, _ => .bad)
    | _, _ => .bad
  | .makeSlice t l c => match elB cx.P t, ev s l, ev s c with
    | some (_, bytes, z), some (.v (.int _ n)), some (.v (.int _ m)) => .new fun w K => MkS bytes z n m w (fun s w' => K (.v (.slice s.a s.len s.cap)) w')
    | _, _, _ => .bad
  | .makeMap _ none => .new fun w K => MkM w (fun r w' => K (.v (.map r)) w')
  | .lookup t x k ok => match mapB cx.P t, ev s x, evv s k with
    | some (ag, n, e), some (.v (.map r)), some kv => (match keyV ag n kv, zeroB cx.P e, shV cx.P e with
      | some ks, some z, some (g, l) => .read fun w K => MLk ag r ks z w fun v is => exV g l fun u => v = u ∧ K (match ok with | true => .v (.tuple #[u, .bool is]) | false => .v u)
      | _, _, _ => .bad)
    | _, _, _ => .bad
  | .mapUpdate t x k v => match mapB cx.P t, ev s x, evv s k, evv s v with
    | some (ag, n, _), some (.v (.map r)), some kv, some vv => (match keyV ag n kv with
      | some ks => .big fun w K => MUp ag r ks vv w (fun w' => K (.v undef) w')
      | none => .bad)
    | _, _, _, _ => .bad
  | .slice t x lo hi (some mx) => match elB cx.P t, ev s x, optInt s lo, optInt s hi, ev s mx with
    | some (sz, _, _), some (.v (.slice a n c)), some l, some (some h), some (.v (.int _ m)) => .pure fun K => (0 ≤ m ∧ m ≤ c ∧ h ≤ m ∧ semSlice sz a n m.toNat l (some h) fun s => K (.v (.slice s.a s.len s.cap)))
    | _, _, _, _, _ => .bad
  | .slice t x lo hi none => match elB cx.P t, ev s x, optInt s lo, optInt s hi with
    | some (sz, _, _), some (.v (.slice a n c)), some l, some h => .pure fun K => semSlice sz a n c l h fun s => K (.v (.slice s.a s.len s.cap))
    | _, _, _, _ => .bad
  | .fieldAddr t x f => match fieldB cx.P t f with
    | some (off, ft) => (match (match cx.P.info? ft with | some i => !(Nat.beq i.size 0) | none => false) with
      | true => (match ev s x with
        | some (.loc d o) => .pure fun K => K (.loc d (o + off))
        | some (.v (.pointer (some a))) => .pure fun K => K (.v (.pointer (some (a.add off))))
        | _ => .bad)
      | false => .bad)
    | none => .bad
  | .field t x f => match fieldB cx.P t f, ev s x with
    | some (off, ft), some (.v (.agg cs)) => (match isAggB cx.P ft with
      | true => (match cx.P.info? ft with
        | some i => .pure fun K => K (.v (.agg ((cs.toList.drop off).take i.size).toArray))
        | none => .bad)
      | false => (match cs.toList[off]? with
        | some v => (match (cx.P.underlying ft).isSome with | true => .pure fun K => K (.v v) | false => .bad)
        | none => .bad))
    | _, _ => .bad
  | .indexAddr t x ix => match elB cx.P t with
    | some (sz, _, _) => (match ev s x, ev s ix with
      | some (.v (.slice a n _)), some (.v (.int _ i)) => .pure fun K => Idx a n i sz fun p => K (.v (.pointer (some p)))
      | _, _ => .bad)
    | none => (match arrB cx.P t with
      | some (len, sz, _) => (match ev s x, ev s ix with
        | some (.loc d off), some (.v (.int _ i)) => (match find s.bx d with
          | some ⟨b, _, .out⟩ => .pure fun K => (0 ≤ i ∧ i < (len : Int) ∧ K (.v (.pointer (some ((⟨b, off, none⟩ : Addr).add (i.toNat * sz))))))
          | _ => .bad)
        | _, _ => .bad)
      | none => .bad)
  | .index t x ix => match arrB cx.P t with
    | some (len, sz, e) => (match Nat.beq sz 1, leafOf cx.P e with
      | true, some σ => (match evv s x, ev s ix with
        | some (.agg cs), some (.v (.int _ i)) => .pure fun K => (0 ≤ i ∧ i < (len : Int) ∧ ∃ y : σ.T, cs.toList[i.toNat]? = some (σ.enc y) ∧ K (.v (σ.enc y)))
        | _, _ => .bad)
      | _, _ => .bad)
    | none => .bad
  | .extract t i => match ev s t with
    | some (.v (.tuple vs)) => (match vs.toList[i]? with | some v => .pure fun K => K (.v v) | none => .bad)
    | _ => .bad
  | .call c => match c.callee, evs s c.args.toList with
    | .builtin b, some xs => semBuiltin cx.P b c.argTypes.toList xs
    | .value f, some xs => (match ev s f with
      | some (.clo g fs cap) => (match noBodyB cx.P g with | true => .call g (fs.map .v ++ (xs ++ cap.map .v)) | false => .bad)
      | some (.v x) => (match vals xs, resV cx.P o.type with | some vs, some r => .callV x vs r | _, _ => .bad)
      | some (.yl v E) => (match vals xs with | some vs => .yield E v vs | none => .bad)
      | _ => .bad)
    | _, _ => .bad
  | _ => .bad

/-! Height: the kernel unfolds what stands higher first. What belongs to 'den' is to stand above all shallow definitions. -/
def hh0 : Unit := ()
def hh1 : Unit := hh0
def hh2 : Unit := hh1
def hh3 : Unit := hh2
def hh4 : Unit := hh3
def hh5 : Unit := hh4
def hh6 : Unit := hh5
def hh7 : Unit := hh6
def hh8 : Unit := hh7
def hh9 : Unit := hh8
def hh10 : Unit := hh9
def hh11 : Unit := hh10
def hh12 : Unit := hh11
def hh13 : Unit := hh12
def hh14 : Unit := hh13
def hh15 : Unit := hh14
def hh16 : Unit := hh15
def hh17 : Unit := hh16
def hh18 : Unit := hh17
def hh19 : Unit := hh18
def hh20 : Unit := hh19
def hh21 : Unit := hh20
def hh22 : Unit := hh21
def hh23 : Unit := hh22
def hh24 : Unit := hh23
def hh25 : Unit := hh24
def hh26 : Unit := hh25
def hh27 : Unit := hh26
def hh28 : Unit := hh27
def hh29 : Unit := hh28
def hh30 : Unit := hh29
def hh31 : Unit := hh30
def hh32 : Unit := hh31
def hh33 : Unit := hh32
def hh34 : Unit := hh33
def hh35 : Unit := hh34
def hh36 : Unit := hh35
def hh37 : Unit := hh36
def hh38 : Unit := hh37
def hh39 : Unit := hh38
def hh40 : Unit := hh39
def hh41 : Unit := hh40
def hh42 : Unit := hh41
def hh43 : Unit := hh42
def hh44 : Unit := hh43
def hh45 : Unit := hh44
def hh46 : Unit := hh45
def hh47 : Unit := hh46
def hh48 : Unit := hh47
def hh49 : Unit := hh48
def hh50 : Unit := hh49
def hh51 : Unit := hh50
def hh52 : Unit := hh51
def hh53 : Unit := hh52
def hh54 : Unit := hh53
def hh55 : Unit := hh54
def hh56 : Unit := hh55
def hh57 : Unit := hh56
def hh58 : Unit := hh57
def hh59 : Unit := hh58
def hh60 : Unit := hh59
def hh61 : Unit := hh60
def hh62 : Unit := hh61
def hh63 : Unit := hh62
def hh64 : Unit := hh63
def hh65 : Unit := hh64
def hh66 : Unit := hh65
def hh67 : Unit := hh66
def hh68 : Unit := hh67
def hh69 : Unit := hh68
def hh70 : Unit := hh69
def hh71 : Unit := hh70
def hh72 : Unit := hh71
def hh73 : Unit := hh72
def hh74 : Unit := hh73
def hh75 : Unit := hh74
def hh76 : Unit := hh75
def hh77 : Unit := hh76
def hh78 : Unit := hh77
def hh79 : Unit := hh78
def hh80 : Unit := hh79
def hh81 : Unit := hh80
def hh82 : Unit := hh81
def hh83 : Unit := hh82
def hh84 : Unit := hh83
def hh85 : Unit := hh84
def hh86 : Unit := hh85
def hh87 : Unit := hh86
def hh88 : Unit := hh87
def hh89 : Unit := hh88
def hh90 : Unit := hh89
def hh91 : Unit := hh90
def hh92 : Unit := hh91
def hh93 : Unit := hh92
def hh94 : Unit := hh93
def hh95 : Unit := hh94
def hh96 : Unit := hh95
def hh97 : Unit := hh96
def hh98 : Unit := hh97
def hh99 : Unit := hh98
def hh100 : Unit := hh99
def hh101 : Unit := hh100
def hh102 : Unit := hh101
def hh103 : Unit := hh102
def hh104 : Unit := hh103
def hh105 : Unit := hh104
def hh106 : Unit := hh105
def hh107 : Unit := hh106
def hh108 : Unit := hh107
def hh109 : Unit := hh108
def hh110 : Unit := hh109
def hh111 : Unit := hh110
def hh112 : Unit := hh111
def hh113 : Unit := hh112
def hh114 : Unit := hh113
def hh115 : Unit := hh114
def hh116 : Unit := hh115
def hh117 : Unit := hh116
def hh118 : Unit := hh117
def hh119 : Unit := hh118
def hh120 : Unit := hh119
def hh121 : Unit := hh120
def hh122 : Unit := hh121
def hh123 : Unit := hh122
def hh124 : Unit := hh123
def hh125 : Unit := hh124
def hh126 : Unit := hh125
def hh127 : Unit := hh126
def hh128 : Unit := hh127
def hh129 : Unit := hh128
def hh130 : Unit := hh129
def hh131 : Unit := hh130
def hh132 : Unit := hh131
def hh133 : Unit := hh132
def hh134 : Unit := hh133
def hh135 : Unit := hh134
def hh136 : Unit := hh135
def hh137 : Unit := hh136
def hh138 : Unit := hh137
def hh139 : Unit := hh138
def hh140 : Unit := hh139
def hh141 : Unit := hh140
def hh142 : Unit := hh141
def hh143 : Unit := hh142
def hh144 : Unit := hh143
def hh145 : Unit := hh144
def hh146 : Unit := hh145
def hh147 : Unit := hh146
def hh148 : Unit := hh147
def hh149 : Unit := hh148
def hh150 : Unit := hh149
def hh151 : Unit := hh150
def hh152 : Unit := hh151
def hh153 : Unit := hh152
def hh154 : Unit := hh153
def hh155 : Unit := hh154
def hh156 : Unit := hh155
def hh157 : Unit := hh156
def hh158 : Unit := hh157
def hh159 : Unit := hh158
def hh160 : Unit := hh159
def FalseH : Prop := (fun _ => False) hh160
theorem FalseH.elim {p : Prop} (h : FalseH) : p := False.elim h

/-- The operands that may give a box out. -/
def escapes : Op → List Operand
  | .box _ x => [x]
  | .build _ ps => ps.toList.map (·.2)
  | .buildSlice _ _ ps => ps.toList.map (·.2)
  | .store _ _ x => [x]
  | .makeFunc _ first cap => first.toList ++ cap.toList
  | .call c => c.args.toList
  | .binOp _ _ x y _ => [x, y]
  | .mapUpdate _ _ _ v => [v]
  | .indexAddr _ x _ => [x]
  | _ => []

/-- Boxes that are given out: what they hold is told. -/
def expose (s : S) (w : World) : List Operand → (S → Prop) → Prop
  | [], K => (fun _ => K s) hh160
  | o :: l, K =>
    match ev s o with
    | some (.loc d _) => (match find s.bx d with
      | some ⟨b, cs, .rw⟩ => Blk w b cs → expose (s.setbox d ⟨b, cs, .out⟩) w l K
      | _ => expose s w l K)
    | _ => expose s w l K

/-- The boxes that this frame may still write. -/
def liveB : List Nat → List (Nat × Bx) → List Nat
  | _, [] => []
  | seen, (d, ⟨b, _, m⟩) :: l =>
    match seen.contains d, m with
    | false, .rw => b :: liveB (d :: seen) l
    | _, _ => liveB (d :: seen) l
def keepP (s : S) (w w' : World) (K : Prop) : Prop := match liveB [] s.bx ++ s.ro with | [] => (fun _ => K) hh160 | bs => Keeps bs w w' ∧ K

def step1 (cx : Cx) (s : S) (o : Oper) (w : World) (K : S → World → Prop) : Prop :=
  match sem1 cx s o with
  | .pure V => V fun x => K (s.putO o.dst x) w
  | .read R => R w fun x => K (s.putO o.dst x) w
  | .box cs => match o.dst with
    | some d => ∀ b w', Ext w w' → w.heap.size ≤ b → b < w'.heap.size → K (s.newbox d b cs) w'
    | none => False
  | .boxV v => match o.dst with
    | some d => BoxV v (∀ b w', Ext w w' → w.heap.size ≤ b → b < w'.heap.size → K (s.newbox d b [v]) w')
    | none => False
  | .new N => N w fun x w' => K (s.putO o.dst x) w'
  | .big B => B w fun x w' => keepP s w w' (K (s.putO o.dst x) w')
  | .lst d b cs => ∀ w', Off b w w' → K ((s.setbox d ⟨b, cs, .rw⟩).putO o.dst (.v undef)) w'
  | .call f xs => cx.O f cx.CV xs (fun x w' => keepP s w w' (K (s.putO o.dst (.v x)) w')) w
  | .callV v vs r => cx.CV v vs (fun x w' => exVs r fun us => x = tup us ∧ keepP s w w' (K (s.putO o.dst (.v (tup us))) w')) w
  | .yield E _ vs => E vs (fun b w' => keepP s w w' (K (s.putO o.dst (.v (.bool b))) w')) w
  | .bad => FalseH

/-- The slot of an operation's guard. -/
def gslot (all : Array Oper) (j : Nat) : Option Nat := match all[j]? with | some o => o.dst | none => none

def guarded (all : Array Oper) (s : S) (o : Oper) (run skip : S → Prop) : Prop :=
  match o.guard with
  | none => run s
  | some (j, want) => match gslot all j with
    | some g => (match find s.sl g with
      | some (.v (.bool b)) => (match b with
        | true => (match want with | true => run (s.put g (.v (.bool true))) | false => skip (s.put g (.v (.bool true))))
        | false => (match want with | true => skip (s.put g (.v (.bool false))) | false => run (s.put g (.v (.bool false)))))
      | some (.v (.tuple ⟨[]⟩)) => skip (s.put g (.v undef))
      | _ => FalseH)
    | none => FalseH

def dstOk (n : Nat) : Option Nat → Bool
  | some d => Nat.blt d n
  | none => true

def denOps (cx : Cx) (n : Nat) (all : Array Oper) : List Oper → S → World → (S → World → Prop) → Prop
  | [], s, w, K => K s w
  | o :: l, s, w, K =>
    match dstOk n o.dst with
    | true => guarded all s o
        (fun s => expose s w (escapes o.op) fun s => step1 cx s o w fun s' w' => denOps cx n all l s' w' K)
        (fun s => denOps cx n all l (s.putO o.dst (.v undef)) w K)
    | false => False

/-- A box is read that no box of D is; those of D are still our own. -/
def locB (s : S) (D : List Nat) (o : Oper) : Bool :=
  match o.op with
  | .load _ a => (match ev s a with
    | some (.loc d' _) => (match find s.bx d' with
      | some ⟨_, _, .out⟩ => false
      | some _ => D.all fun d => match Nat.beq d d', find s.bx d with | false, some ⟨_, _, .rw⟩ => true | _, _ => false
      | none => false)
    | _ => false)
  | _ => false

/-- What was read, and may be read later as well. -/
inductive Gd where
  | mem (g : World → Prop)
  | box (d : Nat)
  | dead
/-- A load through a pointer (none), or of a box of our own. -/
def rdB (s : S) (o : Oper) : Option (Option Nat) :=
  match o.op with
  | .load _ a => (match ev s a with
    | some (.v (.pointer (some _))) => some none
    | some (.loc d _) => (match find s.bx d with | some ⟨_, _, .out⟩ => some none | some _ => some (some d) | none => none)
    | _ => none)
  | _ => none
def eqX (x y : X) : Prop := match x, y with | .v a, .v b => b = a | _, _ => False
/-- .. is as it was, for whoever does not lean upon who read it. -/
def guards (ms : List Nat) (i : Nat) (s : S) (w : World) : List (Nat × Gd) → Prop → Prop
  | [], K => (fun _ => K) hh160
  | (j, g) :: gs, K => match (ms.getD i 0).testBit j with
    | true => guards ms i s w gs K
    | false => match g with
      | .mem g => g w ∧ guards ms i s w gs K
      | .box d => (match find s.bx d with | some ⟨_, _, .out⟩ => FalseH | some _ => guards ms i s w gs K | none => FalseH)
      | .dead => FalseH
def freeG (d : Nat) : List (Nat × Gd) → Bool
  | [] => true
  | (_, .mem _) :: gs => freeG d gs
  | (_, .box d') :: gs => match Nat.beq d d' with | true => false | false => freeG d gs
  | (_, .dead) :: gs => freeG d gs
def killG (d : Nat) : List (Nat × Gd) → List (Nat × Gd)
  | [] => []
  | (j, .mem g) :: gs => (j, .mem g) :: killG d gs
  | (j, .box d') :: gs => match Nat.beq d d' with | true => (j, .dead) :: killG d gs | false => (j, .box d') :: killG d gs
  | (j, .dead) :: gs => (j, .dead) :: killG d gs

/-- make([]T, n, c) of known sizes. -/
def mksOf (cx : Cx) (s : S) (o : Oper) : Option (Nat × List Value × Int × Int) := match o.op with
  | .makeSlice t l c => (match elB cx.P t, ev s l, ev s c with
    | some (_, bytes, z), some (.v (.int _ n)), some (.v (.int _ m)) => some (bytes, z, n, m)
    | _, _, _ => none)
  | _ => none

/-- make(map). -/
def mapOf (o : Oper) : Bool := match o.op with | .makeMap _ none => true | _ => false

/-- .. in a region that draws its order: the world is one that grew out of the known one. -/
def step1D (cx : Cx) (D : List Nat) (ms : List Nat) (i : Nat) (kd : Kd) (gs : List (Nat × Gd)) (Z : Nat → Prop) (s : S) (o : Oper) (w : World) (K : List (Nat × Gd) → (Nat → Prop) → S → World → Prop) : Prop :=
  match kd, sem1 cx s o with
  | .pure, .pure V => V fun x => K gs Z (s.putO o.dst x) w
  | .quiet, .read R => R w fun x => K gs Z (s.putO o.dst x) w
  | .quiet, .call f xs => cx.Q f cx.CV xs w fun x => K gs Z (s.putO o.dst (.v x)) w
  | .quiet, .callV v vs r => QuietV cx.CV v vs w fun x => exVs r fun us => x = tup us ∧ K gs Z (s.putO o.dst (.v (tup us))) w
  | .rd, .read R => (match rdB s o with
    | some none => R w fun x => K ((i, .mem (fun w' => R w' (eqX x))) :: gs) Z (s.putO o.dst x) w
    | some (some d) => R w fun x => K ((i, .box d) :: gs) Z (s.putO o.dst x) w
    | none => FalseH)
  | .loc, .read R => (match locB s D o with | true => R w fun x => K gs Z (s.putO o.dst x) w | false => False)
  | .lst, .lst d b cs => (match D.contains d && freeG d gs with | true => ∀ w1, Ext w w1 → ∀ w', Off b w1 w' → K gs (fun _ => False) ((s.setbox d ⟨b, cs, .rw⟩).putO o.dst (.v undef)) w' | false => False)
  | .new, .box cs => match o.dst with
    | some d => (match freeG d gs with | true => ∀ b w', Ext w w' → w.heap.size ≤ b → b < w'.heap.size → K gs (zX (zI Z w w') b) (s.newbox d b cs) w' | false => FalseH)
    | none => False
  | .alc, .box cs => match o.dst with
    | some d => (match freeG d gs with | true => ∀ b w', Ext w w' → (Z b ∨ w.heap.size ≤ b) → b < w'.heap.size → K gs (zX (zI Z w w') b) (s.newbox d b cs) w' | false => FalseH)
    | none => False
  | .new, .new N => ∀ w1, Ext w w1 → N w1 fun x w' => K gs (zI Z w w1) (s.putO o.dst x) w'
  | .alc, .new _ => (match mksOf cx s o with
    | some (bytes, z, n, c) => MkA bytes z n c Z w fun b w' => K gs (zX (zI Z w w') b) (s.putO o.dst (.v (.slice (some ⟨b, 0, none⟩) n.toNat c.toNat))) w'
    | none => (match mapOf o with
      | true => MkMA Z w fun r w' => K gs (zX (zI Z w w') r) (s.putO o.dst (.v (.map (some r)))) w'
      | false => FalseH))
  | .big, .big B => ∀ w1, Ext w w1 → B w1 fun x w' => keepP s w1 w' (guards ms i s w' gs (K gs (fun _ => False) (s.putO o.dst x) w'))
  | .big, .lst d b cs => ∀ w1, Ext w w1 → ∀ w', Off b w1 w' → guards ms i (s.setbox d ⟨b, cs, .rw⟩) w' (killG d gs) (K (killG d gs) (fun _ => False) ((s.setbox d ⟨b, cs, .rw⟩).putO o.dst (.v undef)) w')
  | .big, .call f xs => ∀ w1, Ext w w1 → cx.O f cx.CV xs (fun x w' => keepP s w1 w' (guards ms i s w' gs (K gs (fun _ => False) (s.putO o.dst (.v x)) w'))) w1
  | .big, .callV v vs r => ∀ w1, Ext w w1 → cx.CV v vs (fun x w' => exVs r fun us => x = tup us ∧ keepP s w1 w' (guards ms i s w' gs (K gs (fun _ => False) (s.putO o.dst (.v (tup us))) w'))) w1
  | .bigz, .call f xs => ∀ w1, Ext w w1 → cx.O f cx.CV xs (fun x w' => KeepZ (zI Z w w1) w1 w' ∧ keepP s w1 w' (guards ms i s w' gs (K gs (zI Z w w1) (s.putO o.dst (.v x)) w'))) w1
  | .bigz, .big B => ∀ w1, Ext w w1 → B w1 fun x w' => KeepZ (zI Z w w1) w1 w' ∧ keepP s w1 w' (guards ms i s w' gs (K gs (zI Z w w1) (s.putO o.dst x) w'))
  | _, _ => FalseH

def denDraw (cx : Cx) (n : Nat) (all : Array Oper) (ms : List Nat) (D : List Nat) (kd : List Kd) : List Nat → List (Nat × Gd) → (Nat → Prop) → S → World → (S → World → Prop) → Prop
  | [], _, _, s, w, K => ∀ w', Ext w w' → K s w'
  | i :: l, gs, Z, s, w, K =>
    match all[i]? with
    | some o => (match dstOk n o.dst with
      | true => guarded all s o
          (fun s => expose s w (escapes o.op) fun s => step1D cx D ms i (kd.getD i .big) gs Z s o w fun gs Z s' w' => denDraw cx n all ms D kd l gs Z s' w' K)
          (fun s => denDraw cx n all ms D kd l gs Z (s.putO o.dst (.v undef)) w K)
      | false => False)
    | none => False

/-! ### Code -/
inductive LV where
  | slot (t : Nat) (σ : Shp)
  | box (d : Nat) (σs : List Shp)
  | nbox (d : Nat) (σs : List Shp)

@[reducible] def ShpsT : List Shp → Type
  | [] => Unit
  | σ :: l => σ.T × ShpsT l
@[reducible] def LV.T : LV → Type
  | .slot _ σ => σ.T
  | .box _ σs => ShpsT σs
  | .nbox _ σs => Nat × ShpsT σs
@[reducible] def Tup : List LV → Type
  | [] => Unit
  | x :: l => x.T × Tup l

def encs : (l : List Shp) → ShpsT l → List Value
  | [], _ => []
  | σ :: l, x => σ.enc x.1 :: encs l x.2
def decs : (l : List Shp) → List Value → Option (ShpsT l)
  | [], [] => some ()
  | σ :: l, v :: vs => match σ.dec v, decs l vs with | some x, some xs => some (x, xs) | _, _ => none
  | _, _ => none

def app : (lv : List LV) → S → (Tup lv → Prop) → Prop
  | [], _, f => f ()
  | .slot t σ :: l, s, f => match find s.sl t with
    | some y => (match valOf y with
      | some v => (match σ.dec v with | some x => app l s fun r => f (x, r) | none => False)
      | none => False)
    | none => False
  | .box d σs :: l, s, f => match find s.bx d with
    | some ⟨_, cs, .rw⟩ => (match decs σs cs with | some xs => app l s fun r => f (xs, r) | none => False)
    | _ => False
  | .nbox d σs :: l, s, f => match find s.sl d, find s.bx d with
    | some (.loc d' 0), some ⟨b, cs, .rw⟩ => (match Nat.beq d d', decs σs cs with | true, some xs => app l s fun r => f ((b, xs), r) | _, _ => False)
    | _, _ => False

def bindSl : (lv : List LV) → Tup lv → List (Nat × X)
  | [], _ => []
  | .slot t σ :: l, x => (t, .v (σ.enc x.1)) :: bindSl l x.2
  | .box _ _ :: l, x => bindSl l x.2
  | .nbox d _ :: l, x => (d, .loc d 0) :: bindSl l x.2
def bindBx (bx : List (Nat × Bx)) (wr : List Nat) : (lv : List LV) → Tup lv → List (Nat × Bx)
  | [], _ => []
  | .slot _ _ :: l, x => bindBx bx wr l x.2
  | .box d σs :: l, x => match wr.contains d, find bx d with
    | false, some ⟨b, _, _⟩ => (d, ⟨b, encs σs x.1, .rw⟩) :: bindBx bx wr l x.2
    | _, _ => bindBx bx wr l x.2
  | .nbox d σs :: l, x => (d, ⟨x.1.1, encs σs x.1.2, .rw⟩) :: bindBx bx wr l x.2
def inLV (lv : List LV) (d : Nat) : Bool := lv.any fun | .slot .. => false | .box d' _ => Nat.beq d d' | .nbox d' _ => Nat.beq d d'
def isN (lv : List LV) (d : Nat) : Bool := lv.any fun | .nbox d' _ => Nat.beq d d' | _ => false
def bind (lv : List LV) (t : Tup lv) (s : S) (wr dr : List Nat) : S :=
  { sl := bindSl lv t ++ kill (fun d => wr.contains d || dr.contains d || isN lv d) (s.sl.filter fun e => !(wr.contains e.1))
    bx := bindBx s.bx wr lv t ++ s.bx.filter fun e => !(wr.contains e.1) && !(dr.contains e.1) && !(inLV lv e.1)
    ro := s.ro
    df := s.df }

def dstsOf (ops : Array Oper) : List Nat := ops.toList.filterMap (·.dst)
def writes : Code → List Nat
  | .region _ ops _ => dstsOf ops
  | .seq a b => writes a ++ writes b
  | .cond _ a b => writes a ++ writes b
  | .block _ a => writes a
  | .loop a => writes a
  | .scope a => writes a
  | .rangeFunc _ ps a b => ps.toList ++ writes a ++ writes b
  | _ => []

inductive Ex where
  | nrm | exit (id : Nat) | goto (l : Nat) | ret
def Ex.code : Ex → Code
  | .nrm => .skip
  | .exit id => .exit id
  | .goto l => .goto l
  | .ret => .ret

inductive Plan where
  | o
  | draw (D : List Nat) (kd : List Kd) (ord : List Nat)
  | seq (a b : Plan)
  | join (lv : List LV) (dr : List Nat) (a b : Plan)
  | cond (a b : Plan)
  | block (a : Plan)
  | loop (lv : List LV) (dr : List Nat) (a : Plan)
  | exp (ds : List Nat) (a : Plan)
  | scope (a : Plan)
  | rng (ds : List Nat) (es : List Ex) (a b : Plan)

def roIds (lv : List LV) (dr : List Nat) : List Nat → List (Nat × Bx) → List Nat
  | _, [] => []
  | seen, (d, ⟨b, _, m⟩) :: l =>
    match seen.contains d || inLV lv d || dr.contains d, m with
    | false, .rw => b :: roIds lv dr (d :: seen) l
    | _, _ => roIds lv dr (d :: seen) l
def innM (m : BM) (free : Bool) : BM := match free, m with | false, .rw => .ro | _, m => m
/-- Inside: boxes that are neither told anew nor forgotten are only read. -/
def S.inner (s : S) (lv : List LV) (dr : List Nat) : S :=
  { s with bx := s.bx.map (fun e => (e.1, { e.2 with m := innM e.2.m (inLV lv e.1 || dr.contains e.1) })), ro := roIds lv dr [] s.bx ++ s.ro }

def restM (m : BM) (wr : Bool) (o : Option Bx) : BM :=
  match m, wr, o with
  | .ro, false, some ⟨_, _, .rw⟩ => .rw
  | .ro, false, some ⟨_, _, .ro⟩ => .ro
  | .ro, _, _ => .out
  | m, _, _ => m
/-- Behind it: as they were ahead. -/
def S.restore (s : S) (wr : List Nat) (s' : S) : S :=
  { s' with bx := s'.bx.map (fun e => (e.1, { e.2 with m := restM e.2.m (wr.contains e.1) (find s.bx e.1) })), ro := s.ro }

/-- Boxes of a round's beginning, in its body. -/
def keepM : BM → BM | .ro => .out | m => m
def keepB : List (Nat × Bx) → List (Nat × Bx)
  | [] => []
  | (d, ⟨b, cs, m⟩) :: l => (d, ⟨b, cs, keepM m⟩) :: keepB l

/-- As many marks as ahead. -/
def dfOk (s s' : S) (p : Prop) : Prop := match Nat.beq s'.df.length s.df.length with | true => p | false => False

/-- Boxes that have been given out are pointers. -/
def ptrs (bx : List (Nat × Bx)) : List (Nat × X) → List (Nat × X)
  | [] => []
  | (t, x) :: l => match x with
    | .loc d off => (match find bx d with
      | some ⟨b, _, .out⟩ => (t, .v (.pointer (some ⟨b, off, none⟩))) :: ptrs bx l
      | _ => (t, .bad) :: ptrs bx l)
    | x => (t, x) :: ptrs bx l
def bindPs : List Nat → List Value → List (Nat × X) → Option (List (Nat × X))
  | [], [], sl => some sl
  | p :: ps, v :: vs, sl => bindPs ps vs ((p, .v v) :: sl)
  | _, _, _ => none
def orE (f : Ex → Prop) : List Ex → Prop
  | [] => False
  | [e] => f e
  | e :: l => f e ∨ orE f l
/-- How a loop over a function is left. -/
def afterR (es : List Ex) (l : Nat) (w1 w7 : World) (K : Ex → World → Prop) : Prop :=
  (w7.heap[l]? = w1.heap[l]? ∧ ∀ w8, Off l w7 w8 → K .nrm w8) ∨ orE (fun e => Pend l e.code w1 w7 ∧ ∀ w8, Off l w7 w8 → K e w8) es
def notNrm : Ex → Bool | .nrm => false | _ => true
def okPs (n : Nat) (ps : List Nat) : Bool := ps.all fun p => Nat.blt p n

def den (cx : Cx) (n : Nat) : Plan → Code → S → World → (Ex → S → World → Prop) → Prop
  | .exp ds p, c, s, w, K => expose s w (ds.map .tmp) fun s => den cx n p c s w K
  | .o, .region _ ops false, s, w, K => denOps cx n ops ops.toList s w (K .nrm)
  | .o, .skip, s, w, K => K .nrm s w
  | .o, .label _, s, w, K => K .nrm s w
  | .o, .exit id, s, w, K => K (.exit id) s w
  | .o, .goto l, s, w, K => K (.goto l) s w
  | .o, .ret, s, w, K => K .ret s w
  | .draw D kd ord, .region _ ops true, s, w, K =>
    (match okB ops (fun i => kd.getD i .big) ord && Nat.beq ord.length ops.size && D.all (fun d => !(dstsOf ops).contains d) with | true => denDraw cx n ops (masksFrom ops.toList []) D kd ord [] (fun _ => False) s w (K .nrm) | false => False)
  | .seq p q, .seq a b, s, w, K => den cx n p a s w fun e s' w' => match e with | .nrm => den cx n q b s' w' K | e => K e s' w'
  | .join lv dr p q, .seq a b, s, w, K =>
    Join (Tup lv) (fun J => den cx n p a (s.inner lv dr) w fun e s' w' => dfOk s s' (match e with | .nrm => app lv s' fun t => J t w' | e => K e (s.restore (writes a) s') w'))
      (fun t w' => den cx n q b (bind lv t s (writes a) dr) w' K)
  | .cond p q, .cond c a b, s, w, K => (match ev s c with | some (.v (.bool t)) => (match t with | true => den cx n p a s w K | false => den cx n q b s w K) | _ => False)
  | .scope p, .scope a, s, w, K => (match cx.top with | true => den cx n p a s w fun e s' w' => (match e with | .goto _ => False | e => K e s' w') | false => False)
  | .block p, .block id a, s, w, K => den cx n p a s w fun e s' w' => match e with
    | .exit j => (match Nat.beq j id with | true => K .nrm s' w' | false => K (.exit j) s' w')
    | e => K e s' w'
  | .loop lv dr p, .loop a, s, w, K =>
    app lv (s.inner lv dr) fun t0 => LoopT (Tup lv) (fun t again w' => den cx n p a (bind lv t (s.inner lv dr) (writes a) dr) w' fun e s' w'' => dfOk s s' (match e with
        | .nrm => app lv s' fun t' => again t' w''
        | e => K e (s.restore (writes a) s') w'')) t0 w
  | .rng ds es p q, .rangeFunc g ps assign body, s, w, K => (match cx.top && es.all notNrm && okPs n ps.toList, ev s g with
    | true, some (.v (.func (.func gf) first cap)) => (match first.toList, noBodyB cx.P gf with
      | [], true => expose s w (ds.map .tmp) fun s1 => ∀ D l w1, Ext w w1 → w.heap.size ≤ D → D < l → l < w1.heap.size →
        cx.O gf cx.CV (.yl (.func (.yield l) #[] #[]) (fun vs Ky w2 => w2.heap[l]? = w1.heap[l]? ∧ match bindPs ps.toList vs (ptrs s1.bx s1.sl) with
            | some sl => den { cx with top := false } n p assign ⟨sl, [], [l], []⟩ w2 fun e s3 w3 => (match e with
              | .nrm => dfOk ⟨sl, [], [l], []⟩ s3 (∀ w4, Off l w3 w4 → den { cx with top := false } n q body ⟨s3.sl, keepB s3.bx, [l], []⟩ w4 fun e _ w5 => ∀ w6, Off l w5 w6 → (match e with
                | .nrm => w6.heap[l]? = w1.heap[l]? → Ky true w6
                | e => Pend l e.code w1 w6 → Ky false w6))
              | _ => False)
            | none => False) :: cap.toList.map .v)
          (fun _ w7 => Keeps (D :: s1.ro) w1 w7 ∧ afterR es l w1 w7 fun e w8 => K e ⟨ptrs s1.bx s1.sl, [], D :: s1.ro, D :: s1.df⟩ w8) w1
      | _, _ => False)
    | _, _ => False)
  | _, _, _, _, _ => False

/-! ### A function -/
def rets (cx : Cx) (s : S) (w : World) : List ResultVar → (List Value → Prop) → Prop
  | [], K => K []
  | .tmp t :: l, K => (match evv s (.tmp t) with | some v => rets cx s w l fun vs => K (v :: vs) | none => False)
  | .cell a t :: l, K => (match sem1 cx s { dst := none, op := .load t (.tmp a), type := t, pos := "", after := #[], guard := none } with
    | .read R => R w fun x => (match valOf x with | some v => rets cx s w l fun vs => K (v :: vs) | none => False)
    | _ => False)
def resOps : List ResultVar → List Operand
  | [] => []
  | .tmp t :: l => .tmp t :: resOps l
  | .cell _ _ :: l => resOps l
def argSlX : Nat → List X → List (Nat × X)
  | _, [] => []
  | i, v :: l => (i, v) :: argSlX (i + 1) l
/-- The marks are taken off. -/
def offs : List Nat → World → (World → Prop) → Prop
  | [], w, K => K w
  | D :: l, w, K => ∀ w', Off D w w' → offs l w' K
def denF (cx : Cx) (fn : Func) (plan : Plan) (args : List X) (w : World) (R : Value → World → Prop) : Prop :=
  match fn.body with
  | some c => den cx fn.ntmps plan c ⟨argSlX 0 args, [], [], []⟩ w fun e s w' =>
    match e with
    | .nrm => expose s w' (resOps fn.results.toList) fun s => offs s.df w' fun w' => rets cx ⟨s.sl, s.bx, s.ro, []⟩ w' fn.results.toList fun vs => R (tup vs) w'
    | .ret => expose s w' (resOps fn.results.toList) fun s => offs s.df w' fun w' => rets cx ⟨s.sl, s.bx, s.ro, []⟩ w' fn.results.toList fun vs => R (tup vs) w'
    | _ => False
  | none => False
end Go.Sh

/- What 'sem1' says of an operation is what it does. -/
namespace Go.Sh
open Go.RowKit

/-- How a callee ends. -/
def Ans (K : Value → World → Prop) : Ending → World → Prop
  | .returned v, w => K v w
  | _, _ => False
/-- A yield: what is known of its round. -/
def YOk (P : Program) (v : Value) (E : List Value → (Bool → World → Prop) → World → Prop) : Prop :=
  ∃ l, v = .func (.yield l) #[] #[] ∧ ∀ vs K w, E vs K w → ∃ fn tmps assign body, (Instr.yield l vs.toArray).run P w = .ok (.round l fn tmps assign body) w ∧ RoundIn Fence.wide 0 P l fn tmps assign body w (Ans fun v w' => ∃ b, v = .bool b ∧ K b w')
def XOk (P : Program) (x : X) : Prop := ∀ v E, x = .yl v E → YOk P v E
def LocOk (P : Program) (s : S) (x : X) : Prop := (∀ d off, x = .loc d off → ∃ b, find s.bx d = some b) ∧ XOk P x

def markOf (D : Nat) : Deferred := { target := .collected D, args := #[] }

structure Rel (P : Program) (n : Nat) (s : S) (a : Act) (w : World) : Prop where
  sl : ∀ t x, find s.sl t = some x → x ≠ .bad → a.tmps[t]? = some (conc s.bx x) ∧ LocOk P s x
  size : a.tmps.size = n
  df : a.defers = s.df.map markOf
  dfw : ∀ D ∈ s.df, D ∈ s.ro ∧ w.heap[D]? = some (.deferred (some []))
  dfn : s.df.Nodup
  bx : ∀ d b, find s.bx d = some b → (b.m ≠ .out → Blk w b.b b.cs) ∧ (b.m = .rw → b.b ∉ s.ro) ∧ (b.m = .ro → b.b ∈ s.ro)
  dist : ∀ d d' b b', d ≠ d' → find s.bx d = some b → find s.bx d' = some b' → b.m ≠ .out → b'.m ≠ .out → b.b ≠ b'.b
  ro : ∀ b ∈ s.ro, b < w.heap.size

theorem xok_v {P : Program} (v : Value) : XOk P (.v v) := fun _ _ e => by cases e
theorem xok_loc {P : Program} (d o : Nat) : XOk P (.loc d o) := fun _ _ e => by cases e
theorem xok_clo {P : Program} (f : FuncId) (i c : List Value) : XOk P (.clo f i c) := fun _ _ e => by cases e

section
variable {cx : Cx} {n : Nat} {s : S} {a : Act} {w : World}

theorem ev_ok (h : Rel cx.P n s a w) {o : Operand} {x : X} (e : ev s o = some x) : a.eval o = conc s.bx x ∧ LocOk cx.P s x := by
  cases o with
  | tmp t =>
    have e' : find s.sl t = some x ∧ x ≠ .bad := by
      simp only [ev] at e
      split at e
      · cases e
      · rename_i hne; exact ⟨e, fun hx => hne (by rw [e, hx])⟩
    obtain ⟨h1, h2⟩ := h.sl t x e'.1 e'.2
    refine ⟨?_, h2⟩
    simp only [Act.eval]
    rw [Array.getD_eq_getD_getElem?, h1]
    rfl
  | const v => simp only [ev, Option.some.injEq] at e; subst e; exact ⟨rfl, fun d off h => (by cases h), xok_v _⟩
  | func f => simp only [ev, Option.some.injEq] at e; subst e; exact ⟨rfl, fun d off h => (by cases h), xok_clo _ _ _⟩
  | global g => simp only [ev, Option.some.injEq] at e; subst e; exact ⟨rfl, fun d off h => (by cases h), xok_v _⟩

def NotLoc (x : X) : Prop := ∀ d off, x ≠ .loc d off
def ArgOk (P : Program) (x : X) : Prop := NotLoc x ∧ XOk P x
theorem conc_of {bx : List (Nat × Bx)} {x : X} (h : NotLoc x) : conc bx x = cc x := by
  cases x with
  | loc d off => exact absurd rfl (h d off)
  | _ => rfl

theorem evc_ok (h : Rel cx.P n s a w) {o : Operand} {x : X} (e : evc s o = some x) : a.eval o = cc x ∧ ArgOk cx.P x := by
  unfold evc at e
  split at e
  · rename_i d off hev
    obtain ⟨h1, h2⟩ := ev_ok h hev
    split at e
    · rename_i b cs hb
      injection e with e
      subst e
      refine ⟨?_, fun d off h => (by cases h), xok_v _⟩
      rw [h1]; simp [conc, hb, cc]
    · cases e
  · rename_i hne
    obtain ⟨h1, h2⟩ := ev_ok h e
    have : NotLoc x := fun d off hx => hne d off (by rw [← hx, ← e])
    exact ⟨by rw [h1, conc_of this], this, h2.2⟩

theorem evs_ok (h : Rel cx.P n s a w) : ∀ {l : List Operand} {xs : List X}, evs s l = some xs → l.map a.eval = xs.map cc ∧ ∀ x ∈ xs, ArgOk cx.P x
  | [], xs, e => by simp only [evs, Option.some.injEq] at e; subst e; exact ⟨rfl, fun x h => by cases h⟩
  | o :: l, xs, e => by
    simp only [evs] at e
    split at e
    · rename_i f i cap ys h1 h2
      injection e with e
      subst e
      obtain ⟨g1, g2⟩ := evc_ok h h1
      obtain ⟨g3, g4⟩ := evs_ok h h2
      exact ⟨by simp [g1, g3, cc], fun x hx => by rcases List.mem_cons.1 hx with rfl | hx; exact ⟨fun d off h => (by cases h), xok_v _⟩; exact g4 x hx⟩
    · rename_i x ys h1 h2
      injection e with e
      subst e
      obtain ⟨g1, g2⟩ := evc_ok h h1
      obtain ⟨g3, g4⟩ := evs_ok h h2
      exact ⟨by simp [g1, g3], fun x hx => by rcases List.mem_cons.1 hx with rfl | hx; exact g2; exact g4 x hx⟩
    · cases e

theorem valOf_ok {x : X} {v : Value} (h : valOf x = some v) : cc x = v := by
  cases x <;> simp [valOf] at h <;> simp [cc, h]
theorem vals_ok : ∀ {xs : List X} {vs : List Value}, vals xs = some vs → xs.map cc = vs
  | [], vs, h => by simp only [vals, Option.some.injEq] at h; subst h; rfl
  | x :: l, vs, h => by
    simp only [vals] at h
    split at h
    · rename_i v us h1 h2
      injection h with h
      subst h
      simp [valOf_ok h1, vals_ok h2]
    · cases h

theorem evv_ok (h : Rel cx.P n s a w) {o : Operand} {v : Value} (e : evv s o = some v) : a.eval o = v := by
  unfold evv at e
  split at e
  · rename_i x hx
    rw [(evc_ok h hx).1, valOf_ok e]
  · cases e

theorem evvs_ok (h : Rel cx.P n s a w) : ∀ {l : List Operand} {vs : List Value}, evvs s l = some vs → l.map a.eval = vs
  | [], vs, e => by simp only [evvs, Option.some.injEq] at e; subst e; rfl
  | o :: l, vs, e => by
    simp only [evvs] at e
    split at e
    · rename_i x ys h1 h2
      injection e with e
      subst e
      simp [evv_ok h h1, evvs_ok h h2]
    · cases e

theorem evps_ok (h : Rel cx.P n s a w) : ∀ {l : List (Nat × Operand)} {vs : List (Nat × Value)}, evps s l = some vs → l.map (fun p => (p.1, a.eval p.2)) = vs
  | [], vs, e => by simp only [evps, Option.some.injEq] at e; subst e; rfl
  | (i, o) :: l, vs, e => by
    simp only [evps] at e
    split at e
    · rename_i x ys h1 h2
      injection e with e
      subst e
      simp [evv_ok h h1, evps_ok h h2]
    · cases e

/-! ### Types -/
theorem sizeB_ok {P : Program} {t : TypeId} {k : Nat} (h : sizeB P t k = true) : ∃ i, P.info? t = some i ∧ i.size = k := by
  unfold sizeB at h
  split at h
  · rename_i i hi; exact ⟨i, hi, Nat.eq_of_beq_eq_true h⟩
  · cases h
theorem sliceB_ok {P : Program} {t e : TypeId} (h : sliceB P t = some e) : P.underlying t = some (.slice e) := by
  unfold sliceB at h
  split at h
  · rename_i u hu; injection h with h; subst h; exact hu
  · cases h
structure ElOk (P : Program) (t e : TypeId) (i : TypeInfo) (z : Value) (sz bytes : Nat) (zs : List Value) : Prop where
  un : P.underlying t = some (.slice e)
  info : P.info? e = some i
  zero : i.zero = some z
  size : i.size = sz
  bytes : i.bytes = bytes
  cells : z.cells.toList = zs
  len : zs.length = sz
  pos : 0 < sz
theorem elB_ok {P : Program} {t : TypeId} {sz bytes : Nat} {zs : List Value} (h : elB P t = some (sz, bytes, zs)) : ∃ e i z, ElOk P t e i z sz bytes zs := by
  unfold elB at h
  split at h
  · rename_i e he
    split at h
    · rename_i i hi
      split at h
      · rename_i z hz
        split at h
        · rename_i hb
          simp only [Option.some.injEq, Prod.mk.injEq] at h
          obtain ⟨h1, h2, h3⟩ := h
          simp only [Bool.and_eq_true, Bool.not_eq_true'] at hb
          have hb1 := Nat.eq_of_beq_eq_true hb.1
          have hb2 := Nat.ne_of_beq_eq_false hb.2
          exact ⟨e, i, z, sliceB_ok he, hi, hz, h1, h2, h3, by rw [← h3, ← h1]; exact hb1, by omega⟩
        · cases h
      · cases h
    · cases h
  · cases h
theorem fieldB_ok {P : Program} {t : TypeId} {f off : Nat} {ft : TypeId} (h : fieldB P t f = some (off, ft)) : ∃ fs fd, P.underlying t = some (.struct fs) ∧ fs[f]? = some fd ∧ fd.offset = off ∧ fd.type = ft := by
  unfold fieldB at h
  split at h
  · rename_i fs hfs
    split at h
    · rename_i fd hfd
      simp only [Option.some.injEq, Prod.mk.injEq] at h
      exact ⟨fs, fd, hfs, hfd, h.1, h.2⟩
    · cases h
  · cases h
theorem intB_ok {P : Program} {t : TypeId} {k : IntKind} (h : intB P t = some k) : P.underlying t = some (.int k) := by
  unfold intB at h
  split at h
  · rename_i u hu; injection h with h; subst h; exact hu
  · cases h
theorem isAgg_run {P : Program} (t : TypeId) (h : (P.underlying t).isSome = true) (w : World) : (isAgg t).run P w = .ok (isAggB P t) w := by
  obtain ⟨d, hd⟩ := Option.isSome_iff_exists.1 h
  unfold isAgg isAggB
  simp only [Sem.run_bind, run_underlying hd, Result.andThen_ok]
  rw [hd]
  cases d <;> rfl

/-! ### Pure operations -/
theorem locOk_v {P : Program} (v : Value) : LocOk P s (.v v) := ⟨fun d off h => (by cases h), xok_v v⟩

theorem semBin_ok {op : BinOp} {x y : Value} {V : (X → Prop) → Prop} (h : semBin op x y = .pure V) {K : X → Prop} (hv : V K) (t : TypeId) (ox oy : Operand) :
    ∃ v, K (.v v) ∧ ∀ P w, (do eqGuard op t ox oy x y; binOp op t x y).run P w = .ok v w := by
  unfold semBin at h
  split at h
  all_goals first
    | (cases h; done)
    | (injection h with h
       subst h
       obtain ⟨hb, hv⟩ := hv
       exact ⟨_, hv, fun P w => by
         have hn : ¬ (_ : Int) < 0 := Int.not_lt.2 hb
         simp [eqGuard, binOp, Op.shift, hn, bshr]⟩)
    | (split at h
       · rename_i hk
         have hk := kEq_spec hk
         subst hk
         injection h with h
         subst h
         first
           | exact ⟨_, hv, fun P w => by simp [eqGuard, binOp, Op.intArith, Op.intCmp, Op.intBits, bxor]⟩
           | (split at hv
              · exact hv.elim
              · rename_i hb
                exact ⟨_, hv, fun P w => by simp [eqGuard, binOp, Op.intDiv, hb]⟩)
       · cases h)

theorem eq_bool {P : Program} {t : TypeId} (hu : P.underlying t = some .bool) (d : Nat) (a b : Bool) (w : World) : (Op.equalIn (d + 1) t (.bool a) (.bool b)).run P w = .ok (a == b) w := by
  simp [Op.equalIn, run_underlying hu]
theorem eq_ptr {P : Program} {t e : TypeId} (hu : P.underlying t = some (.pointer e)) (d : Nat) (p : Option Addr) (w : World) : (Op.equalIn (d + 1) t (.pointer p) (.pointer none)).run P w = .ok p.isNone w := by
  cases p <;> simp [Op.equalIn, run_underlying hu]

theorem eq_slice {P : Program} {t e : TypeId} (hu : P.underlying t = some (.slice e)) (d : Nat) (p : Option Addr) (n c m k : Nat) (w : World) : (Op.equalIn (d + 1) t (.slice p n c) (.slice none m k)).run P w = .ok p.isNone w := by
  cases p <;> simp [Op.equalIn, run_underlying hu]

theorem part_ok {P : Program} {t : TypeId} {cs : Array Value} {off : Nat} {v : Value} (h : partB P t cs off = some v) (w : World) : (part t cs off).run P w = .ok v w := by
  unfold partB at h
  split at h
  · rename_i hag
    split at h
    · rename_i i hi
      injection h with h
      subst h
      have hu : (P.underlying t).isSome = true := by
        unfold isAggB at hag
        split at hag <;> simp_all
      simp only [part, Sem.run_bind, isAgg_run t hu w, Result.andThen_ok, hag, if_true]
      simp only [sizeOf, typeInfo, Sem.run_bind]
      simp [hi]
      apply Array.ext'
      simp
    · cases h
  · rename_i hag
    split at h
    · rename_i hu
      have h' : cs[off]? = some v := by rw [← Array.getElem?_toList]; exact h
      simp only [part, Sem.run_bind, isAgg_run t hu w, Result.andThen_ok, hag]
      simp [h']
    · cases h

theorem eqFs_ok {P : Program} {d e : Nat} {xs ys : Array Value} (ih : ∀ {t : TypeId} {x y : Value} {b : Bool}, eqV P d t x y = some b → ∀ w, (Op.equalIn e t x y).run P w = .ok b w) :
    ∀ (fs : List Field) (b : Bool), fs.foldr (fun f acc => match f.name == "_", partB P f.type xs f.offset, partB P f.type ys f.offset with
          | false, some u, some v => (match eqV P d f.type u v, acc with | some b, some r => some (b && r) | _, _ => none)
          | _, _, _ => none) (some true) = some b → ∀ w, (do
      let r ← forIn fs ((none, ()) : Option Bool × Unit) fun f _ =>
          if f.name ≠ "_" then do
            let x ← part f.type xs f.offset
            let y ← part f.type ys f.offset
            let q ← Op.equalIn e f.type x y
            if (!q) = true then pure (ForInStep.done (some false, ())) else pure (ForInStep.yield (none, ()))
          else pure (ForInStep.yield (none, ()))
      match r.fst with
      | some r => pure r
      | none => pure true : Sem Bool).run P w = .ok b w
  | [], b, h, w => by
    simp only [List.foldr_nil, Option.some.injEq] at h
    subst h
    simp
  | f :: fs, b, h, w => by
    simp only [List.foldr_cons] at h
    split at h
    · rename_i u v hn hu hv
      split at h
      · rename_i b1 r hb hr
        injection h with h
        subst h
        have hn' : f.name ≠ "_" := by simpa using hn
        have ih2 := eqFs_ok ih fs r hr w
        simp only [List.forIn_cons, Sem.run_bind, hn', ne_eq, not_false_eq_true, if_true, part_ok hu, part_ok hv, Result.andThen_ok, ih hb] at ih2 ⊢
        cases b1 with
        | false => simp
        | true => simpa using ih2
      · cases h
    · cases h

theorem eqV_ok {P : Program} (e : Nat) : ∀ {d : Nat} {t : TypeId} {x y : Value} {b : Bool}, eqV P d t x y = some b → ∀ w, (Op.equalIn (d + e) t x y).run P w = .ok b w
  | 0, t, x, y, b, h, w => by simp [eqV] at h
  | d + 1, t, x, y, b, h, w => by
    rw [show d + 1 + e = (d + e) + 1 by omega]
    simp only [eqV] at h
    split at h
    · rename_i hu
      split at h
      · injection h with h; subst h; simp [Op.equalIn, run_underlying hu]
      · cases h
    · rename_i k hu
      split at h
      · split at h
        · rename_i hk
          have hk := kEq_spec hk
          subst hk
          injection h with h; subst h; simp [Op.equalIn, run_underlying hu]
        · cases h
      · cases h
    · rename_i fs hu
      split at h
      · split at h
        · cases h
        · rename_i hs
          have := eqFs_ok (eqV_ok e (d := d)) fs.toList b h w
          simp only [Op.equalIn, Sem.run_bind, run_underlying hu, Result.andThen_ok, run_program, hs, Bool.false_eq_true, if_false]
          rw [← Array.forIn_toList]
          rw [Sem.run_bind] at this
          refine Eq.trans ?_ this
          congr 1
          funext a w'
          cases a.1 <;> rfl
      · cases h
    · cases h

theorem eqV_guard {P : Program} {t : TypeId} {xs ys : Array Value} (hg : P.eqGuardType P.depth t = false) (op : BinOp) (ox oy : Operand) (w : World) : (eqGuard op t ox oy (.agg xs) (.agg ys)).run P w = .ok () w := by
  cases op <;> simp [eqGuard, run_program, hg]

theorem eqV_agg {P : Program} {d : Nat} {t : TypeId} {x y : Value} {b : Bool} {fs : Array Field} (hu : P.underlying t = some (.struct fs)) (h : eqV P d t x y = some b) : ∃ xs ys, x = .agg xs ∧ y = .agg ys := by
  cases d with
  | zero => simp [eqV] at h
  | succ d =>
    simp only [eqV, hu] at h
    split at h
    · exact ⟨_, _, rfl, rfl⟩
    · cases h

theorem semBinT_ok {P : Program} {op : BinOp} {t : TypeId} {x y : Value} {V : (X → Prop) → Prop} (h : semBinT P op t x y = .pure V) {K : X → Prop} (hv : V K) (ox oy : Operand) :
    ∃ v, K (.v v) ∧ ∀ w, (do eqGuard op t ox oy x y; binOp op t x y).run P w = .ok v w := by
  unfold semBinT at h
  split at h
  · rename_i a b hu
    injection h with h; subst h
    exact ⟨_, hv, fun w => by
      have := eq_bool hu 9999 a b w
      simp [eqGuard, binOp, Op.equal, Op.maxDepth, this]⟩
  · rename_i a b hu
    injection h with h; subst h
    exact ⟨_, hv, fun w => by
      have := eq_bool hu 9999 a b w
      simp [eqGuard, binOp, Op.equal, Op.maxDepth, this]⟩
  · rename_i e p hu
    injection h with h; subst h
    exact ⟨_, hv, fun w => by
      have := eq_ptr hu 9999 p w
      simp [eqGuard, binOp, Op.equal, Op.maxDepth, this]⟩
  · rename_i e p hu
    injection h with h; subst h
    exact ⟨_, hv, fun w => by
      have := eq_ptr hu 9999 p w
      simp [eqGuard, binOp, Op.equal, Op.maxDepth, this]⟩
  · rename_i e p n c m k hu
    injection h with h; subst h
    exact ⟨_, hv, fun w => by
      have := eq_slice hu 9999 p n c m k w
      simp [eqGuard, binOp, Op.equal, Op.maxDepth, this]⟩
  · rename_i e p n c m k hu
    injection h with h; subst h
    exact ⟨_, hv, fun w => by
      have := eq_slice hu 9999 p n c m k w
      simp [eqGuard, binOp, Op.equal, Op.maxDepth, this]⟩
  · obtain ⟨v, h1, h2⟩ := semBin_ok h hv t ox oy
    exact ⟨v, h1, fun w => h2 P w⟩
  · split at h
    · rename_i b hb hg
      injection h with h; subst h
      exact ⟨_, hv, fun w => by
        obtain ⟨xs, ys, rfl, rfl⟩ := eqV_agg (by assumption) hb
        have h1 := eqV_ok 9990 hb w
        simp only [Sem.run_bind, eqV_guard hg, Result.andThen_ok, binOp, Op.equal, Op.maxDepth]
        rw [show (10000 : Nat) = 10 + 9990 from rfl, h1]
        rfl⟩
    · cases h
  · split at h
    · rename_i b hb hg
      injection h with h; subst h
      exact ⟨_, hv, fun w => by
        obtain ⟨xs, ys, rfl, rfl⟩ := eqV_agg (by assumption) hb
        have h1 := eqV_ok 9990 hb w
        simp only [Sem.run_bind, eqV_guard hg, Result.andThen_ok, binOp, Op.equal, Op.maxDepth]
        rw [show (10000 : Nat) = 10 + 9990 from rfl, h1]
        rfl⟩
    · cases h
  · cases h
end
end Go.Sh

/- What 'sem1' says of an operation is what it does: all operations. -/
namespace Go.Sh
open Go.RowKit

def SemOk (cx : Cx) (s : S) (a : Act) (o : Oper) (w : World) : OpR → Prop
  | .pure V => ∀ K, V K → ∃ x, K x ∧ LocOk cx.P s x ∧ ∀ w', (execOp a.eval o).run cx.P w' = .ok (.value (conc s.bx x)) w'
  | .read R => ∀ K, R w K → ∃ x, K x ∧ LocOk cx.P s x ∧ ∀ w', Ext w w' → (execOp a.eval o).run cx.P w' = .ok (.value (conc s.bx x)) w'
  | .box cs => ∃ T, ∀ w', (execOp a.eval o).run cx.P w' = .ok (.value (.pointer (some ⟨w'.heap.size, 0, none⟩))) (w'.alloc (.cells cs.toArray T))
  | .boxV v => v.cells.toList = [v] → ∃ T, ∀ w', (execOp a.eval o).run cx.P w' = .ok (.value (.pointer (some ⟨w'.heap.size, 0, none⟩))) (w'.alloc (.cells #[v] T))
  | .new N => ∀ w1 K, N w1 K → ∃ x w2, (execOp a.eval o).run cx.P w1 = .ok (.value (cc x)) w2 ∧ ArgOk cx.P x ∧ Ext w1 w2 ∧ K x w2
  | .big B => ∀ w1 K, B w1 K → ∃ x w2, ((execOp a.eval o).run cx.P w1 = .ok (.value (cc x)) w2 ∨ ((execOp a.eval o).run cx.P w1 = .ok .skip w2 ∧ x = .v undef)) ∧ ArgOk cx.P x ∧ w1.heap.size ≤ w2.heap.size ∧ K x w2
  | .lst d b cs => ∃ cs0, find s.bx d = some ⟨b, cs0, .rw⟩ ∧ ∀ w1, Blk w1 b cs0 → ∃ w2, (execOp a.eval o).run cx.P w1 = .ok .skip w2 ∧ Off b w1 w2 ∧ Blk w2 b cs
  | .call f xs => (∀ x ∈ xs, ArgOk cx.P x) ∧ ∀ w', (execOp a.eval o).run cx.P w' = .ok (.enter f (xs.map cc).toArray) w'
  | .callV v vs _ => ∀ w', (execOp a.eval o).run cx.P w' = (do let d ← Deferred.ofValue v vs.toArray; invoke d.target d.args).run cx.P w'
  | .yield E v vs => YOk cx.P v E ∧ ∀ w', (execOp a.eval o).run cx.P w' = (do let d ← Deferred.ofValue v vs.toArray; invoke d.target d.args).run cx.P w'
  | .bad => True

theorem BoxV.cells {v : Value} {k : Prop} (h : BoxV v k) : v.cells.toList = [v] ∧ k := by
  cases v <;> first
    | exact ⟨rfl, h⟩
    | exact ⟨rfl, h.2⟩
    | (have := h.1; simp [one] at this; done)
theorem notLoc_v (v : Value) : NotLoc (.v v) := fun d off h => by cases h
theorem argOk_v {P : Program} (v : Value) : ArgOk P (.v v) := ⟨notLoc_v v, xok_v v⟩

section
variable {cx : Cx} {n : Nat} {s : S} {a : Act} {w : World}

theorem add_add (p : Addr) (hp : p.spot = none) (i : Nat) : p.add i = ⟨p.block, p.off + i, none⟩ := by
  unfold Addr.add
  split
  · rename_i h; subst h; cases p; simp at hp; simp [hp]
  · cases p; simp

theorem cell_blk {w : World} {b : Nat} {cs : List Value} (h : Blk w b cs) (i : Nat) : w.cell? ⟨b, i, none⟩ = cs[i]? := by
  obtain ⟨T, h⟩ := h
  simp [World.cell?, h]
theorem frozen_blk {w : World} {b : Nat} {cs : List Value} (h : Blk w b cs) (i : Nat) : w.frozen? ⟨b, i, none⟩ = false := by
  obtain ⟨T, h⟩ := h
  simp [World.frozen?, h]
theorem blk_lt {w : World} {b : Nat} {cs : List Value} (h : Blk w b cs) : b < w.heap.size := by
  obtain ⟨T, h⟩ := h
  exact (Array.getElem?_eq_some_iff.1 h).1
theorem Ext.blkE {w w' : World} (h : Ext w w') {b : Nat} {cs : List Value} (hb : Blk w b cs) : Blk w' b cs := by
  have hl := blk_lt hb
  obtain ⟨T, hb⟩ := hb
  exact ⟨T, by rw [h.blk hl]; exact hb⟩
theorem Ext.cell {w w' : World} (h : Ext w w') {p : Addr} {v : Value} (hc : w.cell? p = some v) : w'.cell? p = some v := by
  rw [Below.cell h (World.block_lt_of_cell? w p hc)]; exact hc

/-- Cells read one behind the other. -/
theorem rdL_ok {w : World} {p : Addr} : ∀ (l : List Shp) (j : Nat) (K : List Value → Prop), rdL w p l j K → ∃ vs, K vs ∧ vs.length = l.length ∧ ∀ i v, vs[i]? = some v → w.cell? (p.add (j + i)) = some v
  | [], j, K, h => ⟨[], h, rfl, fun i v hv => by simp at hv⟩
  | σ :: l, j, K, h => by
    obtain ⟨x, hx, hr⟩ := h
    obtain ⟨vs, h1, h2, h3⟩ := rdL_ok l (j + 1) _ hr
    refine ⟨_, h1, by simp [h2], fun i v hv => ?_⟩
    cases i with
    | zero => simp at hv; subst hv; exact hx
    | succ i => simp at hv; have := h3 i v hv; rw [show j + (i + 1) = j + 1 + i by omega]; exact this

theorem oneCell_of {v : Value} (h : one v = true) : v.oneCell' = true := by cases v <;> first | rfl | (cases h)

/-- Cells written one behind the other. -/
theorem stL_ok {P : Program} {p : Addr} : ∀ (vs : List Value) (j : Nat) (w : World) (K : World → Prop), (∀ v ∈ vs, one v = true) → stL w p vs j K →
    ∃ w2, (storeCells p vs j).run P w = .ok () w2 ∧ w2.heap.size = w.heap.size ∧ K w2
  | [], j, w, K, _, h => ⟨w, rfl, rfl, h⟩
  | v :: l, j, w, K, h1, h => by
    obtain ⟨g1, g2, g3⟩ := h
    obtain ⟨u, hu⟩ := Option.isSome_iff_exists.1 g1
    obtain ⟨w2, r1, r2, r3⟩ := stL_ok (P := P) l (j + 1) _ K (fun v hv => h1 v (List.mem_cons_of_mem _ hv)) g3
    refine ⟨w2, ?_, by rw [r2]; simp, r3⟩
    simp only [storeCells, Sem.run_bind]
    rw [run_store _ _ _ _ _ (oneCell_of (h1 v List.mem_cons_self)), hu]
    simp only [g2, Bool.false_eq_true, if_false, Result.andThen_ok]
    exact r1

theorem storeVar_run {P : Program} {t : TypeId} {p : Addr} {v : Value} (hs : sizeB P t v.cells.toList.length = true) (w : World) : (storeVar t p v).run P w = (storeCells p v.cells.toList).run P w := by
  obtain ⟨i, hi, hsz⟩ := sizeB_ok hs
  have : ¬ (v.cells.size ≠ i.size) := by rw [hsz]; simp
  simp [storeVar, sizeOf, typeInfo, hi, this]

/-- Stores into a block that is known whole. -/
theorem storeBlk {P : Program} {b : Nat} : ∀ (vs : List Value) (o j : Nat) (cs : List Value) (w : World), (∀ v ∈ vs, one v = true) → o + j + vs.length ≤ cs.length → Blk w b cs →
    ∃ w2, (storeCells ⟨b, o, none⟩ vs j).run P w = .ok () w2 ∧ Off b w w2 ∧ Blk w2 b (putAt cs (o + j) vs)
  | [], o, j, cs, w, _, _, hb => ⟨w, rfl, ⟨rfl, rfl, rfl, rfl, fun _ _ => rfl⟩, by simpa [putAt] using hb⟩
  | v :: l, o, j, cs, w, h1, hl, hb => by
    simp only [List.length_cons] at hl
    have hc := cell_blk hb (o + j)
    rw [List.getElem?_eq_getElem (by omega)] at hc
    have hf := frozen_blk hb (o + j)
    have hb' : Blk (w.setCell ⟨b, o + j, none⟩ v) b (cs.set (o + j) v) := by
      obtain ⟨T, hT⟩ := hb
      exact ⟨T, by simp [World.setCell, Array.getElem?_modify, hT]⟩
    obtain ⟨w2, r1, r2, r3⟩ := storeBlk (P := P) l o (j + 1) (cs.set (o + j) v) _ (fun v hv => h1 v (List.mem_cons_of_mem _ hv)) (by simp; omega) hb'
    refine ⟨w2, ?_, ?_, ?_⟩
    · simp only [storeCells, Sem.run_bind, add_add]
      rw [run_store _ _ _ _ _ (oneCell_of (h1 v List.mem_cons_self)), hc]
      simp only [hf, Bool.false_eq_true, if_false, Result.andThen_ok]
      exact r1
    · refine ⟨r2.os, r2.tape, r2.output, by rw [r2.size]; simp, fun k hk => ?_⟩
      rw [r2.block k hk]
      exact Below.heap_setCell _ _ _ _ hk
    · have e : putAt (cs.set (o + j) v) (o + (j + 1)) l = putAt cs (o + j) (v :: l) := by
        unfold putAt
        have e1 : (cs.set (o + j) v).take (o + (j + 1)) = cs.take (o + j) ++ [v] := by
          rw [show o + (j + 1) = o + j + 1 by omega, List.take_succ_eq_append_getElem (by simp; omega)]
          simp [List.take_set_of_le]
        have e2 : (cs.set (o + j) v).drop (o + (j + 1) + l.length) = cs.drop (o + j + (v :: l).length) := by
          rw [List.drop_set_of_lt (by omega)]
          simp only [List.length_cons]
          rw [show o + (j + 1) + l.length = o + j + (l.length + 1) by omega]
        rw [e1, e2]
        simp
      rw [e] at r3
      exact r3

theorem foldInt_min {k : IntKind} : ∀ (l : List X) (a r : Int), foldInt (fun x y => if y < x then y else x) k a l = some r → ∀ P w, ((l.map cc).foldlM Builtin.min2 (.int k a)).run P w = .ok (.int k r) w
  | [], a, r, h, P, w => by simp [foldInt] at h; subst h; rfl
  | x :: l, a, r, h, P, w => by
    cases x with
    | v x =>
      cases x with
      | int j b =>
        simp only [foldInt] at h
        split at h
        · have := foldInt_min l _ r h P w
          simpa [Builtin.min2, cc, List.foldlM] using this
        · cases h
      | _ => simp [foldInt] at h
    | _ => simp [foldInt] at h
theorem foldInt_max {k : IntKind} : ∀ (l : List X) (a r : Int), foldInt (fun x y => if y > x then y else x) k a l = some r → ∀ P w, ((l.map cc).foldlM Builtin.max2 (.int k a)).run P w = .ok (.int k r) w
  | [], a, r, h, P, w => by simp [foldInt] at h; subst h; rfl
  | x :: l, a, r, h, P, w => by
    cases x with
    | v x =>
      cases x with
      | int j b =>
        simp only [foldInt] at h
        split at h
        · have := foldInt_max l _ r h P w
          simpa [Builtin.max2, cc, List.foldlM] using this
        · cases h
      | _ => simp [foldInt] at h
    | _ => simp [foldInt] at h

theorem noBody_ok {P : Program} {f : FuncId} (h : noBodyB P f = true) (args : Array Value) (w : World) : (callFunc f args).run P w = .ok (.enter f args) w := by
  unfold noBodyB at h
  split at h
  · rename_i fn hf
    simp only [Bool.and_eq_true, Bool.not_eq_true'] at h
    have h1 : fn.body ≠ none := by intro hb; rw [hb] at h; simp at h
    have h2 : fn.name ≠ "runtime.NumGoroutine" := beq_eq_false_iff_ne.1 h.2
    simp [callFunc, hf, h2, h1]
  · cases h

/-- Stores at cells that are there. -/
theorem storeAt_ok {P : Program} {b : Nat} : ∀ (vs : List Value) (o j : Nat) (w : World), (∀ v ∈ vs, one v = true) → (∀ i, i < vs.length → (w.cell? ⟨b, o + j + i, none⟩).isSome = true) → (∀ i, i < vs.length → w.frozen? ⟨b, o + j + i, none⟩ = false) →
    ∃ w2, (storeCells ⟨b, o, none⟩ vs j).run P w = .ok () w2 ∧ Off b w w2 ∧ (∀ i v, vs[i]? = some v → w2.cell? ⟨b, o + j + i, none⟩ = some v) ∧
      (∀ k, (k < o + j ∨ o + j + vs.length ≤ k) → w2.cell? ⟨b, k, none⟩ = w.cell? ⟨b, k, none⟩) ∧ (∀ cs, Blk w b cs → ∃ cs', Blk w2 b cs' ∧ cs'.length = cs.length)
  | [], o, j, w, _, _, _ => ⟨w, rfl, ⟨rfl, rfl, rfl, rfl, fun _ _ => rfl⟩, fun i v h => by simp at h, fun _ _ => rfl, fun cs h => ⟨cs, h, rfl⟩⟩
  | v :: l, o, j, w, h1, hc, hf => by
    obtain ⟨u, hu⟩ := Option.isSome_iff_exists.1 (hc 0 (by simp))
    have hf0 := hf 0 (by simp)
    simp only [Nat.add_zero] at hu hf0
    have ne : ∀ k, k ≠ o + j → (w.setCell ⟨b, o + j, none⟩ v).cell? ⟨b, k, none⟩ = w.cell? ⟨b, k, none⟩ := fun k hk => World.cell?_setCell_other _ _ _ _ (by intro e; injection e with _ e; exact hk e.symm)
    obtain ⟨w2, r1, r2, r3, r4, r5⟩ := storeAt_ok (P := P) l o (j + 1) (w.setCell ⟨b, o + j, none⟩ v) (fun v hv => h1 v (List.mem_cons_of_mem _ hv))
      (fun i hi => by rw [ne _ (by omega)]; have := hc (i + 1) (by simp; omega); rw [show o + j + (i + 1) = o + (j + 1) + i by omega] at this; exact this)
      (fun i hi => by rw [World.frozen?_setCell]; have := hf (i + 1) (by simp; omega); rw [show o + j + (i + 1) = o + (j + 1) + i by omega] at this; exact this)
    refine ⟨w2, ?_, ⟨r2.os, r2.tape, r2.output, by rw [r2.size]; simp, fun k hk => by rw [r2.block k hk]; exact Below.heap_setCell _ _ _ _ hk⟩, fun i x hx => ?_, fun k hk => ?_, fun cs hcs => ?_⟩
    · simp only [storeCells, Sem.run_bind, add_add]
      rw [run_store _ _ _ _ _ (oneCell_of (h1 v List.mem_cons_self)), hu]
      simp only [hf0, Bool.false_eq_true, if_false, Result.andThen_ok]
      exact r1
    · cases i with
      | zero =>
        simp at hx; subst hx
        rw [Nat.add_zero, r4 _ (by omega)]
        exact World.cell?_setCell_same _ _ _ hu
      | succ i => simp at hx; have := r3 i x hx; rw [show o + j + (i + 1) = o + (j + 1) + i by omega]; exact this
    · simp only [List.length_cons] at hk
      rw [r4 k (by omega)]
      exact ne k (by omega)
    · have hb' : Blk (w.setCell ⟨b, o + j, none⟩ v) b (cs.set (o + j) v) := by
        obtain ⟨T, hcs⟩ := hcs
        exact ⟨T, by simp [World.setCell, Array.getElem?_modify, hcs]⟩
      obtain ⟨cs', h1, h2⟩ := r5 _ hb'
      exact ⟨cs', h1, by rw [h2]; simp⟩

theorem firstCells_ok {P : Program} {w : World} {a : Option Addr} {xs : List Value} {n c sz : Nat} (hl : xs.length = n * sz) (h : SlCells w a xs) : (Builtin.firstCells sz n (.slice a n c)).run P w = .ok xs.toArray w := by
  cases a with
  | none =>
    rcases h with h | ⟨p, h, _⟩
    · subst h; rfl
    · cases h
  | some p =>
    simp only [Builtin.firstCells]
    rw [← hl]
    rcases h with h | ⟨q, hq, h⟩
    · subst h; rfl
    · injection hq with hq; subst hq
      exact run_loadCells_list w p xs h

theorem firstCells_ok' {P : Program} {w : World} {a : Option Addr} {xs : List Value} {n c m sz : Nat} (hl : xs.length = n * sz) (h : SlCells w a xs) : (Builtin.firstCells sz n (.slice a m c)).run P w = .ok xs.toArray w := by
  have := firstCells_ok (P := P) (c := c) hl h
  cases a <;> simpa [Builtin.firstCells] using this

theorem zeros_eq (z : Value) (n : Nat) : (Builtin.zeroCells z.cells n).toList = zeros z.cells.toList n := by
  simp only [Builtin.zeroCells, zeros, Array.toList_map, Array.toList_range, Array.length_toList]
  apply List.map_congr_left
  intro i hi
  have hp : 0 < z.cells.size := by
    rcases Nat.eq_zero_or_pos z.cells.size with h | h
    · rw [h] at hi; simp at hi
    · exact h
  have := Nat.mod_lt i hp
  simp [this]

theorem nextcap_le (need old : Nat) (h : old < need) (hn : need ≤ 2 ^ 62) : ∀ by_ : Nat, need * by_ ≤ 2 ^ 47 → Builtin.nextslicecap need old * by_ ≤ 2 ^ 48 := by
  intro by_ hb
  have grow : ∀ (r c : Nat), c < need → Builtin.growBy need r c ≤ 2 * need ∨ (256 ≤ c → Builtin.growBy need r c ≤ 2 * need) := by
    intro r
    induction r with
    | zero => intro c hc; left; simp only [Builtin.growBy]; omega
    | succ r ih =>
      intro c hc
      simp only [Builtin.growBy]
      rw [if_neg (by omega)]
      by_cases hlt : c + (c + 768) / 4 < need
      · rcases ih _ hlt with h' | h'
        · exact .inl h'
        · exact .inr fun _ => h' (by omega)
      · right
        intro hc2
        cases r with
        | zero => simp only [Builtin.growBy]; omega
        | succ r => simp only [Builtin.growBy]; rw [if_pos (by omega)]; omega
  have h2 : Builtin.nextslicecap need old ≤ 2 * need := by
    unfold Builtin.nextslicecap
    split
    · omega
    · split
      · omega
      · rcases grow 4 old h with h' | h'
        · exact h'
        · exact h' (by omega)
  calc Builtin.nextslicecap need old * by_ ≤ (2 * need) * by_ := Nat.mul_le_mul_right _ h2
    _ = 2 * (need * by_) := by rw [Nat.mul_assoc]
    _ ≤ 2 * 2 ^ 47 := Nat.mul_le_mul_left _ hb
    _ = 2 ^ 48 := by decide

theorem app_ok {P : Program} {t e ty : TypeId} {i : TypeInfo} {z : Value} {sz bytes : Nat} {zs : List Value} (he : ElOk P t e i z sz bytes zs) (s x : SV) {w : World} {K : SV → World → Prop} (h : App bytes zs s x w K) :
    ∃ r w2, (Builtin.append_ #[t, t] ty #[.slice s.a s.len s.cap, .slice x.a x.len x.cap]).run P w = .ok (.slice r.a r.len r.cap) w2 ∧ w.heap.size ≤ w2.heap.size ∧ K r w2 := by
  obtain ⟨hb, h62, xs, hxl, hxs, h⟩ := h
  have hlen := he.len
  rw [hlen] at hxl h
  have hfx := firstCells_ok (P := P) (c := x.cap) hxl hxs
  have hint : ((P.underlying t).any fun d => match d with | .int _ => true | _ => false) = false := by rw [he.un]; rfl
  rcases h with ⟨hcap, hput, hK⟩ | ⟨hcap, os, hol, hos, hK⟩
  · -- there is room
    cases ha : s.a with
    | none =>
      refine ⟨⟨none, s.len + x.len, s.cap⟩, w, ?_, Nat.le_refl _, by rw [ha] at hK; exact hK w (fun p hp => by cases hp) (fun _ => rfl)⟩
      simp [Builtin.append_, run_underlying he.un, sizeOf, typeInfo, he.info, he.size, Builtin.lenOf, hcap, hfx]
    | some p =>
      by_cases hz : x.len * sz = 0
      · have hx0 : xs = [] := List.eq_nil_of_length_eq_zero (by rw [hxl]; exact hz)
        subst hx0
        refine ⟨⟨some p, s.len + x.len, s.cap⟩, w, ?_, Nat.le_refl _, ?_⟩
        · simp [Builtin.append_, run_underlying he.un, sizeOf, typeInfo, he.info, he.size, Builtin.lenOf, hcap, hfx, storeCells]
        · rw [ha] at hK
          exact hK w (fun q hq => ⟨⟨rfl, rfl, rfl, rfl, fun _ _ => rfl⟩, fun j v hv => by simp at hv, fun _ _ => rfl, fun cs h => ⟨cs, h, rfl⟩⟩) (fun hn => by cases hn)
      · rcases hput with h0 | ⟨q, hq, hsp, h1, hc, hf⟩
        · exact absurd h0 hz
        · rw [ha] at hq; injection hq with hq; subst hq
          have hadd : p.add (s.len * sz) = ⟨p.block, p.off + s.len * sz, none⟩ := add_add p hsp _
          obtain ⟨w2, r1, r2, r3, r4, r5⟩ := storeAt_ok (P := P) (b := p.block) xs (p.off + s.len * sz) 0 w h1 (fun j hj => by simpa using hc j hj) (fun j hj => by simpa using hf j hj)
          refine ⟨⟨some p, s.len + x.len, s.cap⟩, w2, ?_, by rw [r2.size]; exact Nat.le_refl _, ?_⟩
          · simp [Builtin.append_, run_underlying he.un, sizeOf, typeInfo, he.info, he.size, Builtin.lenOf, hcap, hfx, hadd, r1]
          · rw [ha] at hK
            exact hK w2 (fun q hq => by
              injection hq with hq; subst hq
              exact ⟨r2, fun j v hv => by simpa using r3 j v hv, fun o ho => r4 o (by omega), r5⟩) (fun hn => by cases hn)
  · -- it grows
    have hng : ¬ (s.len + x.len ≤ s.cap) := by omega
    have hfit : ¬ (2 ^ 48 < Builtin.nextslicecap (s.len + x.len) s.cap * i.bytes) := by
      have := nextcap_le (s.len + x.len) s.cap hcap (by omega) i.bytes (by rw [he.bytes]; exact hb)
      omega
    have hfo := firstCells_ok' (P := P) (c := s.cap) (m := s.len) hol hos
    have h63 : ¬ ((9223372036854775807 : Int) < ((s.len + x.len : Nat) : Int)) := by omega
    refine ⟨⟨some ⟨w.heap.size, 0, none⟩, s.len + x.len, grownCap w (s.len + x.len) s.cap e⟩, w.drew.alloc (.cells (os.toArray ++ xs.toArray ++ Builtin.zeroCells z.cells (grownCap w (s.len + x.len) s.cap e - (s.len + x.len))) e), ?_, by simp, ?_⟩
    · have hfx' := firstCells_ok (P := P) (w := w.drew) (c := x.cap) hxl hxs
      have hfo' := firstCells_ok' (P := P) (w := w.drew) (c := s.cap) (m := s.len) hol hos
      have h63' : ¬ ((9223372036854775807 : Int) < (s.len : Int) + (x.len : Int)) := by omega
      have hfit' : ¬ (281474976710656 < Builtin.nextslicecap (s.len + x.len) s.cap * i.bytes) := by omega
      simp [Builtin.append_, run_underlying he.un, sizeOf, typeInfo, zeroValue, he.info, he.zero, he.size, Builtin.lenOf, hng, hfit', h63', Question.forced, hfx', hfo', newRow, grownCap]
      congr 2
      apply Array.ext'
      simp [List.append_assoc]
    · refine hK _ _ _ ⟨rfl, rfl, rfl, by simp, fun k hk => Below.heap_alloc _ _ _ (by simpa using hk)⟩ (Nat.le_refl _) ?_ ⟨e, ?_⟩
      · exact Nat.le_add_right _ _
      · have hz2 := zeros_eq z (grownCap w (s.len + x.len) s.cap e - (s.len + x.len))
        rw [he.cells] at hz2
        have : (os ++ xs ++ zeros zs (grownCap w (s.len + x.len) s.cap e - (s.len + x.len))).toArray = os.toArray ++ xs.toArray ++ Builtin.zeroCells z.cells (grownCap w (s.len + x.len) s.cap e - (s.len + x.len)) := by
          rw [← hz2]; simp
        rw [this]
        show (w.heap.push _)[w.heap.size]? = _
        simp

theorem cpy_ok {P : Program} {t e ty : TypeId} {i : TypeInfo} {z : Value} {sz bytes : Nat} {zs : List Value} (he : ElOk P t e i z sz bytes zs) (s x : SV) {w : World} {K : World → Prop} (h : Cpy sz s x w K) :
    ∃ w2, (Builtin.copy_ #[t, t] ty #[.slice s.a s.len s.cap, .slice x.a x.len x.cap]).run P w = .ok (.int .i64 (min x.len s.len : Nat)) w2 ∧ w.heap.size ≤ w2.heap.size ∧ K w2 := by
  obtain ⟨xs, hxl, hxs, hput, hK⟩ := h
  have hfx := firstCells_ok' (P := P) (c := x.cap) (m := x.len) hxl hxs
  have hmin : ∀ a b : Nat, Nat.min a b = min a b := fun _ _ => rfl
  have hint : goInt ((min x.len s.len : Nat) : Int) = .int .i64 ((min x.len s.len : Nat) : Int) := rfl
  cases ha : s.a with
  | none =>
    have hx0 : xs = [] := by
      rcases hput with h | ⟨q, hq, _⟩
      · exact h
      · rw [ha] at hq; cases hq
    refine ⟨w, ?_, Nat.le_refl _, hK w (fun _ => rfl) (fun p hp => by rw [ha] at hp; cases hp)⟩
    simp [Builtin.copy_, run_underlying he.un, sizeOf, typeInfo, he.info, he.size, Builtin.lenOf, hmin, hfx, hint]
  | some p =>
    rcases hput with hx0 | ⟨q, hq, hsp, h1, hc, hf⟩
    · subst hx0
      refine ⟨w, ?_, Nat.le_refl _, hK w (fun _ => rfl) (fun p hp => ⟨⟨rfl, rfl, rfl, rfl, fun _ _ => rfl⟩, fun j v hv => by simp at hv, fun _ _ => rfl, fun cs h => ⟨cs, h, rfl⟩⟩)⟩
      simp [Builtin.copy_, run_underlying he.un, sizeOf, typeInfo, he.info, he.size, Builtin.lenOf, hmin, hfx, hint, storeCells]
    · rw [ha] at hq; injection hq with hq; subst hq
      obtain ⟨w2, r1, r2, r3, r4, r5⟩ := storeAt_ok (P := P) (b := p.block) xs p.off 0 w h1 (fun j hj => by simpa using hc j hj) (fun j hj => by simpa using hf j hj)
      have hp0 : p = ⟨p.block, p.off, none⟩ := by cases p; simp at hsp; subst hsp; rfl
      refine ⟨w2, ?_, by rw [r2.size]; exact Nat.le_refl _, hK w2 (fun hx => ?_) (fun q hq => by
        rw [ha] at hq
        injection hq with hq; subst hq
        exact ⟨r2, fun j v hv => by simpa using r3 j v hv, fun o ho => r4 o (by omega), r5⟩)⟩
      · rw [← hp0] at r1
        simp [Builtin.copy_, run_underlying he.un, sizeOf, typeInfo, he.info, he.size, Builtin.lenOf, hmin, hfx, hint, r1]
      · subst hx
        injection r1 with _ r1
        exact r1.symm
end
end Go.Sh

/- What 'sem1' says of an operation is what it does: the operations, one by one. -/
namespace Go.Sh
open Go.RowKit

section
variable {cx : Cx} {n : Nat} {s : S} {a : Act} {w : World} {o : Oper}

theorem conc_v (bx : List (Nat × Bx)) (v : Value) : conc bx (.v v) = v := rfl

theorem made_eq (z : Value) (k : Nat) : (madeCells z.cells (k * z.cells.toList.length)) = (zeros z.cells.toList k).toArray := by
  apply Array.ext'
  simp only [madeCells, zeros, Array.toList_map, Array.toList_range, Array.length_toList]
  apply List.map_congr_left
  intro i hi
  have hp : 0 < z.cells.size := by
    rcases Nat.eq_zero_or_pos z.cells.size with h | h
    · rw [h] at hi; simp at hi
    · exact h
  have := Nat.mod_lt i hp
  simp [this]

theorem ok_move (h : Rel cx.P n s a w) {x : Operand} (hop : o.op = .move x ∨ o.op = .assign x) {y : X} (e : ev s x = some y) : SemOk cx s a o w (.pure fun K => K y) := by
  obtain ⟨h1, h2⟩ := ev_ok h e
  exact fun K hk => ⟨y, hk, h2, fun w' => by rcases hop with hop | hop <;> simp [execOp, hop, h1]⟩

theorem ok_box (h : Rel cx.P n s a w) {t : TypeId} {x : Operand} (hop : o.op = .box t x) {v : Value} (e : evv s x = some v) : SemOk cx s a o w (.box v.cells.toList) :=
  ⟨t, fun w' => by simp [execOp, hop, evv_ok h e, Instr.box, newVar, newRow]⟩

theorem ok_boxV (h : Rel cx.P n s a w) {t : TypeId} {x : Operand} (hop : o.op = .box t x) {v : Value} (e : evv s x = some v) : SemOk cx s a o w (.boxV v) := fun hc => by
  have hc' : v.cells = #[v] := Array.ext' hc
  exact ⟨t, fun w' => by simp [execOp, hop, evv_ok h e, Instr.box, newVar, newRow, hc']⟩

theorem ok_alloc {t : TypeId} (hop : o.op = .alloc t) {z : Value} (e : zeroB cx.P t = some z) : SemOk cx s a o w (.box z.cells.toList) := by
  unfold zeroB at e
  split at e
  · rename_i i hi
    exact ⟨t, fun w' => by simp [execOp, hop, Instr.alloc, zeroValue, typeInfo, hi, e, newVar, newRow]⟩
  · cases e

theorem ok_build (h : Rel cx.P n s a w) {t : TypeId} {parts : Array (Nat × Operand)} (hop : o.op = .build t parts) {vs : List (Nat × Value)} (e : evps s parts.toList = some vs) {cells : Array Value} (hc : cx.P.built t vs = some cells) :
    SemOk cx s a o w (.pure fun K => K (.v (.agg cells.toList.toArray))) := by
  intro K hk
  refine ⟨_, hk, locOk_v _, fun w' => ?_⟩
  have e1 := evps_ok h e
  have e2 : (parts.map fun p => (p.1, a.eval p.2)).toList = vs := by simp [← e1]
  have := run_build (P := cx.P) w' t (parts.map fun p => (p.1, a.eval p.2)) cells (by rw [e2]; exact hc)
  simp [execOp, hop, this, conc_v]

theorem find_rw (h : Rel cx.P n s a w) {d : Nat} {b : Bx} (hb : find s.bx d = some b) (hm : b.m ≠ .out) : Blk w b.b b.cs := (h.bx d b hb).1 hm

theorem loadCells_blk {P : Program} {w : World} {b : Nat} {cs : List Value} (hb : Blk w b cs) (off k : Nat) (hk : off + k ≤ cs.length) : (loadCells ⟨b, off, none⟩ k).run P w = .ok ((cs.drop off).take k).toArray w := by
  have hl : ((cs.drop off).take k).length = k := by simp; omega
  have := run_loadCells_list (P := P) w ⟨b, off, none⟩ ((cs.drop off).take k) (fun j v hv => by
    rw [add_add _ rfl, cell_blk hb]
    rw [List.getElem?_take] at hv
    split at hv
    · rw [List.getElem?_drop] at hv; exact hv
    · cases hv)
  rw [hl] at this
  exact this

theorem und_of_agg {P : Program} {t : TypeId} (h : isAggB P t = true) : (P.underlying t).isSome = true := by
  unfold isAggB at h
  cases hu : P.underlying t with
  | none => rw [hu] at h; cases h
  | some d => rfl
theorem und_of_leaf {P : Program} {t : TypeId} {σ : Shp} (h : leafOf P t = some σ) : (P.underlying t).isSome = true := by
  unfold leafOf at h
  cases hu : P.underlying t with
  | none => rw [hu] at h; cases h
  | some d => rfl

theorem ok_load_agg (h : Rel cx.P n s a w) {t : TypeId} {x : Operand} (hop : o.op = .load t x) {d off : Nat} (e : ev s x = some (.loc d off)) {b : Bx} (hb : find s.bx d = some b) (hm : b.m ≠ .out) (hag : isAggB cx.P t = true) {k : Nat}
    (hs : sizeB cx.P t k = true) (hle : off + k ≤ b.cs.length) : SemOk cx s a o w (.read fun _ K => K (.v (.agg ((b.cs.drop off).take k).toArray))) := by
  intro K hk
  refine ⟨_, hk, locOk_v _, fun w' hE => ?_⟩
  obtain ⟨h1, _⟩ := ev_ok h e
  simp only [conc, hb] at h1
  obtain ⟨i, hi, hsz⟩ := sizeB_ok hs
  have hl := loadCells_blk (P := cx.P) (hE.blkE (find_rw h hb hm)) off k hle
  simp [execOp, hop, h1, Instr.loadAt, Instr.sureAddr, loadVar, isAgg_run t (und_of_agg hag), hag, sizeOf, typeInfo, hi, hsz, hl, conc_v]

theorem ok_load_one (h : Rel cx.P n s a w) {t : TypeId} {x : Operand} (hop : o.op = .load t x) {d off : Nat} (e : ev s x = some (.loc d off)) {b : Bx} (hb : find s.bx d = some b) (hm : b.m ≠ .out) (hag : isAggB cx.P t = false)
    (hun : (cx.P.underlying t).isSome = true) {v : Value} (hv : b.cs[off]? = some v) : SemOk cx s a o w (.read fun _ K => K (.v v)) := by
  intro K hk
  refine ⟨_, hk, locOk_v _, fun w' hE => ?_⟩
  obtain ⟨h1, _⟩ := ev_ok h e
  simp only [conc, hb] at h1
  have hc := cell_blk (hE.blkE (find_rw h hb hm)) off
  rw [hv] at hc
  simp [execOp, hop, h1, Instr.loadAt, Instr.sureAddr, loadVar, isAgg_run t hun, hag, hc, conc_v]

theorem ok_load_p {t : TypeId} {x : Operand} (hop : o.op = .load t x) {p : Addr} (g1 : a.eval x = .pointer (some p)) (hag : isAggB cx.P t = true) {l : List Shp} (hs : sizeB cx.P t l.length = true) :
    SemOk cx s a o w (.read fun w K => rdL w p l 0 (fun vs => K (.v (.agg vs.toArray)))) := by
  intro K hk
  obtain ⟨vs, h1, h2, h3⟩ := rdL_ok l 0 _ hk
  refine ⟨_, h1, locOk_v _, fun w' hE => ?_⟩
  obtain ⟨i, hi, hsz⟩ := sizeB_ok hs
  have hl := run_loadCells_list (P := cx.P) w' p vs (fun j v hv => hE.cell (by have := h3 j v hv; simpa using this))
  rw [h2] at hl
  simp [execOp, hop, g1, Instr.loadAt, Instr.sureAddr, loadVar, isAgg_run t (und_of_agg hag), hag, sizeOf, typeInfo, hi, hsz, hl, conc_v]

theorem ok_load_p1 {t : TypeId} {x : Operand} (hop : o.op = .load t x) {p : Addr} (g1 : a.eval x = .pointer (some p)) (hag : isAggB cx.P t = false) {σ : Shp} (hl : leafOf cx.P t = some σ) :
    SemOk cx s a o w (.read fun w K => ∃ x : σ.T, w.cell? p = some (σ.enc x) ∧ K (.v (σ.enc x))) := by
  rintro K ⟨x, hx, hk⟩
  refine ⟨_, hk, locOk_v _, fun w' hE => ?_⟩
  simp [execOp, hop, g1, Instr.loadAt, Instr.sureAddr, loadVar, isAgg_run t (und_of_leaf hl), hag, hE.cell hx, conc_v]

theorem ok_store_l (h : Rel cx.P n s a w) {t : TypeId} {x y : Operand} (hop : o.op = .store t x y) {d off : Nat} (e : ev s x = some (.loc d off)) {v : Value} (hv : evv s y = some v) (hs : (sizeB cx.P t v.cells.toList.length && v.cells.toList.all one) = true)
    {b : Nat} {cs : List Value} (hb : find s.bx d = some ⟨b, cs, .rw⟩) (hle : Nat.ble (off + v.cells.toList.length) cs.length = true) : SemOk cx s a o w (.lst d b (putAt cs off v.cells.toList)) := by
  refine ⟨cs, hb, fun w1 hB => ?_⟩
  simp only [Bool.and_eq_true] at hs
  obtain ⟨g1, _⟩ := ev_ok h e
  simp only [conc, hb] at g1
  obtain ⟨w2, r1, r2, r3⟩ := storeBlk (P := cx.P) v.cells.toList off 0 cs w1 (fun v hv => List.all_eq_true.1 hs.2 v hv) (by simpa using Nat.le_of_ble_eq_true hle) hB
  refine ⟨w2, ?_, r2, r3⟩
  simp [execOp, hop, g1, evv_ok h hv, Instr.storeAt, Instr.sureAddr, storeVar_run hs.1, r1]

theorem ok_store_p (h : Rel cx.P n s a w) {t : TypeId} {x y : Operand} (hop : o.op = .store t x y) {p : Addr} (g1 : a.eval x = .pointer (some p)) {v : Value} (hv : evv s y = some v) (hs : (sizeB cx.P t v.cells.toList.length && v.cells.toList.all one) = true) :
    SemOk cx s a o w (.big fun w K => stL w p v.cells.toList 0 (fun w' => K (.v undef) w')) := by
  intro w1 K hk
  simp only [Bool.and_eq_true] at hs
  obtain ⟨w2, r1, r2, r3⟩ := stL_ok (P := cx.P) v.cells.toList 0 w1 _ (fun v hv => List.all_eq_true.1 hs.2 v hv) hk
  refine ⟨.v undef, w2, .inr ⟨?_, rfl⟩, argOk_v _, by omega, r3⟩
  simp [execOp, hop, g1, evv_ok h hv, Instr.storeAt, Instr.sureAddr, storeVar_run hs.1, r1]

theorem ok_nil (h : Rel cx.P n s a w) {x : Operand} (hop : o.op = .nilCheck x) {y : X} (e : ev s x = some y) : (match y with
    | .loc d off => SemOk cx s a o w (.pure fun K => K (.loc d off))
    | .v (.pointer p) => SemOk cx s a o w (.pure fun K => Nn p fun a => K (.v (.pointer (some a))))
    | .clo f i cap => SemOk cx s a o w (.pure fun K => K (.clo f i cap))
    | _ => True) := by
  obtain ⟨g1, g2⟩ := ev_ok h e
  cases y with
  | loc d off =>
    obtain ⟨b, hb⟩ := g2.1 d off rfl
    intro K hk
    refine ⟨_, hk, g2, fun w' => ?_⟩
    simp only [conc, hb] at g1
    simp [execOp, hop, g1, conc, hb]
  | v x =>
    cases x with
    | pointer p =>
      rintro K ⟨q, rfl, hk⟩
      refine ⟨_, hk, locOk_v _, fun w' => ?_⟩
      simp only [conc, cc] at g1
      simp [execOp, hop, g1, conc_v]
    | _ => trivial
  | clo f i cap =>
    intro K hk
    refine ⟨_, hk, g2, fun w' => ?_⟩
    simp only [conc, cc] at g1
    simp [execOp, hop, g1, conc, cc]
  | yl k E => trivial
  | bad => trivial

theorem semBin_shape (op : BinOp) (x y : Value) : (∃ V, semBin op x y = .pure V) ∨ semBin op x y = .bad := by
  unfold semBin
  split <;> first
    | exact .inr rfl
    | exact .inl ⟨_, rfl⟩
    | (split
       · exact .inl ⟨_, rfl⟩
       · exact .inr rfl)
theorem semBinT_shape (P : Program) (op : BinOp) (t : TypeId) (x y : Value) : (∃ V, semBinT P op t x y = .pure V) ∨ semBinT P op t x y = .bad := by
  unfold semBinT
  split <;> first
    | exact .inl ⟨_, rfl⟩
    | exact semBin_shape _ _ _
    | exact .inr rfl
    | (split
       · exact .inl ⟨_, rfl⟩
       · exact .inr rfl)

theorem ok_bin (h : Rel cx.P n s a w) {op : BinOp} {t yt : TypeId} {x y : Operand} (hop : o.op = .binOp op t x y yt) {u v : Value} (e1 : evv s x = some u) (e2 : evv s y = some v) : SemOk cx s a o w (semBinT cx.P op t u v) := by
  rcases semBinT_shape cx.P op t u v with ⟨V, hr⟩ | hr
  · rw [hr]
    intro K hk
    obtain ⟨r, h1, h2⟩ := semBinT_ok hr hk x y
    refine ⟨_, h1, locOk_v _, fun w' => ?_⟩
    have := h2 w'
    simp only [execOp, hop, evv_ok h e1, evv_ok h e2, Sem.run_bind] at this ⊢
    rw [this]
    rfl
  · rw [hr]; trivial

theorem ok_not (h : Rel cx.P n s a w) {t : TypeId} {x : Operand} (hop : o.op = .unOp .not t x) {b : Bool} (e : ev s x = some (.v (.bool b))) : SemOk cx s a o w (.pure fun K => K (.v (.bool (!b)))) := by
  intro K hk
  obtain ⟨g1, _⟩ := ev_ok h e
  simp only [conc, cc] at g1
  exact ⟨_, hk, locOk_v _, fun w' => by simp [execOp, hop, g1, Op.unary, conc_v]⟩
theorem ok_neg (h : Rel cx.P n s a w) {t : TypeId} {x : Operand} (hop : o.op = .unOp .neg t x) {k : IntKind} {i : Int} (e : ev s x = some (.v (.int k i))) : SemOk cx s a o w (.pure fun K => K (.v (.int k (k.wrap (0 - i))))) := by
  intro K hk
  obtain ⟨g1, _⟩ := ev_ok h e
  simp only [conc, cc] at g1
  exact ⟨_, hk, locOk_v _, fun w' => by simp [execOp, hop, g1, Op.unary, Op.intArith, conc_v]⟩

theorem ok_conv (h : Rel cx.P n s a w) {src dst : TypeId} {x : Operand} (hop : o.op = .convert src dst x) {j k k' : IntKind} {i : Int} (e : ev s x = some (.v (.int j i))) (h1 : intB cx.P src = some k') (h2 : intB cx.P dst = some k) :
    SemOk cx s a o w (.pure fun K => K (.v (.int k (k.wrap i)))) := by
  intro K hk
  obtain ⟨g1, _⟩ := ev_ok h e
  simp only [conc, cc] at g1
  exact ⟨_, hk, locOk_v _, fun w' => by simp [execOp, hop, g1, convert, run_underlying (intB_ok h1), run_underlying (intB_ok h2), Conv.intToInt, conc_v]⟩

theorem ok_makeFunc (h : Rel cx.P n s a w) {f : FuncId} {first cap : Array Operand} (hop : o.op = .makeFunc (.func f) first cap) {fs vs : List Value} (ef : evvs s first.toList = some fs) (e : evvs s cap.toList = some vs) : SemOk cx s a o w (.pure fun K => K (.clo f fs vs)) := by
  intro K hk
  have e1 : cap.map a.eval = vs.toArray := by apply Array.ext'; simpa using evvs_ok h e
  have e2 : first.map a.eval = fs.toArray := by apply Array.ext'; simpa using evvs_ok h ef
  exact ⟨_, hk, ⟨(fun d off hx => by cases hx), xok_clo _ _ _⟩, (fun w' => by simp [execOp, hop, Instr.makeFunc, e1, e2, conc, cc])⟩

theorem ok_buildSlice (h : Rel cx.P n s a w) {t : TypeId} {len : Nat} {parts : Array (Nat × Operand)} (hop : o.op = .buildSlice t len parts) {sz bytes : Nat} {z : List Value} (he : elB cx.P t = some (sz, bytes, z)) {vs : List (Nat × Value)} (e : evps s parts.toList = some vs)
    (hl : Nat.ble (len * sz) 16777216 = true) {cells : Array Value} (hc : Instr.fill (fun i => some (i * sz, sz)) (zeros z len).toArray vs = some cells) :
    SemOk cx s a o w (.new fun w K => NewB cells.toList w (fun b w' => K (.v (.slice (some ⟨b, 0, none⟩) len len)) w')) := by
  intro w1 K hk
  obtain ⟨e0, i, z0, he⟩ := elB_ok he
  have e2 : (parts.map fun p => (p.1, a.eval p.2)).toList = vs := by simp [← evps_ok h e]
  have hl := Nat.le_of_ble_eq_true hl
  refine ⟨.v (.slice (some ⟨w1.heap.size, 0, none⟩) len len), w1.alloc (.cells cells e0), ?_, argOk_v _, ⟨rfl, rfl, rfl, by simp, fun k hk => Below.heap_alloc _ _ _ hk⟩, hk _ _ ⟨rfl, rfl, rfl, by simp, fun k hk => Below.heap_alloc _ _ _ hk⟩ (Nat.le_refl _) ⟨e0, ?_⟩⟩
  · have hz : ∀ zz : Array Value, (zz = z0.cells ∨ len * sz = 0) → Instr.fill (fun i => some (i * sz, sz)) ((Array.range (len * sz)).map (zz[· % zz.size]!)) vs = some cells := by
      intro zz hzz
      have hm := made_eq z0 len
      rw [he.cells, he.len] at hm
      rcases hzz with rfl | h0
      · have : (Array.range (len * sz)).map (z0.cells[· % z0.cells.size]!) = (zeros z len).toArray := hm
        rw [this]; exact hc
      · have : zeros z len = [] := by unfold zeros; rw [he.len, h0]; rfl
        rw [this] at hc
        rw [h0]; simpa [Array.range_zero'] using hc
    have hn : ¬ (2 ^ 24 < len * sz) := by omega
    have hn : ¬ (16777216 < len * sz) := by omega
    by_cases h0 : len * sz = 0
    · have := hz #[] (.inr h0)
      rw [h0, Array.range_zero'] at this
      simp only [List.map_toArray, List.map_nil] at this
      have e3 : Array.map (fun x => (x.fst, a.eval x.snd)) parts = vs.toArray := by apply Array.ext'; simpa using e2
      simp [execOp, hop, Instr.buildSlice, run_underlying he.un, sizeOf, typeInfo, he.info, he.size, h0, newRow, cc, e3, this, Array.range_zero']
    · have := hz z0.cells (.inl rfl)
      have e3 : Array.map (fun x => (x.fst, a.eval x.snd)) parts = vs.toArray := by apply Array.ext'; simpa using e2
      simp [execOp, hop, Instr.buildSlice, run_underlying he.un, sizeOf, typeInfo, zeroValue, he.info, he.size, he.zero, h0, hn, newRow, cc, e3, this]
  · show (w1.heap.push _)[w1.heap.size]? = _
    simp

theorem ok_makeSlice (h : Rel cx.P n s a w) {t : TypeId} {l c : Operand} (hop : o.op = .makeSlice t l c) {sz bytes : Nat} {z : List Value} (he : elB cx.P t = some (sz, bytes, z)) {kl kc : IntKind} {x y : Int} (e1 : ev s l = some (.v (.int kl x))) (e2 : ev s c = some (.v (.int kc y))) :
    SemOk cx s a o w (.new fun w K => MkS bytes z x y w (fun s w' => K (.v (.slice s.a s.len s.cap)) w')) := by
  rintro w1 K ⟨h0, hle, hb, h62, hk⟩
  obtain ⟨e0, i, z0, he⟩ := elB_ok he
  obtain ⟨g1, _⟩ := ev_ok h e1
  obtain ⟨g2, _⟩ := ev_ok h e2
  simp only [conc, cc] at g1 g2
  have hr := run_make (P := cx.P) w1 t e0 i z0 he.un he.info he.zero kl kc x y h0 hle (by rw [he.bytes]; omega) (by omega)
  have hE : Ext w1 (w1.alloc (.cells (madeCells z0.cells (y.toNat * i.size)) e0)) := ⟨rfl, rfl, rfl, by simp, fun k hk => Below.heap_alloc _ _ _ hk⟩
  refine ⟨.v (.slice (some ⟨w1.heap.size, 0, none⟩) x.toNat y.toNat), _, ?_, argOk_v _, hE, hk _ _ hE (Nat.le_refl _) ⟨e0, ?_⟩⟩
  · simp [execOp, hop, g1, g2, hr, cc]
  · have hm := made_eq z0 y.toNat
    rw [he.cells, he.len] at hm
    rw [he.size, hm]
    show (w1.heap.push _)[w1.heap.size]? = _
    simp

theorem ok_mks (h : Rel cx.P n s a w) {bytes : Nat} {z : List Value} {x y : Int} (hm : mksOf cx s o = some (bytes, z, x, y)) (h0 : 0 ≤ x) (hle : x ≤ y) (hb : (bytes : Int) * y ≤ 2 ^ 48) (h62 : y < 2 ^ 62) :
    ∃ T, ∀ w1 : World, (execOp a.eval o).run cx.P w1 = .ok (.value (.slice (some ⟨w1.heap.size, 0, none⟩) x.toNat y.toNat)) (w1.alloc (.cells (zeros z y.toNat).toArray T)) := by
  unfold mksOf at hm
  split at hm
  · rename_i t l c hop
    split at hm
    · rename_i sz bytes' z' kl x' kc y' he e1 e2
      simp only [Option.some.injEq, Prod.mk.injEq] at hm
      obtain ⟨rfl, rfl, rfl, rfl⟩ := hm
      obtain ⟨e0, i, z0, he⟩ := elB_ok he
      obtain ⟨g1, _⟩ := ev_ok h e1
      obtain ⟨g2, _⟩ := ev_ok h e2
      simp only [conc, cc] at g1 g2
      refine ⟨e0, fun w1 => ?_⟩
      have hr := run_make (P := cx.P) w1 t e0 i z0 he.un he.info he.zero kl kc _ _ h0 hle (by rw [he.bytes]; omega) (by omega)
      have hm := made_eq z0 y'.toNat
      rw [he.cells, he.len] at hm
      rw [he.size, hm] at hr
      simp [execOp, hop, g1, g2, hr]
    · cases hm
  · cases hm

theorem ok_makeMap {t : TypeId} (hop : o.op = .makeMap t none) : SemOk cx s a o w (.new fun w K => MkM w (fun r w' => K (.v (.map r)) w')) := by
  intro w1 K hk
  have hE : Ext w1 (w1.alloc (.map #[] 0)) := ⟨rfl, rfl, rfl, by simp, fun k hk => Below.heap_alloc _ _ _ hk⟩
  refine ⟨.v (.map (some w1.heap.size)), _, ?_, argOk_v _, hE, hk _ _ hE (Nat.le_refl _) ?_⟩
  · simp [execOp, hop, Instr.makeMap, cc]
  · show (w1.heap.push _)[w1.heap.size]? = _
    simp

theorem ok_mapOf (h : mapOf o = true) (w' : World) : (execOp a.eval o).run cx.P w' = .ok (.value (.map (some w'.heap.size))) (w'.alloc (.map #[] 0)) := by
  unfold mapOf at h
  split at h
  · rename_i t hop
    simp [execOp, hop, Instr.makeMap]
  · cases h

theorem optInt_ok (h : Rel cx.P n s a w) {x : Option Operand} {r : Option Int} (e : optInt s x = some r) : match r with | none => x = none | some i => ∃ k, x.map a.eval = some (.int k i) := by
  cases x with
  | none => simp only [optInt, Option.some.injEq] at e; subst e; rfl
  | some y =>
    simp only [optInt] at e
    split at e
    · rename_i k i hy
      injection e with e
      subst e
      obtain ⟨g1, _⟩ := ev_ok h hy
      exact ⟨k, by simp [g1, conc, cc]⟩
    · cases e

theorem sliceBound_ok {P : Program} {w : World} {k : IntKind} {i : Int} {y : Nat} {code : BoundsCode} (h0 : 0 ≤ i) (h1 : i ≤ y) : (Instr.sliceBound (.int k i) y code).run P w = .ok i.toNat w := by
  simp [Instr.sliceBound, asIntOf, h0, h1]

theorem ok_slice (h : Rel cx.P n s a w) {t : TypeId} {x : Operand} {lo hi : Option Operand} (hop : o.op = .slice t x lo hi none) {sz bytes : Nat} {z : List Value} (he : elB cx.P t = some (sz, bytes, z)) {p : Option Addr} {len cap : Nat}
    (e : ev s x = some (.v (.slice p len cap))) {l r : Option Int} (e1 : optInt s lo = some l) (e2 : optInt s hi = some r) : SemOk cx s a o w (.pure fun K => semSlice sz p len cap l r fun s => K (.v (.slice s.a s.len s.cap))) := by
  rintro K ⟨b0, b1, b2, b3, hk⟩
  obtain ⟨e0, i, z0, he⟩ := elB_ok he
  obtain ⟨g1, _⟩ := ev_ok h e
  simp only [conc, cc] at g1
  have o1 := optInt_ok h e1
  have o2 := optInt_ok h e2
  refine ⟨_, hk, locOk_v _, fun w' => ?_⟩
  cases r with
  | none =>
    have o2 : hi = none := o2
    subst o2
    simp only [Option.getD_none, Int.toNat_natCast] at *
    cases l with
    | none =>
      have o1 : lo = none := o1
      subst o1
      simp [execOp, hop, g1, Instr.sliceAt, Instr.slice, Instr.sliceBounds, run_underlying he.un, sizeOf, typeInfo, he.info, conc_v]
      all_goals (split <;> simp_all [eq_comm])
    | some l =>
      obtain ⟨kl, o1⟩ := o1
      simp only [Option.getD_some] at *
      have hl := sliceBound_ok (P := cx.P) (w := w') (k := kl) (y := len) (code := .sliceB) b2 b3
      simp [execOp, hop, g1, o1, Instr.sliceAt, Instr.slice, Instr.sliceBounds, run_underlying he.un, hl, sizeOf, typeInfo, he.info, he.size, conc_v]
      all_goals (split <;> simp_all [eq_comm])
  | some r =>
    obtain ⟨kr, o2⟩ := o2
    simp only [Option.getD_some] at *
    have b1 : r ≤ (cap : Int) := b1 r rfl
    have hr := sliceBound_ok (P := cx.P) (w := w') (k := kr) (y := cap) (code := .sliceAcap) b0 b1
    have hrn : ((r.toNat : Nat) : Int) = r := Int.toNat_of_nonneg b0
    cases l with
    | none =>
      have o1 : lo = none := o1
      subst o1
      simp [execOp, hop, g1, o2, Instr.sliceAt, Instr.slice, Instr.sliceBounds, run_underlying he.un, hr, sizeOf, typeInfo, he.info, conc_v]
      all_goals (split <;> simp_all [eq_comm])
    | some l =>
      obtain ⟨kl, o1⟩ := o1
      simp only [Option.getD_some] at *
      have hl := sliceBound_ok (P := cx.P) (w := w') (k := kl) (y := r.toNat) (code := .sliceB) b2 (by omega)
      simp [execOp, hop, g1, o1, o2, Instr.sliceAt, Instr.slice, Instr.sliceBounds, run_underlying he.un, hr, hl, sizeOf, typeInfo, he.info, he.size, conc_v]
      all_goals (split <;> simp_all [eq_comm])

theorem ok_fieldAddr (h : Rel cx.P n s a w) {t : TypeId} {x : Operand} {f : Nat} (hop : o.op = .fieldAddr t x f) {off : Nat} {ft : TypeId} (hf : fieldB cx.P t f = some (off, ft)) (hsz : (match cx.P.info? ft with | some i => !(Nat.beq i.size 0) | none => false) = true) {y : X} (e : ev s x = some y) :
    (match y with
    | .loc d o' => SemOk cx s a o w (.pure fun K => K (.loc d (o' + off)))
    | .v (.pointer (some p)) => SemOk cx s a o w (.pure fun K => K (.v (.pointer (some (p.add off)))))
    | _ => True) := by
  obtain ⟨fs, fd, hu, hfd, h1, h2⟩ := fieldB_ok hf
  obtain ⟨g1, g2⟩ := ev_ok h e
  have hsz' : ∃ i, cx.P.info? ft = some i ∧ i.size ≠ 0 := by
    split at hsz
    · rename_i i hi
      exact ⟨i, hi, fun h0 => by rw [h0] at hsz; cases hsz⟩
    · cases hsz
  obtain ⟨i, hi, hi0⟩ := hsz'
  have run : ∀ (p : Addr) w', (Instr.fieldAt t (.pointer (some p)) f).run cx.P w' = .ok (.pointer (some (p.add off))) w' := fun p w' => by
    simp [Instr.fieldAt, run_underlying hu, hfd, Instr.sureAddr, fieldPlace, sizeOf, typeInfo, h2, hi, hi0, h1]
  cases y with
  | loc d o' =>
    obtain ⟨b, hb⟩ := g2.1 d o' rfl
    simp only [conc, hb] at g1
    intro K hk
    refine ⟨_, hk, ⟨fun d' off' hx => by injection hx with h1 h2; subst h1; exact ⟨b, hb⟩, xok_loc _ _⟩, fun w' => ?_⟩
    have := run ⟨b.b, o', none⟩ w'
    rw [add_add _ rfl] at this
    simp [execOp, hop, g1, this, conc, hb]
  | v x =>
    cases x with
    | pointer p =>
      cases p with
      | none => trivial
      | some p =>
        simp only [conc, cc] at g1
        intro K hk
        exact ⟨_, hk, locOk_v _, fun w' => by simp [execOp, hop, g1, run p w', conc_v]⟩
    | _ => trivial
  | yl k E => trivial
  | clo f i cap => trivial
  | bad => trivial

theorem ok_field (h : Rel cx.P n s a w) {t : TypeId} {x : Operand} {f : Nat} (hop : o.op = .field t x f) {off : Nat} {ft : TypeId} (hf : fieldB cx.P t f = some (off, ft)) {cs : Array Value} (e : ev s x = some (.v (.agg cs))) (hag : isAggB cx.P ft = true) {i : TypeInfo} (hi : cx.P.info? ft = some i) :
    SemOk cx s a o w (.pure fun K => K (.v (.agg ((cs.toList.drop off).take i.size).toArray))) := by
  obtain ⟨fs, fd, hu, hfd, h1, h2⟩ := fieldB_ok hf
  obtain ⟨g1, _⟩ := ev_ok h e
  simp only [conc, cc] at g1
  intro K hk
  refine ⟨_, hk, locOk_v _, fun w' => ?_⟩
  have : cs.extract off (off + i.size) = ((cs.toList.drop off).take i.size).toArray := by
    apply Array.ext'
    simp
  simp [execOp, hop, g1, Instr.field, run_underlying hu, hfd, asAgg, part, isAgg_run ft (und_of_agg hag), hag, h1, h2, sizeOf, typeInfo, hi, this, conc_v]
theorem ok_field1 (h : Rel cx.P n s a w) {t : TypeId} {x : Operand} {f : Nat} (hop : o.op = .field t x f) {off : Nat} {ft : TypeId} (hf : fieldB cx.P t f = some (off, ft)) {cs : Array Value} (e : ev s x = some (.v (.agg cs))) (hag : isAggB cx.P ft = false) (hun : (cx.P.underlying ft).isSome = true) {v : Value} (hv : cs.toList[off]? = some v) :
    SemOk cx s a o w (.pure fun K => K (.v v)) := by
  obtain ⟨fs, fd, hu, hfd, h1, h2⟩ := fieldB_ok hf
  obtain ⟨g1, _⟩ := ev_ok h e
  simp only [conc, cc] at g1
  intro K hk
  refine ⟨_, hk, locOk_v _, fun w' => ?_⟩
  have : cs[off]? = some v := by simpa using hv
  simp [execOp, hop, g1, Instr.field, run_underlying hu, hfd, asAgg, part, isAgg_run ft hun, hag, h1, h2, this, conc_v]

theorem ok_index (h : Rel cx.P n s a w) {t : TypeId} {x y : Operand} (hop : o.op = .indexAddr t x y) {sz bytes : Nat} {z : List Value} (he : elB cx.P t = some (sz, bytes, z)) {p : Option Addr} {len cap : Nat} (e1 : ev s x = some (.v (.slice p len cap))) {k : IntKind} {i : Int} (e2 : ev s y = some (.v (.int k i))) :
    SemOk cx s a o w (.pure fun K => Idx p len i sz fun p => K (.v (.pointer (some p)))) := by
  rintro K ⟨b, rfl, h0, h1, hk⟩
  obtain ⟨e0, it, z0, he⟩ := elB_ok he
  obtain ⟨g1, _⟩ := ev_ok h e1
  obtain ⟨g2, _⟩ := ev_ok h e2
  simp only [conc, cc] at g1 g2
  refine ⟨_, hk, locOk_v _, fun w' => ?_⟩
  simp [execOp, hop, g1, g2, Instr.indexAt, asIntOf, run_underlying he.un, h0, h1, sizeOf, typeInfo, he.info, he.size, conc_v]

theorem arrB_ok {P : Program} {t e : TypeId} {len sz : Nat} (h : arrB P t = some (len, sz, e)) : P.underlying t = some (.array len e) ∧ ∃ i, P.info? e = some i ∧ i.size = sz := by
  unfold arrB at h
  split at h
  · rename_i len' e' hu
    split at h
    · rename_i i hi
      simp only [Option.some.injEq, Prod.mk.injEq] at h
      obtain ⟨rfl, rfl, rfl⟩ := h
      exact ⟨hu, i, hi, rfl⟩
    · cases h
  · cases h
theorem ok_indexA (h : Rel cx.P n s a w) {t e : TypeId} {x y : Operand} (hop : o.op = .indexAddr t x y) {len sz : Nat} (he : arrB cx.P t = some (len, sz, e)) {d off : Nat} (e1 : ev s x = some (.loc d off)) {b : Nat} {cs : List Value} (hb : find s.bx d = some ⟨b, cs, .out⟩) {k : IntKind} {i : Int} (e2 : ev s y = some (.v (.int k i))) :
    SemOk cx s a o w (.pure fun K => (0 ≤ i ∧ i < (len : Int) ∧ K (.v (.pointer (some ((⟨b, off, none⟩ : Addr).add (i.toNat * sz))))))) := by
  rintro K ⟨h0, h1, hk⟩
  obtain ⟨hu, inf, hi, hs⟩ := arrB_ok he
  have g1 : a.eval x = .pointer (some ⟨b, off, none⟩) := by rw [(ev_ok h e1).1]; simp [conc, hb]
  obtain ⟨g2, _⟩ := ev_ok h e2
  simp only [conc, cc] at g2
  refine ⟨_, hk, locOk_v _, fun w' => ?_⟩
  simp [execOp, hop, g1, g2, Instr.indexAt, asIntOf, run_underlying hu, Instr.sureAddr, h0, h1, sizeOf, typeInfo, hi, hs, conc_v]
theorem ok_indexV (h : Rel cx.P n s a w) {t e : TypeId} {x y : Operand} (hop : o.op = .index t x y) {len : Nat} (he : arrB cx.P t = some (len, 1, e)) {cs : Array Value} (e1 : evv s x = some (.agg cs)) {k : IntKind} {i : Int} (e2 : ev s y = some (.v (.int k i))) {σ : Shp} (hl : leafOf cx.P e = some σ) :
    SemOk cx s a o w (.pure fun K => (0 ≤ i ∧ i < (len : Int) ∧ ∃ y : σ.T, cs.toList[i.toNat]? = some (σ.enc y) ∧ K (.v (σ.enc y)))) := by
  rintro K ⟨h0, h1, y0, hy, hk⟩
  obtain ⟨hu, inf, hi, hs⟩ := arrB_ok he
  have g1 := evv_ok h e1
  obtain ⟨g2, _⟩ := ev_ok h e2
  simp only [conc, cc] at g2
  have hsome : (cx.P.underlying e).isSome = true := by
    unfold leafOf at hl
    split at hl <;> simp_all
  have hag : isAggB cx.P e = false := by
    unfold leafOf at hl; unfold isAggB
    split at hl <;> simp_all
  refine ⟨_, hk, locOk_v _, fun w' => ?_⟩
  have hg : cs[i.toNat]? = some (σ.enc y0) := by rw [← Array.getElem?_toList]; exact hy
  simp [execOp, hop, g1, g2, Instr.index, asIntOf, run_underlying hu, h0, h1, sizeOf, typeInfo, hi, hs, part, isAgg_run e hsome, hag, hg, conc_v]

theorem ok_extract (h : Rel cx.P n s a w) {x : Operand} {i : Nat} (hop : o.op = .extract x i) {vs : Array Value} (e : ev s x = some (.v (.tuple vs))) {v : Value} (hv : vs.toList[i]? = some v) : SemOk cx s a o w (.pure fun K => K (.v v)) := by
  obtain ⟨g1, _⟩ := ev_ok h e
  simp only [conc, cc] at g1
  have : vs[i]? = some v := by simpa using hv
  exact fun K hk => ⟨_, hk, locOk_v _, fun w' => by simp [execOp, hop, g1, Instr.extract, this, conc_v]⟩

theorem run_call_builtin {c : Call} (hop : o.op = .call c) {b : Builtin} (hb : c.callee = .builtin b) :
    ∃ ks, ∀ w', (execOp a.eval o).run cx.P w' = (builtin b c.argTypes o.type ks (c.args.map a.eval)).run cx.P w' :=
  ⟨_, fun w' => by simp [execOp, hop, resolve, hb, invoke]; rfl⟩

theorem ok_builtin (h : Rel cx.P n s a w) {c : Call} (hop : o.op = .call c) {b : Builtin} (hb : c.callee = .builtin b) {xs : List X} (e : evs s c.args.toList = some xs) : SemOk cx s a o w (semBuiltin cx.P b c.argTypes.toList xs) := by
  have ea : (c.args.map a.eval) = (xs.map (cc)).toArray := by apply Array.ext'; simpa using (evs_ok h e).1
  obtain ⟨ks, hrun⟩ := run_call_builtin (cx := cx) (a := a) hop hb
  unfold semBuiltin
  split
  · -- len
    rename_i t x hts
    have hts : c.argTypes = #[t] := by apply Array.ext'; simpa using hts
    unfold semLen
    split
    · rename_i p k cp
      split
      · rename_i et hu
        intro K hk
        refine ⟨_, hk, locOk_v _, fun w' => ?_⟩
        rw [hrun, ea, hts]
        simp [builtin, Builtin.len_, run_underlying hu, cc, goInt, conc_v]
      · trivial
    · rename_i str
      split
      · rename_i hu
        intro K hk
        refine ⟨_, hk, locOk_v _, fun w' => ?_⟩
        rw [hrun, ea, hts]
        simp [builtin, Builtin.len_, run_underlying hu, cc, goInt, conc_v]
      · trivial
    · trivial
  · -- append
    rename_i t u p k cp p' k' cp' hts
    split
    · rename_i sz bytes z htu he
      have htu := Nat.eq_of_beq_eq_true htu
      subst htu
      have hts : c.argTypes = #[t, t] := by apply Array.ext'; simpa using hts
      obtain ⟨e0, i, z0, he⟩ := elB_ok he
      intro w1 K hk
      obtain ⟨r, w2, h1, h2, h3⟩ := app_ok (ty := o.type) he _ _ hk
      refine ⟨_, w2, .inl ?_, argOk_v _, h2, h3⟩
      rw [hrun, ea, hts]
      simp [builtin, cc, h1]
    · trivial
  · -- copy
    rename_i t u p k cp p' k' cp' hts
    split
    · rename_i sz bytes z htu he
      have htu := Nat.eq_of_beq_eq_true htu
      subst htu
      have hts : c.argTypes = #[t, t] := by apply Array.ext'; simpa using hts
      obtain ⟨e0, i, z0, he⟩ := elB_ok he
      intro w1 K hk
      obtain ⟨w2, h1, h2, h3⟩ := cpy_ok (ty := o.type) he _ _ hk
      refine ⟨_, w2, .inl ?_, argOk_v _, h2, h3⟩
      rw [hrun, ea, hts]
      simp [builtin, cc, h1]
    · trivial
  · -- min
    rename_i k i l
    split
    · rename_i r hr
      intro K hk
      refine ⟨_, hk, locOk_v _, fun w' => ?_⟩
      rw [hrun, ea]
      simp [builtin, Builtin.min_, cc, foldInt_min _ _ _ hr, conc_v]
    · trivial
  · rename_i k i l
    split
    · rename_i r hr
      intro K hk
      refine ⟨_, hk, locOk_v _, fun w' => ?_⟩
      rw [hrun, ea]
      simp [builtin, Builtin.max_, cc, foldInt_max _ _ _ hr, conc_v]
    · trivial
  · trivial

theorem ok_call (h : Rel cx.P n s a w) {c : Call} (hop : o.op = .call c) {f : Operand} (hb : c.callee = .value f) {xs : List X} (e : evs s c.args.toList = some xs) {g : FuncId} {fs cap : List Value} (ef : ev s f = some (.clo g fs cap)) (hnb : noBodyB cx.P g = true) :
    SemOk cx s a o w (.call g (fs.map .v ++ (xs ++ cap.map .v))) := by
  obtain ⟨e1, e2⟩ := evs_ok h e
  have ea : (c.args.map a.eval) = (xs.map (cc)).toArray := by apply Array.ext'; simpa using e1
  obtain ⟨g1, _⟩ := ev_ok h ef
  simp only [conc, cc] at g1
  refine ⟨fun x hx => ?_, fun w' => ?_⟩
  · rcases List.mem_append.1 hx with hx | hx
    · obtain ⟨v, _, rfl⟩ := List.mem_map.1 hx; exact argOk_v v
    · rcases List.mem_append.1 hx with hx | hx
      · exact e2 x hx
      · obtain ⟨v, _, rfl⟩ := List.mem_map.1 hx; exact argOk_v v
  · have hcc : ∀ l : List Value, l.map (cc ∘ X.v) = l := fun l => by
      rw [show (cc ∘ X.v) = id from rfl]; simp
    simp [execOp, hop, resolve, hb, g1, Deferred.ofValue, invoke, ea, noBody_ok hnb, hcc]

theorem ok_callV (h : Rel cx.P n s a w) {c : Call} (hop : o.op = .call c) {f : Operand} (hb : c.callee = .value f) {xs : List X} (e : evs s c.args.toList = some xs) {v : Value} (ef : ev s f = some (.v v)) {vs : List Value} (ev : vals xs = some vs) (r : List (Bool × List Shp)) :
    SemOk cx s a o w (.callV v vs r) := by
  obtain ⟨e1, e2⟩ := evs_ok h e
  have ea : (c.args.map a.eval) = vs.toArray := by apply Array.ext'; simpa [vals_ok ev] using e1
  obtain ⟨g1, _⟩ := ev_ok h ef
  simp only [conc, cc] at g1
  exact fun w' => by simp [execOp, hop, resolve, hb, g1, ea]

theorem ok_yield (h : Rel cx.P n s a w) {c : Call} (hop : o.op = .call c) {f : Operand} (hb : c.callee = .value f) {xs : List X} (e : evs s c.args.toList = some xs) {v : Value} {E} (ef : Go.Sh.ev s f = some (.yl v E)) {vs : List Value} (hv : vals xs = some vs) :
    SemOk cx s a o w (.yield E v vs) := by
  obtain ⟨e1, e2⟩ := evs_ok h e
  have ea : (c.args.map a.eval) = vs.toArray := by apply Array.ext'; simpa [vals_ok hv] using e1
  obtain ⟨g1, g2⟩ := ev_ok h ef
  simp only [conc, cc] at g1
  exact ⟨g2.2 v E rfl, fun w' => by simp [execOp, hop, resolve, hb, g1, ea]⟩

theorem ok_slice3 (h : Rel cx.P n s a w) {t : TypeId} {x mx : Operand} {lo hi : Option Operand} (hop : o.op = .slice t x lo hi (some mx)) {sz bytes : Nat} {z : List Value} (he : elB cx.P t = some (sz, bytes, z)) {p : Option Addr} {len cap : Nat}
    (e : ev s x = some (.v (.slice p len cap))) {l : Option Int} {r m : Int} {km : IntKind} (e1 : optInt s lo = some l) (e2 : optInt s hi = some (some r)) (e3 : ev s mx = some (.v (.int km m))) :
    SemOk cx s a o w (.pure fun K => (0 ≤ m ∧ m ≤ cap ∧ r ≤ m ∧ semSlice sz p len m.toNat l (some r) fun s => K (.v (.slice s.a s.len s.cap)))) := by
  rintro K ⟨m0, m1, m2, b0, b1, b2, b3, hk⟩
  obtain ⟨e0, i, z0, he⟩ := elB_ok he
  obtain ⟨g1, _⟩ := ev_ok h e
  simp only [conc, cc] at g1
  obtain ⟨g3, _⟩ := ev_ok h e3
  simp only [conc, cc] at g3
  have o1 := optInt_ok h e1
  have o2 := optInt_ok h e2
  refine ⟨_, hk, locOk_v _, fun w' => ?_⟩
  obtain ⟨kr, o2⟩ := o2
  simp only [Option.getD_some] at *
  have hm := sliceBound_ok (P := cx.P) (w := w') (k := km) (y := cap) (code := .slice3Acap) m0 m1
  have hr := sliceBound_ok (P := cx.P) (w := w') (k := kr) (y := m.toNat) (code := .slice3B) b0 (by omega)
  have hrn : ((r.toNat : Nat) : Int) = r := Int.toNat_of_nonneg b0
  cases l with
  | none =>
    have o1 : lo = none := o1
    subst o1
    simp [execOp, hop, g1, g3, o2, Instr.sliceAt, Instr.slice, Instr.sliceBounds, run_underlying he.un, hm, hr, sizeOf, typeInfo, he.info, conc_v]
    all_goals (split <;> simp_all [eq_comm])
  | some l =>
    obtain ⟨kl, o1⟩ := o1
    simp only [Option.getD_some] at *
    have hl := sliceBound_ok (P := cx.P) (w := w') (k := kl) (y := r.toNat) (code := .slice3C) b2 (by omega)
    simp [execOp, hop, g1, g3, o1, o2, Instr.sliceAt, Instr.slice, Instr.sliceBounds, run_underlying he.un, hm, hr, hl, sizeOf, typeInfo, he.info, he.size, conc_v]
    all_goals (split <;> simp_all [eq_comm])
end
end Go.Sh

/- What 'sem1' says of maps is what they do. -/
namespace Go.Sh
open Go.RowKit

theorem keyFs_eq {P : Program} {d : Nat} {xs ys : List Int} : ∀ (fs : List Field) (i : Nat), keyFs P fs i = true → fs.length + i = xs.length → xs.length = ys.length →
    fs.foldr (fun f acc => match f.name == "_", partB P f.type (xs.map (Value.int .i64)).toArray f.offset, partB P f.type (ys.map (Value.int .i64)).toArray f.offset with
          | false, some u, some v => (match eqV P (d + 1) f.type u v, acc with | some b, some r => some (b && r) | _, _ => none)
          | _, _, _ => none) (some true) = some (xs.drop i == ys.drop i)
  | [], i, _, hl, he => by
    simp at hl
    rw [List.foldr_nil, List.drop_eq_nil_of_le (by omega), List.drop_eq_nil_of_le (by omega)]; rfl
  | f :: fs, i, h, hl, he => by
    simp only [keyFs, Bool.and_eq_true] at h
    obtain ⟨⟨⟨h1, h2⟩, h3⟩, h4⟩ := h
    simp only [List.length_cons] at hl
    have ih := keyFs_eq (P := P) (d := d) (xs := xs) (ys := ys) fs (i + 1) h4 (by omega) he
    have ht : P.underlying f.type = some (.int .i64) := by
      unfold intB at h1
      cases hu : P.underlying f.type with
      | none => rw [hu] at h1; cases h1
      | some t =>
        rw [hu] at h1
        cases t with
        | int k => cases k <;> first | rfl | cases h1
        | _ => cases h1
    have ho := Nat.eq_of_beq_eq_true h2
    have hn : (f.name == "_") = false := by simpa using h3
    have hag : isAggB P f.type = false := by unfold isAggB; rw [ht]
    have part : ∀ zs : List Int, i < zs.length → partB P f.type (zs.map (Value.int .i64)).toArray f.offset = some (.int .i64 zs[i]!) := fun zs hz => by
      unfold partB
      rw [hag, ht, ho]
      simp [hz]
    rw [List.foldr_cons, ih, hn, part xs (by omega), part ys (by omega)]
    have hx : xs.drop i = xs[i]! :: xs.drop (i + 1) := by
      rw [List.drop_eq_getElem_cons (by omega)]; simp [show i < xs.length by omega]
    have hy : ys.drop i = ys[i]! :: ys.drop (i + 1) := by
      rw [List.drop_eq_getElem_cons (by omega)]; simp [show i < ys.length by omega]
    rw [hx, hy]
    simp [eqV, ht, kEq]

theorem encK_eq {P : Program} {kt : TypeId} {ag : Bool} {n : Nat} (hk : keyB P kt = some (ag, n)) {ks ls : List Int} (h1 : ks.length = n) (h2 : ls.length = n) (w : World) :
    (Op.equal kt (encK ag ks) (encK ag ls)).run P w = .ok (ks == ls) w := by
  unfold keyB at hk
  split at hk
  · rename_i hu
    injection hk with hk; injection hk with ha hn
    subst ha hn
    obtain ⟨a, rfl⟩ := List.length_eq_one_iff.1 h1
    obtain ⟨b, rfl⟩ := List.length_eq_one_iff.1 h2
    have he : eqV P 10 kt (encK false [a]) (encK false [b]) = some (a == b) := by simp only [eqV, hu, encK, kEq]
    have := eqV_ok 9990 he w
    have e2 : ([a] == [b]) = (a == b) := by simp
    rw [e2]
    exact this
  · rename_i fs hu
    split at hk
    · rename_i hb
      injection hk with hk; injection hk with ha hn
      subst ha hn
      simp only [Bool.and_eq_true, Bool.not_eq_true'] at hb
      have he : eqV P 10 kt (encK true ks) (encK true ls) = some (ks == ls) := by
        have := keyFs_eq (P := P) (d := 8) (xs := ks) (ys := ls) fs.toList 0 hb.1.1 (by simp [h1]) (by omega)
        simp only [List.drop_zero] at this
        simp only [eqV, hu, encK, hb.1.2]
        exact this
      have := eqV_ok 9990 he w
      exact this
    · cases hk
  · cases hk

/-- Where a key stands. -/
def findM : List (List Int × Value) → List Int → Nat → Option (Nat × Value)
  | [], _, _ => none
  | p :: m, k, i => if p.1 == k then some (i, p.2) else findM m k (i + 1)
theorem findM_assoc : ∀ (m : List (List Int × Value)) (k : List Int) (i : Nat), (findM m k i).map (·.2) = assoc m k
  | [], _, _ => rfl
  | p :: m, k, i => by
    unfold findM assoc
    rw [List.find?_cons]
    cases h : p.1 == k with
    | true => simp
    | false => simpa [assoc] using findM_assoc m k (i + 1)
theorem findM_some : ∀ (m : List (List Int × Value)) (k : List Int) (i j : Nat) (v : Value), findM m k i = some (j, v) → ∃ l r, m = l ++ (k, v) :: r ∧ j = i + l.length ∧ ∀ p ∈ l, (p.1 == k) = false
  | [], _, _, _, _, h => by cases h
  | p :: m, k, i, j, v, h => by
    simp only [findM] at h
    split at h
    · rename_i hp
      injection h with h; injection h with h1 h2
      have : p.1 = k := by simpa using hp
      exact ⟨[], m, by rw [← this, ← h2]; rfl, by simp [h1], by simp⟩
    · rename_i hp
      obtain ⟨l, r, e1, e2, e3⟩ := findM_some m k (i + 1) j v h
      exact ⟨p :: l, r, by rw [e1]; rfl, by simp [e2]; omega, fun q hq => by rcases List.mem_cons.1 hq with rfl | hq; simpa using hp; exact e3 q hq⟩
theorem findM_none : ∀ (m : List (List Int × Value)) (k : List Int) (i : Nat), findM m k i = none → ∀ p ∈ m, (p.1 == k) = false
  | [], _, _, _, p, hp => by cases hp
  | q :: m, k, i, h, p, hp => by
    simp only [findM] at h
    split at h
    · cases h
    · rename_i hq
      rcases List.mem_cons.1 hp with rfl | hp
      · simpa using hq
      · exact findM_none m k (i + 1) h p hp

theorem findAsking_ok {P : Program} {kt : TypeId} {ag : Bool} {n : Nat} (hk : keyB P kt = some (ag, n)) {ks : List Int} (h1 : ks.length = n) (w : World) : ∀ (es : List MapEntry) (m : List (List Int × Value)) (i : Nat),
    es.map (fun e => (e.key, e.val)) = m.map (fun p => (encK ag p.1, p.2)) → (∀ p ∈ m, p.1.length = n) → (Instr.findAsking kt (encK ag ks) es i).run P w = .ok (findM m ks i) w
  | [], [], i, _, _ => rfl
  | [], _ :: _, _, h, _ => by simp at h
  | _ :: _, [], _, h, _ => by simp at h
  | e :: es, p :: m, i, h, hl => by
    simp only [List.map_cons, List.cons.injEq, Prod.mk.injEq] at h
    obtain ⟨⟨e1, e2⟩, e3⟩ := h
    have ih := findAsking_ok hk h1 w es m (i + 1) e3 (fun p hp => hl p (List.mem_cons_of_mem _ hp))
    simp only [Instr.findAsking, Sem.run_bind, e1, encK_eq hk h1 (hl p List.mem_cons_self), Result.andThen_ok, findM]
    have hsym : (ks == p.1) = (p.1 == ks) := BEq.comm
    rw [hsym]
    cases hb : p.1 == ks with
    | true => simp [e2]
    | false => simpa using ih

theorem findNow_ok {k : TypeDesc} {ag : Bool} {n : Nat} {ks : List Int} (hn : ∀ ls : List Int, ls.length = n → Instr.sameNow k (encK ag ks) (encK ag ls) = none ∨ Instr.sameNow k (encK ag ks) (encK ag ls) = some (ks == ls)) : ∀ (es : List MapEntry) (m : List (List Int × Value)) (i : Nat),
    es.map (fun e => (e.key, e.val)) = m.map (fun p => (encK ag p.1, p.2)) → (∀ p ∈ m, p.1.length = n) → Instr.findNow k (encK ag ks) es i = none ∨ Instr.findNow k (encK ag ks) es i = some (findM m ks i)
  | [], [], i, _, _ => .inr rfl
  | [], _ :: _, _, h, _ => by simp at h
  | _ :: _, [], _, h, _ => by simp at h
  | e :: es, p :: m, i, h, hl => by
    simp only [List.map_cons, List.cons.injEq, Prod.mk.injEq] at h
    obtain ⟨⟨e1, e2⟩, e3⟩ := h
    have ih := findNow_ok hn es m (i + 1) e3 (fun p hp => hl p (List.mem_cons_of_mem _ hp))
    simp only [Instr.findNow, e1, findM]
    have hsym : (ks == p.1) = (p.1 == ks) := BEq.comm
    rcases hn p.1 (hl p List.mem_cons_self) with h0 | h0
    · rw [h0]; exact .inl rfl
    · rw [h0, hsym]
      cases hb : p.1 == ks with
      | true => simp [e2]
      | false => simpa using ih

theorem sameNow_ok {P : Program} {kt : TypeId} {ag : Bool} {n : Nat} (hk : keyB P kt = some (ag, n)) {t : TypeDesc} (ht : P.underlying kt = some t) {ks : List Int} (h1 : ks.length = n) :
    ∀ ls : List Int, ls.length = n → Instr.sameNow t (encK ag ks) (encK ag ls) = none ∨ Instr.sameNow t (encK ag ks) (encK ag ls) = some (ks == ls) := by
  intro ls h2
  unfold keyB at hk
  rw [ht] at hk
  split at hk
  · rename_i hu
    injection hu with hu; subst hu
    injection hk with hk; injection hk with ha hn
    subst ha hn
    obtain ⟨a, rfl⟩ := List.length_eq_one_iff.1 h1
    obtain ⟨b, rfl⟩ := List.length_eq_one_iff.1 h2
    right
    simp [encK, Instr.sameNow]
  · rename_i fs hu
    injection hu with hu; subst hu
    left; rfl
  · cases hk

theorem findKey_ok {P : Program} {kt : TypeId} {ag : Bool} {n : Nat} (hk : keyB P kt = some (ag, n)) {ks : List Int} (h1 : ks.length = n) (w : World) {es : List MapEntry} {m : List (List Int × Value)}
    (h : es.map (fun e => (e.key, e.val)) = m.map (fun p => (encK ag p.1, p.2))) (hl : ∀ p ∈ m, p.1.length = n) : (Instr.findKey kt (encK ag ks) es).run P w = .ok (findM m ks 0) w := by
  obtain ⟨t, ht⟩ : ∃ t, P.underlying kt = some t := by
    cases hu : P.underlying kt with
    | none => unfold keyB at hk; rw [hu] at hk; cases hk
    | some t => exact ⟨t, rfl⟩
  have ha := findAsking_ok hk h1 w es m 0 h hl
  simp only [Instr.findKey, Sem.run_bind, run_underlying ht, Result.andThen_ok]
  rcases findNow_ok (sameNow_ok hk ht h1) es m 0 h hl with hn | hn
  · rw [hn]; exact ha
  · rw [hn]; rfl

theorem checkKey_int {P : Program} {t : TypeId} (ht : P.underlying t = some (.int .i64)) (e : Bool) (d : Nat) (v : Value) (w : World) : (Instr.checkKey e (d + 1) t v).run P w = .ok () w := by
  simp [Instr.checkKey, run_underlying ht]

theorem checkFs_ok {P : Program} {e : Bool} {d : Nat} {xs : List Int} {w : World} : ∀ (fs : List Field) (i : Nat), keyFs P fs i = true → fs.length + i = xs.length →
    (forIn fs PUnit.unit fun f (_ : PUnit) => if f.name ≠ "_" then do
        let c ← part f.type (xs.map (Value.int .i64)).toArray f.offset
        Instr.checkKey e (d + 1) f.type c
        pure (ForInStep.yield PUnit.unit) else (pure (ForInStep.yield PUnit.unit) : Sem _)).run P w = .ok PUnit.unit w
  | [], i, _, _ => by simp
  | f :: fs, i, h, hl => by
    simp only [keyFs, Bool.and_eq_true] at h
    obtain ⟨⟨⟨h1, h2⟩, h3⟩, h4⟩ := h
    simp only [List.length_cons] at hl
    have ih := checkFs_ok (P := P) (e := e) (d := d) (xs := xs) (w := w) fs (i + 1) h4 (by omega)
    have ht : P.underlying f.type = some (.int .i64) := by
      unfold intB at h1
      cases hu : P.underlying f.type with
      | none => rw [hu] at h1; cases h1
      | some t =>
        rw [hu] at h1
        cases t with
        | int k => cases k <;> first | rfl | cases h1
        | _ => cases h1
    have ho := Nat.eq_of_beq_eq_true h2
    have hn : f.name ≠ "_" := by simpa using h3
    have hag : isAggB P f.type = false := by unfold isAggB; rw [ht]
    have hp : partB P f.type (xs.map (Value.int .i64)).toArray f.offset = some (.int .i64 xs[i]!) := by
      unfold partB
      rw [hag, ht, ho]
      simp [show i < xs.length by omega]
    simp only [List.forIn_cons, Sem.run_bind, hn, ne_eq, not_false_eq_true, if_true, part_ok hp, checkKey_int ht, Result.andThen_ok, Sem.run_pure] at ih ⊢
    exact ih

theorem checkKey_at {P : Program} {kt : TypeId} {ag : Bool} {n : Nat} (hk : keyB P kt = some (ag, n)) {ks : List Int} (h1 : ks.length = n) (e : Bool) (d : Nat) (w : World) : (Instr.checkKey e (d + 1 + 1) kt (encK ag ks)).run P w = .ok () w := by
  unfold keyB at hk
  split at hk
  · rename_i hu
    exact checkKey_int hu e (d + 1) _ w
  · rename_i fs hu
    split at hk
    · rename_i hb
      injection hk with hk; injection hk with ha hn
      subst ha hn
      simp only [Bool.and_eq_true, Bool.not_eq_true'] at hb
      have := checkFs_ok (P := P) (e := e) (d := d) (xs := ks) (w := w) fs.toList 0 hb.1.1 (by simp [h1])
      unfold Instr.checkKey
      simp only [Sem.run_bind, run_underlying hu, Result.andThen_ok, encK]
      rw [← Array.forIn_toList]
      have h2 := congrArg (fun r => r.andThen fun (_ : PUnit) w' => (Result.ok () w' : Result Unit)) this
      simpa using h2
    · cases hk
  · cases hk
theorem checkKey_ok {P : Program} {kt : TypeId} {ag : Bool} {n : Nat} (hk : keyB P kt = some (ag, n)) {ks : List Int} (h1 : ks.length = n) (e : Bool) (w : World) : (Instr.checkKey e 10000 kt (encK ag ks)).run P w = .ok () w := checkKey_at hk h1 e 9998 w

theorem intsV_ok : ∀ {l : List Value} {ns : List Int}, intsV l = some ns → l = ns.map (Value.int .i64)
  | [], ns, h => by simp [intsV] at h; subst h; rfl
  | .int k n :: l, ns, h => by
    cases k <;> simp only [intsV] at h <;> first
      | (split at h
         · rename_i ns' hns
           injection h with h; subst h
           rw [intsV_ok hns]; rfl
         · cases h)
      | cases h
  | .bool _ :: l, ns, h => by simp [intsV] at h
  | .float _ _ :: l, ns, h => by simp [intsV] at h
  | .complex _ _ _ :: l, ns, h => by simp [intsV] at h
  | .string _ :: l, ns, h => by simp [intsV] at h
  | .pointer _ :: l, ns, h => by simp [intsV] at h
  | .slice _ _ _ :: l, ns, h => by simp [intsV] at h
  | .map _ :: l, ns, h => by simp [intsV] at h
  | .chan _ :: l, ns, h => by simp [intsV] at h
  | .nilFunc :: l, ns, h => by simp [intsV] at h
  | .func _ _ _ :: l, ns, h => by simp [intsV] at h
  | .nilIface :: l, ns, h => by simp [intsV] at h
  | .iface _ _ :: l, ns, h => by simp [intsV] at h
  | .agg _ :: l, ns, h => by simp [intsV] at h
  | .tuple _ :: l, ns, h => by simp [intsV] at h

theorem keyV_ok {ag : Bool} {n : Nat} {v : Value} {ks : List Int} (h : keyV ag n v = some ks) (hn : ag = false → n = 1) : v = encK ag ks ∧ ks.length = n := by
  unfold keyV at h
  split at h
  · injection h with h; subst h; exact ⟨rfl, by simp [hn rfl]⟩
  · rename_i cs
    split at h
    · rename_i l hl
      split at h
      · rename_i hb
        injection h with h; subst h
        refine ⟨?_, Nat.eq_of_beq_eq_true hb⟩
        have := intsV_ok hl
        simp only [encK, ← this]
      · cases h
    · cases h
  · cases h

theorem keyB_one {P : Program} {kt : TypeId} {ag : Bool} {n : Nat} (hk : keyB P kt = some (ag, n)) : ag = false → n = 1 := by
  unfold keyB at hk
  intro h
  split at hk
  · injection hk with hk; injection hk with _ hn; exact hn.symm
  · split at hk
    · injection hk with hk; injection hk with ha _; rw [h] at ha; cases ha
    · cases hk
  · cases hk

theorem zeroB_ok {P : Program} {t : TypeId} {z : Value} (h : zeroB P t = some z) (w : World) : (zeroValue t).run P w = .ok z w := by
  unfold zeroB at h
  split at h
  · rename_i i hi
    simp [zeroValue, typeInfo, hi, h]
  · cases h

theorem mapB_ok {P : Program} {t : TypeId} {ag : Bool} {n : Nat} {e : TypeId} (h : mapB P t = some (ag, n, e)) : ∃ k, P.underlying t = some (.map k e) ∧ keyB P k = some (ag, n) := by
  unfold mapB at h
  split at h
  · rename_i k e' hu
    split at h
    · rename_i ag' n' hk
      injection h with h; injection h with h1 h; injection h with h2 h3
      subst h1 h2 h3
      exact ⟨k, hu, hk⟩
    · cases h
  · cases h

theorem MapIs.ext {ag : Bool} {n : Nat} {w w' : World} {b : Nat} {m : List (List Int × Value)} (h : MapIs ag n w b m) (e : Ext w w') : MapIs ag n w' b m := by
  obtain ⟨es, c, h1, h2⟩ := h
  exact ⟨es, c, by rw [e.blk (Array.getElem?_eq_some_iff.1 h1).1]; exact h1, h2⟩

theorem look_ok {P : Program} {t : TypeId} {ag : Bool} {n : Nat} {e : TypeId} (hm : mapB P t = some (ag, n, e)) {r : Option Nat} {ks : List Int} (h1 : ks.length = n) {z : Value} (hz : zeroB P e = some z) {w : World} {m : List (List Int × Value)} (hr : MapR ag ks.length w r m) (c : Bool) :
    (Instr.lookup t (.map r) (encK ag ks) c).run P w = .ok (match c with | true => .tuple #[(assoc m ks).getD z, .bool (assoc m ks).isSome] | false => (assoc m ks).getD z) w := by
  obtain ⟨k, hu, hk⟩ := mapB_ok hm
  subst h1
  have key : ∀ (es : Array MapEntry), es.toList.map (fun e => (e.key, e.val)) = m.map (fun p => (encK ag p.1, p.2)) → (∀ p ∈ m, p.1.length = ks.length) →
      (do
        Instr.checkKey es.isEmpty 10000 k (encK ag ks)
        let (v, ok) ← match ← Instr.findKey k (encK ag ks) es.toList with
          | some (_, v) => pure (v, true)
          | none => pure (← zeroValue e, false)
        pure (if c then .tuple #[v, .bool ok] else v) : Sem Value).run P w = .ok (match c with | true => .tuple #[(assoc m ks).getD z, .bool (assoc m ks).isSome] | false => (assoc m ks).getD z) w := fun es h2 h3 => by
    simp only [Sem.run_bind, checkKey_ok hk rfl, Result.andThen_ok, findKey_ok hk rfl w h2 h3]
    rw [← findM_assoc m ks 0]
    cases hf : findM m ks 0 with
    | none => cases c <;> simp [zeroB_ok hz]
    | some p => cases c <;> simp
  cases r with
  | none =>
    have hm0 : m = [] := hr
    subst hm0
    have := key #[] rfl (by simp)
    simp only [Instr.lookup, Sem.run_bind, run_underlying hu, Result.andThen_ok, Sem.run_pure] at this ⊢
    exact this
  | some b =>
    obtain ⟨es, cl, g1, g2, g3, _⟩ := hr
    have := key es g2 g3
    have hg : (getObj b).run P w = .ok (.map es cl) w := by simp [getObj, Sem.run, g1]
    simp only [Instr.lookup, Sem.run_bind, run_underlying hu, Result.andThen_ok, Sem.run_pure, hg] at this ⊢
    exact this

theorem sameBits_encK {ag : Bool} {ks : List Int} (d : Nat) (hn : ag = false → ks.length = 1) : Instr.sameBits (d + 1) (encK ag ks) (encK ag ks) = true := by
  cases ag with
  | true =>
    simp only [encK, Instr.sameBits, beq_self_eq_true, Bool.true_and, List.all_eq_true]
    rintro ⟨x, y⟩ hx
    have : ∀ (l : List Value) x y, (x, y) ∈ l.zip l → x = y := by
      intro l
      induction l with
      | nil => intro x y h; simp at h
      | cons a l ih =>
        intro x y h
        simp only [List.zip_cons_cons, List.mem_cons, Prod.mk.injEq] at h
        rcases h with ⟨rfl, rfl⟩ | h
        · rfl
        · exact ih x y h
    have hxy := this _ x y hx
    subst hxy
    have := List.of_mem_zip hx
    simp only [List.mem_map] at this
    obtain ⟨⟨n, _, rfl⟩, _⟩ := this
    cases d <;> simp [Instr.sameBits]
  | false =>
    match ks with
    | [] => exact absurd (hn rfl) (by simp)
    | [n] => simp [encK, Instr.sameBits]
    | _ :: _ :: _ => exact absurd (hn rfl) (by simp)

theorem upd_mid : ∀ (l r : List (List Int × Value)) (k : List Int) (v v' : Value), (∀ p ∈ l, (p.1 == k) = false) → upd (l ++ (k, v') :: r) k v = l ++ (k, v) :: r
  | [], r, k, v, v', _ => by simp [upd]
  | p :: l, r, k, v, v', h => by
    simp only [List.cons_append, upd, h p List.mem_cons_self]
    simp [upd_mid l r k v v' (fun q hq => h q (List.mem_cons_of_mem _ hq))]
theorem upd_end : ∀ (m : List (List Int × Value)) (k : List Int) (v : Value), (∀ p ∈ m, (p.1 == k) = false) → upd m k v = m ++ [(k, v)]
  | [], k, v, _ => rfl
  | p :: m, k, v, h => by
    simp only [List.cons_append, upd, h p List.mem_cons_self]
    simp [upd_end m k v (fun q hq => h q (List.mem_cons_of_mem _ hq))]

theorem map_modify {α β : Type} (f : α → β) (g : α → α) (y : β) : ∀ (l : List α) (i : Nat), (∀ x, l[i]? = some x → f (g x) = y) → (l.modify i g).map f = (l.map f).set i y
  | [], i, _ => by cases i <;> simp
  | a :: l, 0, h => by simp [h a rfl]
  | a :: l, i + 1, h => by simp [map_modify f g y l i (fun x hx => h x (by simpa using hx))]
theorem map_modify_same {α β : Type} (f : α → β) (g : α → α) (h : ∀ x, f (g x) = f x) : ∀ (l : List α) (i : Nat), (l.modify i g).map f = l.map f
  | [], i => by cases i <;> simp
  | a :: l, 0 => by simp [h a]
  | a :: l, i + 1 => by simp [map_modify_same f g h l i]

theorem putObj_off {w : World} {b : Nat} (o : Obj) : Off b w (w.putObj b o) :=
  ⟨rfl, rfl, rfl, by simp, fun k hk => World.putObj_heap_other hk⟩

theorem mup_ok {P : Program} {t : TypeId} {ag : Bool} {n : Nat} {e : TypeId} (hm : mapB P t = some (ag, n, e)) {b : Nat} {ks : List Int} (h1 : ks.length = n) {w : World} {m : List (List Int × Value)} (hr : MapIs ag ks.length w b m) (v : Value) :
    ∃ w2, (Instr.mapUpdate t (.map (some b)) (encK ag ks) v).run P w = .ok () w2 ∧ Off b w w2 ∧ MapIs ag ks.length w2 b (upd m ks v) := by
  obtain ⟨k, hu, hk⟩ := mapB_ok hm
  subst h1
  obtain ⟨es, cl, g1, g2, g3, g4, g5, g6⟩ := hr
  have hlt := (Array.getElem?_eq_some_iff.1 g1).1
  have hg : (getObj b).run P w = .ok (.map es cl) w := by simp [getObj, Sem.run, g1]
  have hs : ∀ o, (setObj b o).run P w = .ok () (w.putObj b o) := fun o => by simp [setObj, Sem.run, g1, World.putObj]
  simp only [Instr.mapUpdate, Sem.run_bind, run_underlying hu, Result.andThen_ok, hg, checkKey_ok hk rfl, findKey_ok hk rfl w g2 g3]
  cases hf : findM m ks 0 with
  | none =>
    have hno := findM_none m ks 0 hf
    refine ⟨_, hs _, putObj_off _, ?_⟩
    rw [upd_end m ks v hno]
    refine ⟨_, _, World.putObj_heap_same hlt, ?_, ?_, ?_, ?_, ?_⟩
    · simp [g2]
    · intro p hp
      rcases List.mem_append.1 hp with hp | hp
      · exact g3 p hp
      · simp at hp; subst hp; rfl
    · simp only [List.map_append, List.map_cons, List.map_nil]
      rw [List.nodup_append]
      refine ⟨g4, by simp, fun a ha c hc e => ?_⟩
      simp at hc
      subst e; subst hc
      obtain ⟨p, hp, e⟩ := List.mem_map.1 ha
      have := hno p hp
      simp [e] at this
    · intro x hx
      simp only [Array.toList_push, List.mem_append, List.mem_singleton] at hx
      rcases hx with hx | hx
      · have := g5 x hx; omega
      · subst hx; exact Nat.lt_succ_self _
    · simp only [Array.toList_push, List.map_append, List.map_cons, List.map_nil]
      rw [List.nodup_append]
      refine ⟨g6, by simp, fun a ha c hc e => ?_⟩
      simp at hc
      subst e; subst hc
      obtain ⟨p, hp, e⟩ := List.mem_map.1 ha
      have := g5 p hp
      omega
  | some iv =>
    obtain ⟨i, v0⟩ := iv
    obtain ⟨l, r, e1, e2, e3⟩ := findM_some m ks 0 i v0 hf
    simp only [Nat.zero_add] at e2
    have hi : (es.toList.map (fun e => (e.key, e.val)))[i]? = some (encK ag ks, v0) := by
      rw [g2, e1, e2]; simp
    rw [List.getElem?_map, Option.map_eq_some_iff] at hi
    obtain ⟨x, hx, hx2⟩ := hi
    injection hx2 with hx2 _
    have hxa : es[i]? = some x := by rw [← Array.getElem?_toList]; exact hx
    have hkeep : (Instr.keyThatStays x.key (encK ag ks)).run P w = .ok (encK ag ks) w := by
      rw [hx2]
      unfold Instr.keyThatStays
      rw [sameBits_encK 9999 (fun ha => keyB_one hk ha)]
      simp
    simp only [hxa, Option.map_some, Option.getD_some, Sem.run_bind, hkeep, Result.andThen_ok]
    refine ⟨_, hs _, putObj_off _, ?_⟩
    rw [e1, upd_mid l r ks v v0 e3]
    refine ⟨_, _, World.putObj_heap_same hlt, ?_, ?_, ?_, ?_, ?_⟩
    · rw [Array.toList_modify, map_modify (y := (encK ag ks, v))]
      · rw [g2, e1, e2]; simp
      · intro y _; rfl
    · intro p hp
      rw [e1] at g3
      simp only [List.mem_append, List.mem_cons] at hp g3
      rcases hp with hp | rfl | hp
      · exact g3 p (.inl hp)
      · rfl
      · exact g3 p (.inr (.inr hp))
    · rw [e1] at g4; simpa using g4
    · intro y hy
      rw [Array.toList_modify] at hy
      have h2 := map_modify_same (fun e : MapEntry => e.born) (fun e : MapEntry => { e with key := encK ag ks, val := v }) (fun _ => rfl) es.toList i
      have : y.born ∈ es.toList.map (·.born) := by rw [← h2]; exact List.mem_map.2 ⟨y, hy, rfl⟩
      obtain ⟨z, hz, e⟩ := List.mem_map.1 this
      rw [← e]; exact g5 z hz
    · have h2 := map_modify_same (fun e : MapEntry => e.born) (fun e : MapEntry => { e with key := encK ag ks, val := v }) (fun _ => rfl) es.toList i
      rw [Array.toList_modify]; exact h2 ▸ g6
end Go.Sh

/- 'den' is sound: steps, regions. -/
namespace Go.Sh
open Go.RowKit

section
variable {cx : Cx} {n : Nat} {s : S} {a : Act} {w : World} {o : Oper}

theorem exL_some : ∀ {l : List Shp} {K : List Value → Prop}, exL l K → ∃ vs, K vs
  | [], K, h => ⟨[], h⟩
  | σ :: l, K, h => by
    obtain ⟨x, h⟩ := h
    obtain ⟨vs, h⟩ := exL_some h
    exact ⟨_, h⟩
theorem exV_some {g : Bool} {l : List Shp} {K : Value → Prop} (h : exV g l K) : ∃ v, K v := by
  unfold exV at h
  split at h
  · obtain ⟨vs, h⟩ := exL_some h; exact ⟨_, h⟩
  · obtain ⟨x, h⟩ := h; exact ⟨_, h⟩
  · exact h.elim
theorem exVs_some : ∀ {l : List (Bool × List Shp)} {K : List Value → Prop}, exVs l K → ∃ vs, K vs
  | [], K, h => ⟨[], h⟩
  | (g, l) :: r, K, h => by
    obtain ⟨v, h⟩ := exV_some h
    obtain ⟨vs, h⟩ := exVs_some h
    exact ⟨_, h⟩

theorem ok_lookup (h : Rel cx.P n s a w) {t : TypeId} {x k : Operand} {c : Bool} (hop : o.op = .lookup t x k c) {ag : Bool} {m : Nat} {e : TypeId} (hm : mapB cx.P t = some (ag, m, e)) {r : Option Nat} (ex : ev s x = some (.v (.map r))) {kv : Value} (ek : evv s k = some kv)
    {ks : List Int} (hk : keyV ag m kv = some ks) {z : Value} (hz : zeroB cx.P e = some z) {g : Bool} {l : List Shp} :
    SemOk cx s a o w (.read fun w K => MLk ag r ks z w fun v is => exV g l fun u => v = u ∧ K (match c with | true => .v (.tuple #[u, .bool is]) | false => .v u)) := by
  rintro K ⟨mm, hr, hx⟩
  obtain ⟨u, rfl, hK⟩ := exV_some hx
  obtain ⟨g1, _⟩ := ev_ok h ex
  simp only [conc, cc] at g1
  have g2 := evv_ok h ek
  obtain ⟨k0, hu, hkb⟩ := mapB_ok hm
  obtain ⟨rfl, hlen⟩ := keyV_ok hk (keyB_one hkb)
  refine ⟨_, hK, by cases c <;> exact locOk_v _, fun w' e => ?_⟩
  have hr' : MapR ag ks.length w' r mm := by
    cases r with
    | none => exact hr
    | some b => exact MapIs.ext hr e
  have := look_ok hm hlen hz hr' c
  simp only [execOp, hop, g1, g2, Sem.run_bind, this, Result.andThen_ok]
  cases c <;> rfl

theorem ok_mapUpdate (h : Rel cx.P n s a w) {t : TypeId} {x k y : Operand} (hop : o.op = .mapUpdate t x k y) {ag : Bool} {m : Nat} {e : TypeId} (hm : mapB cx.P t = some (ag, m, e)) {r : Option Nat} (ex : ev s x = some (.v (.map r))) {kv vv : Value} (ek : evv s k = some kv) (ev : evv s y = some vv)
    {ks : List Int} (hk : keyV ag m kv = some ks) : SemOk cx s a o w (.big fun w K => MUp ag r ks vv w (fun w' => K (.v undef) w')) := by
  rintro w1 K ⟨b, rfl, mm, hr, hK⟩
  obtain ⟨g1, _⟩ := ev_ok h ex
  simp only [conc, cc] at g1
  have g2 := evv_ok h ek
  have g3 := evv_ok h ev
  obtain ⟨k0, hu, hkb⟩ := mapB_ok hm
  obtain ⟨rfl, hlen⟩ := keyV_ok hk (keyB_one hkb)
  obtain ⟨w2, r1, r2, r3⟩ := mup_ok hm hlen hr vv
  refine ⟨.v undef, w2, .inr ⟨?_, rfl⟩, argOk_v _, by rw [r2.size]; exact Nat.le_refl _, hK w2 r2 r3⟩
  simp only [execOp, hop, g1, g2, g3, Sem.run_bind, r1, Result.andThen_ok]
  rfl

theorem sem1_ok (h : Rel cx.P n s a w) : SemOk cx s a o w (sem1 cx s o) := by
  unfold sem1
  split
  · rename_i x hop
    split
    · rename_i y e; exact ok_move h (.inl hop) e
    · trivial
  · rename_i x hop
    split
    · rename_i y e; exact ok_move h (.inr hop) e
    · trivial
  · rename_i c x y hop
    split
    · rename_i e
      obtain ⟨g1, _⟩ := ev_ok h e
      simp only [conc, cc] at g1
      split
      · rename_i z ez
        obtain ⟨g2, g3⟩ := ev_ok h ez
        exact fun K hk => ⟨_, hk, g3, fun w' => by simp [execOp, hop, g1, g2, asBool]⟩
      · trivial
    · rename_i e
      obtain ⟨g1, _⟩ := ev_ok h e
      simp only [conc, cc] at g1
      split
      · rename_i z ez
        obtain ⟨g2, g3⟩ := ev_ok h ez
        exact fun K hk => ⟨_, hk, g3, fun w' => by simp [execOp, hop, g1, g2, asBool]⟩
      · trivial
    · trivial
  · rename_i t hop
    split
    · rename_i z e; exact ok_alloc hop e
    · trivial
  · rename_i t x hop
    split
    · split
      · rename_i v e; exact ok_boxV h hop e
      · trivial
    · split
      · rename_i v e; exact ok_box h hop e
      · trivial
  · rename_i t parts hop
    split
    · rename_i vs e
      split
      · rename_i cells hc; exact ok_build h hop e hc
      · trivial
    · trivial
  · rename_i t x hop
    split
    · rename_i d off e
      split
      · rename_i b cs hb
        have g1 : a.eval x = .pointer (some ⟨b, off, none⟩) := by
          rw [(ev_ok h e).1]; simp [conc, hb]
        split
        · rename_i hag
          split
          · rename_i l _
            split
            · rename_i hsz; exact ok_load_p hop g1 hag hsz
            · trivial
          · trivial
        · rename_i hag
          split
          · rename_i σ hl; exact ok_load_p1 hop g1 hag hl
          · trivial
      · rename_i b cs m hm hb
        split
        · rename_i hag
          split
          · rename_i l _
            split
            · rename_i hsz
              simp only [Bool.and_eq_true] at hsz
              exact ok_load_agg (b := ⟨b, cs, m⟩) h hop e hb hm hag hsz.1 (Nat.le_of_ble_eq_true hsz.2)
            · trivial
          · trivial
        · rename_i hag
          split
          · rename_i v hv
            split
            · rename_i hun
              exact ok_load_one (b := ⟨b, cs, m⟩) h hop e hb hm hag hun hv
            · trivial
          · trivial
      · trivial
    · rename_i p e
      have g1 : a.eval x = .pointer (some p) := (ev_ok h e).1
      split
      · rename_i hag
        split
        · rename_i l _
          split
          · rename_i hsz; exact ok_load_p hop g1 hag hsz
          · trivial
        · trivial
      · rename_i hag
        split
        · rename_i σ hl; exact ok_load_p1 hop g1 hag hl
        · trivial
    · trivial
  · rename_i t x y hop
    split
    · rename_i v hv
      split
      · rename_i hsz
        split
        · rename_i d off e
          split
          · rename_i b cs hb
            split
            · rename_i hle; exact ok_store_l h hop e hv hsz hb hle
            · trivial
          · rename_i b cs hb
            exact ok_store_p h hop (by rw [(ev_ok h e).1]; simp [conc, hb]) hv hsz
          · trivial
        · rename_i p e; exact ok_store_p h hop (ev_ok h e).1 hv hsz
        · trivial
      · trivial
    · trivial
  · rename_i x hop
    split
    · rename_i d off e; exact ok_nil h hop e
    · rename_i p e; exact ok_nil h hop e
    · rename_i f i cap e; exact ok_nil h hop e
    · trivial
  · rename_i op t x y yt hop
    split
    · rename_i u v e1 e2; exact ok_bin h hop e1 e2
    · trivial
  · rename_i op t x hop
    split
    · rename_i b e; exact ok_not h hop e
    · rename_i k i e; exact ok_neg h hop e
    · trivial
  · rename_i src dst x hop
    split
    · rename_i j i k' k e h1 h2; exact ok_conv h hop e h1 h2
    · trivial
  · rename_i f first cap hop
    split
    · rename_i fs vs hf e; exact ok_makeFunc h hop hf e
    · trivial
  · rename_i t len parts hop
    split
    · rename_i sz bytes z vs he e
      split
      · rename_i cells hl hc; exact ok_buildSlice h hop he e hl hc
      · trivial
    · trivial
  · rename_i t l c hop
    split
    · rename_i sz bytes z kl x kc y he e1 e2; exact ok_makeSlice h hop he e1 e2
    · trivial
  · rename_i t hop; exact ok_makeMap hop
  · rename_i t x k c hop
    split
    · rename_i ag m e r kv hm ex ek
      split
      · rename_i ks z g l hk hz _; cases c <;> exact ok_lookup h hop hm ex ek hk hz
      · trivial
    · trivial
  · rename_i t x k y hop
    split
    · rename_i ag m e r kv vv hm ex ek ey
      split
      · rename_i ks hk; exact ok_mapUpdate h hop hm ex ek ey hk
      · trivial
    · trivial
  · rename_i t x lo hi mx hop
    split
    · rename_i sz bytes z p len cap l r km m he e e1 e2 e3; exact ok_slice3 h hop he e e1 e2 e3
    · trivial
  · rename_i t x lo hi hop
    split
    · rename_i sz bytes z p len cap l r he e e1 e2; exact ok_slice h hop he e e1 e2
    · trivial
  · rename_i t x f hop
    split
    · rename_i off ft hf
      split
      · rename_i hsz
        split
        · rename_i d o' e; exact ok_fieldAddr h hop hf hsz e
        · rename_i p e; exact ok_fieldAddr h hop hf hsz e
        · trivial
      · trivial
    · trivial
  · rename_i t x f hop
    split
    · rename_i off ft cs hf e
      split
      · rename_i hag
        split
        · rename_i i hi; exact ok_field h hop hf e hag hi
        · trivial
      · rename_i hag
        split
        · rename_i v hv
          split
          · rename_i hun; exact ok_field1 h hop hf e hag hun hv
          · trivial
        · trivial
    · trivial
  · rename_i t x y hop
    split
    · rename_i sz bytes z he
      split
      · rename_i p len cap k i e1 e2; exact ok_index h hop he e1 e2
      · trivial
    · split
      · rename_i len sz e he
        split
        · rename_i d off k i e1 e2
          split
          · rename_i b cs hb; exact ok_indexA h hop he e1 hb e2
          · trivial
        · trivial
      · trivial
  · rename_i t x y hop
    split
    · rename_i len sz e he
      split
      · rename_i σ hsz hl
        have hsz : sz = 1 := Nat.eq_of_beq_eq_true hsz
        subst hsz
        split
        · rename_i cs k i e1 e2; exact ok_indexV h hop he e1 e2 hl
        · trivial
      · trivial
    · trivial
  · rename_i x i hop
    split
    · rename_i vs e
      split
      · rename_i v hv; exact ok_extract h hop e hv
      · trivial
    · trivial
  · rename_i c hop
    split
    · rename_i b xs hb e; exact ok_builtin h hop hb e
    · rename_i f xs hb e
      split
      · rename_i g fs cap ef
        split
        · rename_i hnb; exact ok_call h hop hb e ef hnb
        · trivial
      · rename_i v ef
        split
        · rename_i vs r hv _; exact ok_callV h hop hb e ef hv r
        · trivial
      · rename_i v E ef
        split
        · rename_i vs hv; exact ok_yield h hop hb e ef hv
        · trivial
      · trivial
    · trivial
  · trivial
end

/-! ### Frames, worlds, states -/
theorem find_cons {α : Type} (k : Nat) (x : α) (l : List (Nat × α)) (i : Nat) : find ((k, x) :: l) i = if k = i then some x else find l i := by
  show (match Nat.beq k i with | true => some x | false => find l i) = _
  by_cases h : k = i
  · subst h; simp
  · rw [if_neg h]
    have : Nat.beq k i = false := by
      cases hb : Nat.beq k i with
      | false => rfl
      | true => exact absurd (Nat.eq_of_beq_eq_true hb) h
    rw [this]
theorem find_append {α : Type} : ∀ (l r : List (Nat × α)) (i : Nat), find (l ++ r) i = match find l i with | some x => some x | none => find r i
  | [], r, i => rfl
  | (k, x) :: l, r, i => by
    rw [List.cons_append, find_cons, find_cons]
    split
    · rfl
    · exact find_append l r i
theorem find_kill {f : Nat → Bool} : ∀ {l : List (Nat × X)} {i : Nat} {x : X}, find (kill f l) i = some x → x ≠ .bad → find l i = some x ∧ ∀ d o, x = .loc d o → f d = false
  | [], i, x, h, _ => by cases h
  | (t, y) :: l, i, x, h, hx => by
    rw [find_cons]
    cases y with
    | loc d o =>
      simp only [kill] at h
      rw [find_cons] at h
      split at h
      · rename_i ht
        rw [if_pos ht]
        injection h with h
        cases hf : f d with
        | true => rw [hf] at h; exact absurd h.symm hx
        | false =>
          rw [hf] at h
          subst h
          exact ⟨rfl, fun d' o' e => by injection e with e1 _; rw [← e1]; exact hf⟩
      · rename_i ht
        rw [if_neg ht]
        exact find_kill h hx
    | _ =>
      simp only [kill] at h
      rw [find_cons] at h
      split at h
      · rename_i ht
        rw [if_pos ht]
        injection h with h
        subst h
        exact ⟨rfl, fun d' o' e => by cases e⟩
      · rename_i ht
        rw [if_neg ht]
        exact find_kill h hx
structure Fr (W : List Nat) (s : S) (a : Act) (w : World) (s' : S) (a' : Act) (w' : World) : Prop where
  tm : ∀ t, t ∉ W → a'.tmps[t]? = a.tmps[t]?
  ro : ∀ b ∈ s.ro, b ∈ s'.ro
  df : ∃ pre, s'.df = pre ++ s.df
  hp : ∀ b ∈ s.ro, w'.heap[b]? = w.heap[b]?
  bk : ∀ d, d ∉ W → ∀ b', find s'.bx d = some b' → ∃ b, find s.bx d = some b ∧ b.b = b'.b

theorem Fr.refl (W : List Nat) (s : S) (a : Act) (w : World) : Fr W s a w s a w := ⟨fun _ _ => rfl, fun _ h => h, ⟨[], rfl⟩, fun _ _ => rfl, fun _ _ b' h => ⟨b', h, rfl⟩⟩
theorem Fr.trans {W : List Nat} {s s' s'' : S} {a a' a'' : Act} {w w' w'' : World} (h : Fr W s a w s' a' w') (k : Fr W s' a' w' s'' a'' w'') : Fr W s a w s'' a'' w'' :=
  ⟨fun t ht => (k.tm t ht).trans (h.tm t ht), fun b hb => k.ro b (h.ro b hb), let ⟨p, hp⟩ := h.df; let ⟨q, hq⟩ := k.df; ⟨q ++ p, by rw [hq, hp, List.append_assoc]⟩, fun b hb => (k.hp b (h.ro b hb)).trans (h.hp b hb), fun d hd b' hb' => by
    obtain ⟨b1, h1, e1⟩ := k.bk d hd b' hb'
    obtain ⟨b2, h2, e2⟩ := h.bk d hd b1 h1
    exact ⟨b2, h2, e2.trans e1⟩⟩
theorem Fr.mono {W W' : List Nat} {s s' : S} {a a' : Act} {w w' : World} (h : Fr W s a w s' a' w') (hs : ∀ t ∈ W, t ∈ W') : Fr W' s a w s' a' w' :=
  ⟨fun t ht => h.tm t (fun hm => ht (hs t hm)), h.ro, h.df, h.hp, fun d hd => h.bk d (fun hm => hd (hs d hm))⟩
theorem Fr.same {W : List Nat} {s s' : S} {a a' : Act} {w w' : World} (h : Fr W s a w s' a' w') {p : Prop} (hk : dfOk s s' p) : s'.df = s.df ∧ p := by
  unfold dfOk at hk
  split at hk
  · rename_i hb
    have hl := Nat.eq_of_beq_eq_true hb
    obtain ⟨pre, hp⟩ := h.df
    rw [hp, List.length_append] at hl
    have : pre = [] := List.eq_nil_of_length_eq_zero (by omega)
    exact ⟨by rw [hp, this]; rfl, hk⟩
  · exact hk.elim

section
variable {P : Program} {n : Nat} {s : S} {a : Act} {w w' : World}

theorem Rel.world (h : Rel P n s a w) (hr : ∀ b ∈ s.ro, w'.heap[b]? = w.heap[b]?) (hl : ∀ d b, find s.bx d = some b → b.m = .rw → w'.heap[b.b]? = w.heap[b.b]?) : Rel P n s a w' := by
  refine ⟨h.sl, h.size, h.df, fun D hD => ⟨(h.dfw D hD).1, by rw [hr D (h.dfw D hD).1]; exact (h.dfw D hD).2⟩, h.dfn, fun d b hb => ⟨fun hm => ?_, (h.bx d b hb).2⟩, h.dist, fun b hb => ?_⟩
  · obtain ⟨T, hT⟩ := (h.bx d b hb).1 hm
    refine ⟨T, ?_⟩
    cases hbm : b.m with
    | rw => rw [hl d b hb hbm]; exact hT
    | ro => rw [hr b.b ((h.bx d b hb).2.2 hbm)]; exact hT
    | out => exact absurd hbm hm
  · have := h.ro b hb
    have e := hr b hb
    rw [Array.getElem?_eq_getElem this] at e
    exact (Array.getElem?_eq_some_iff.1 e).1

theorem Rel.ext (h : Rel P n s a w) (e : Ext w w') : Rel P n s a w' :=
  h.world (fun b hb => e.blk (h.ro b hb)) (fun d b hb hm => e.blk (blk_lt ((h.bx d b hb).1 (by rw [hm]; intro h; cases h))))

theorem Fr.ext {W : List Nat} {s0 : S} {a0 : Act} {w0 : World} (f : Fr W s0 a0 w0 s a w) (h : Rel P n s a w) (e : Ext w w') : Fr W s0 a0 w0 s a w' :=
  ⟨f.tm, f.ro, f.df, fun b hb => (e.blk (h.ro b (f.ro b hb))).trans (f.hp b hb), f.bk⟩

theorem Rel.put (h : Rel P n s a w) {d : Nat} (hd : d < n) {x : X} (hx : LocOk P s x) : Rel P n (s.put d x) (a.put (some d) (conc s.bx x)) w := by
  refine ⟨fun t y hy hyb => ?_, by simp [Act.put, h.size], h.df, h.dfw, h.dfn, h.bx, h.dist, h.ro⟩
  have hy : find ((d, x) :: s.sl) t = some y := hy
  rw [find_cons] at hy
  by_cases hdt : d = t
  · subst hdt
    rw [if_pos rfl] at hy
    injection hy with hy
    subst hy
    refine ⟨?_, hx⟩
    have : d < a.tmps.size := by rw [h.size]; exact hd
    simp [Act.put, this, S.put]
  · rw [if_neg hdt] at hy
    obtain ⟨h1, h2⟩ := h.sl t y hy hyb
    refine ⟨?_, h2⟩
    simp only [Act.put, S.put]
    rw [Array.getElem?_setIfInBounds_ne hdt]
    exact h1

theorem Rel.putO (h : Rel P n s a w) {d : Option Nat} (hd : dstOk n d = true) {x : X} (hx : LocOk P s x) : Rel P n (s.putO d x) (a.put d (conc s.bx x)) w := by
  cases d with
  | none => exact h
  | some d => exact h.put (by simpa [dstOk] using hd) hx

theorem Fr.putO {W : List Nat} {s0 : S} {a0 : Act} {w0 : World} (f : Fr W s0 a0 w0 s a w) {d : Option Nat} (hd : ∀ t, d = some t → t ∈ W) (x : X) (v : Value) : Fr W s0 a0 w0 (s.putO d x) (a.put d v) w := by
  cases d with
  | none => exact f
  | some d =>
    refine ⟨fun t ht => ?_, f.ro, f.df, f.hp, f.bk⟩
    have : d ≠ t := fun e => ht (e ▸ hd d rfl)
    simp only [Act.put]
    rw [Array.getElem?_setIfInBounds_ne this]
    exact f.tm t ht

/-- A fact on a slot that is there already. -/
theorem Rel.again (h : Rel P n s a w) {d : Nat} {x : X} (hx : find s.sl d = some x) : Rel P n (s.put d x) a w := by
  refine ⟨fun t y hy hyb => ?_, h.size, h.df, h.dfw, h.dfn, h.bx, h.dist, h.ro⟩
  have hy2 : (if d = t then some x else find s.sl t) = some y := by rw [← find_cons]; exact hy
  split at hy2
  · rename_i hdt; subst hdt
    have hy3 := Option.some.inj hy2
    subst hy3; exact h.sl d x hx hyb
  · exact h.sl t y hy2 hyb
theorem Fr.again {W : List Nat} {s0 : S} {a0 : Act} {w0 : World} (f : Fr W s0 a0 w0 s a w) (d : Nat) (x : X) : Fr W s0 a0 w0 (s.put d x) a w := ⟨f.tm, f.ro, f.df, f.hp, f.bk⟩

theorem conc_setbox {bx : List (Nat × Bx)} {d : Nat} {b b' : Bx} (hb : find bx d = some b) (he : b'.b = b.b) (x : X) : conc ((d, b') :: bx) x = conc bx x := by
  cases x with
  | loc d' off =>
    simp only [conc, find_cons]
    by_cases hd : d = d'
    · subst hd; simp [hb, he]
    · simp [hd]
  | _ => rfl

/-- A box's cells, or its mode, turn; its block stays. -/
theorem Rel.setbox (h : Rel P n s a w) {d : Nat} {b b' : Bx} (hb : find s.bx d = some b) (he : b'.b = b.b) (hblk : b'.m ≠ .out → Blk w' b'.b b'.cs) (hrw : b'.m = .rw → b'.b ∉ s.ro) (hro : b'.m = .ro → b'.b ∈ s.ro) (hm : b'.m ≠ .out → b.m ≠ .out)
    (hoth : ∀ k, k ≠ b.b ∨ b.m = .out ∨ w'.heap[k]? = w.heap[k]? → w'.heap[k]? = w.heap[k]?) (hnr : ∀ k ∈ s.ro, w'.heap[k]? = w.heap[k]?) : Rel P n (s.setbox d b') a w' := by
  refine ⟨fun t y hy hyb => ?_, h.size, h.df, fun D hD => ⟨(h.dfw D hD).1, by rw [hnr D (h.dfw D hD).1]; exact (h.dfw D hD).2⟩, h.dfn, fun d1 b1 hb1 => ?_, fun d1 d2 b1 b2 hne h1 h2 m1 m2 => ?_, fun k hk => ?_⟩
  · obtain ⟨h1, h2⟩ := h.sl t y hy hyb
    refine ⟨by simp only [S.setbox]; rw [conc_setbox hb he]; exact h1, fun d' off hx => ?_, h2.2⟩
    obtain ⟨b2, hb2⟩ := h2.1 d' off hx
    simp only [S.setbox, find_cons]
    split
    · exact ⟨_, rfl⟩
    · exact ⟨b2, hb2⟩
  · simp only [S.setbox, find_cons] at hb1
    split at hb1
    · injection hb1 with hb1; subst hb1; exact ⟨hblk, hrw, hro⟩
    · rename_i hd
      obtain ⟨g1, g2⟩ := h.bx d1 b1 hb1
      refine ⟨fun hm1 => ?_, g2⟩
      obtain ⟨T, hT⟩ := g1 hm1
      refine ⟨T, ?_⟩
      by_cases hout : b.m = .out
      · rw [hoth b1.b (.inr (.inl hout))]; exact hT
      · rw [hoth b1.b (.inl (fun e => h.dist d1 d b1 b (fun e => hd e.symm) hb1 hb hm1 hout e))]; exact hT
  · simp only [S.setbox, find_cons] at h1 h2
    split at h1 <;> split at h2
    · rename_i e1 e2; exact absurd (e1.symm.trans e2) hne
    · injection h1 with h1; subst h1
      rename_i e1 e2
      rw [he]
      exact h.dist d d2 b b2 e2 hb h2 (hm m1) m2
    · injection h2 with h2; subst h2
      rename_i e1 e2
      rw [he]
      exact h.dist d1 d b1 b (fun e => e1 e.symm) h1 hb m1 (hm m2)
    · exact h.dist d1 d2 b1 b2 hne h1 h2 m1 m2
  · have := h.ro k hk
    have e := hnr k hk
    rw [Array.getElem?_eq_getElem this] at e
    exact (Array.getElem?_eq_some_iff.1 e).1

theorem Fr.setbox {s : S} {a : Act} {w w' : World} {W : List Nat} {s0 : S} {a0 : Act} {w0 : World} (f : Fr W s0 a0 w0 s a w) {d : Nat} {b b' : Bx} (hb : find s.bx d = some b) (he : b'.b = b.b) (hnr : ∀ k ∈ s.ro, w'.heap[k]? = w.heap[k]?) : Fr W s0 a0 w0 (s.setbox d b') a w' := by
  refine ⟨f.tm, f.ro, f.df, fun k hk => (hnr k (f.ro k hk)).trans (f.hp k hk), fun d1 hd1 b1 hb1 => ?_⟩
  simp only [S.setbox, find_cons] at hb1
  split at hb1
  · rename_i e; subst e
    injection hb1 with hb1; subst hb1
    obtain ⟨b2, h2, e2⟩ := f.bk d hd1 b hb
    exact ⟨b2, h2, by rw [he]; exact e2⟩
  · exact f.bk d1 hd1 b1 hb1

/-- A new box. -/
theorem Rel.newboxZ (h' : Rel P n s a w') {d : Nat} (hd : d < n) {k : Nat} {cs : List Value} (hblk : Blk w' k cs) (hne : ∀ d b, find s.bx d = some b → b.m ≠ .out → b.b ≠ k) (hnr : k ∉ s.ro) : Rel P n (s.newbox d k cs) (a.put (some d) (.pointer (some ⟨k, 0, none⟩))) w' := by
  have h := h'
  refine ⟨fun t y hy hyb => ?_, by simp [Act.put, h.size], h.df, h'.dfw, h.dfn, fun d1 b1 hb1 => ?_, fun d1 d2 b1 b2 hne' h1 h2 m1 m2 => ?_, h'.ro⟩
  · simp only [S.newbox, find_cons] at hy
    by_cases hdt : d = t
    · subst hdt
      rw [if_pos rfl] at hy
      injection hy with hy
      subst hy
      have : d < a.tmps.size := by rw [h.size]; exact hd
      refine ⟨by simp [Act.put, this, S.newbox, conc, find_cons], fun d' off hx => ?_, xok_loc _ _⟩
      injection hx with hx _; subst hx
      exact ⟨_, by simp [S.newbox, find_cons]; rfl⟩
    · rw [if_neg hdt] at hy
      obtain ⟨hy, hnl⟩ := find_kill hy hyb
      have hnl : ∀ off, y ≠ .loc d off := fun off hx => by have := hnl d off hx; simp at this
      obtain ⟨h1, h2⟩ := h.sl t y hy hyb
      have hc : conc (s.newbox d k cs).bx y = conc s.bx y := by
        cases y with
        | loc d' off =>
          simp only [conc, S.newbox, find_cons]
          by_cases hdd : d = d'
          · subst hdd; exact absurd rfl (hnl off)
          · simp [hdd]
        | _ => rfl
      refine ⟨?_, fun d' off hx => ?_, h2.2⟩
      · rw [hc]
        simp only [Act.put]
        rw [Array.getElem?_setIfInBounds_ne hdt]
        exact h1
      · obtain ⟨b2, hb2⟩ := h2.1 d' off hx
        simp only [S.newbox, find_cons]
        split
        · exact ⟨_, rfl⟩
        · exact ⟨b2, hb2⟩
  · simp only [S.newbox, find_cons] at hb1
    split at hb1
    · injection hb1 with hb1; subst hb1
      exact ⟨fun _ => hblk, fun _ hm => hnr hm, fun hm => by cases hm⟩
    · exact h'.bx d1 b1 hb1
  · simp only [S.newbox, find_cons] at h1 h2
    split at h1 <;> split at h2
    · rename_i e1 e2; exact absurd (e1.symm.trans e2) hne'
    · injection h1 with h1; subst h1
      exact fun e => hne d2 b2 h2 m2 e.symm
    · injection h2 with h2; subst h2
      exact hne d1 b1 h1 m1
    · exact h.dist d1 d2 b1 b2 hne' h1 h2 m1 m2
theorem Rel.newbox (h : Rel P n s a w) {d : Nat} (hd : d < n) {k : Nat} {cs : List Value} (e : Ext w w') (hk : w.heap.size ≤ k) (hblk : Blk w' k cs) : Rel P n (s.newbox d k cs) (a.put (some d) (.pointer (some ⟨k, 0, none⟩))) w' :=
  (h.ext e).newboxZ hd hblk (fun d b hb hm e => by have := blk_lt ((h.bx d b hb).1 hm); omega) (fun hr => by have := h.ro _ hr; omega)
end
end Go.Sh

/- The wide fence, in a round and out of it: what the walk says there. -/
namespace Go.Sh
open Go.RowKit

/-- Whatever function; in a round of l (some l), or in none. -/
def WF (r : Option Nat) : Fence := { Fence.wide with round := r }
theorem calls_wf {r : Option Nat} {n : Nat} {P : Program} {f : FuncId} {args : Array Value} {w : World} {R : Ending → World → Prop} (h : Calls P f args w R) : CallsIn (WF r) n P f args w R := callsIn_wide (n := n) |>.2 h
theorem round_wf {r : Option Nat} {n : Nat} {P : Program} {l : Nat} {f : FuncId} {tmps : Array Value} {x y : Code} {w : World} {R : Ending → World → Prop} (h : RoundIn Fence.wide n P l f tmps x y w R) : RoundIn (WF r) n P l f tmps x y w R := h
theorem rows_wf {r : Option Nat} {n : Nat} {P : Program} {row : String} {args : Array Value} {w : World} {R : Value → World → Prop} (h : Rows P row args w R) : RowsIn (WF r) n P row args w R :=
  fun c cs _ => let ⟨v, w', q, s⟩ := h c cs; ⟨v, w', q, (stepsIn_wide (P := P)).2 s⟩
theorem ne_depth {r : Option Nat} {n : Nat} : (WF r).depth.isSome = true → 1 ≤ n := fun h => by cases h

section
variable {P : Program} {r : Option Nat} {n : Nat} {ops : Array Oper} {Q Q0 : Exit → Act → World → Prop}

/-- An operation, brought into the fence. -/
theorem wp_in {o : Oper} (hd : ∀ c, o.op ≠ .defer c) {a : Act} {w : World} {K : Act → World → Prop} (hp : ∀ c a w, Q0 (.panic c) a w → Q (.panic c) a w) (hl : LetsOut Q0 → LetsOut Q) (h : o.wp P a w K Q0) : o.wpIn (WF r) n P a w K Q := by
  refine ⟨fun _ _ => trivial, ?_⟩
  show o.uponIn (WF r) n P a K Q ((o.semAt r a.eval).run P w)
  rw [Oper.semAt_eq r _ _ hd]
  unfold Oper.wp at h
  generalize (execOp a.eval o).run P w = q at *
  cases q with
  | ok x w' =>
    cases x <;> simp only [Oper.upon] at h <;> simp only [Oper.uponIn] <;> first
      | exact h
      | exact ⟨ne_depth, calls_wf (h.mono fun e w'' he => by
          cases e with
          | returned v => exact he
          | panicked c => exact hp _ _ _ he
          | outgrown => exact hl he)⟩
      | exact ⟨ne_depth, rows_wf h⟩
      | exact h.elim
  | halt x w' => cases x <;> simp only [Oper.upon] at h <;> simp only [Oper.uponIn] <;> first | exact hp _ _ _ h | exact h.elim

theorem noexit_lets : LetsOut NoExit → LetsOut Q := fun ⟨_, _, h⟩ => h.elim

/-- Regions that draw. -/
theorem wpAny_in (hd : ∀ (i : Nat) (o : Oper), ops[i]? = some o → ∀ c, o.op ≠ .defer c) (hp : ∀ c a w, Q0 (.panic c) a w → Q (.panic c) a w) (hl : ¬ LetsOut Q0) (hn : ∀ a w, Q0 .normal a w → Q .normal a w) :
    ∀ (fuel : Nat) (listed : Array Bool) (a : Act) (w : World), wpAny P .any ops Q0 fuel listed a w → wpAnyIn (WF r) n P .any ops Q fuel listed a w
  | 0, listed, a, w, h => ⟨h.1, hn _ _ h.2⟩
  | fuel + 1, listed, a, w, h => by
    refine ⟨fun h0 => hn _ _ (h.1 h0), fun i hi => ?_⟩
    have h2 := h.2 i hi
    unfold wpOp at h2
    unfold wpOpIn
    cases ho : ops[i]? with
    | none => rw [ho] at h2; exact wpAny_in hd hp hl hn fuel _ a w h2
    | some o =>
      rw [ho] at h2
      simp only at h2 ⊢
      split at h2
      · rename_i hw
        rw [if_pos hw]
        rcases h2 with h2 | ⟨_, h2⟩
        · exact Oper.wpIn_mono (fun a' w' h' => wpAny_in hd hp hl hn fuel _ a' w' h') (wp_in (hd i o ho) hp (fun h => absurd h hl) h2)
        · exact absurd h2 hl
      · rename_i hw
        rw [if_neg hw]
        exact ⟨fun _ _ => trivial, wpAny_in hd hp hl hn fuel _ _ w h2⟩

theorem wpIn_region_C {B : Nat → Prop} {id : Nat} {kd : Nat → Kd} {ord : List Nat} (hm : P.follows .mixedOrders = true) (hok : okB ops kd ord = true) (hlen : Nat.beq ord.length ops.size = true) {R : Act → World → Prop} (hR : ∀ a w, R a w → Q .normal a w) {a : Act} {w : World}
    (h : wpC B P ops (anc ops) kd R ord ⟨fun _ _ => True, fun _ => False⟩ a w) : (Code.region id ops true).wpIn (WF r) n P Q a w := by
  have hd : ∀ (i : Nat) (o : Oper), ops[i]? = some o → ∀ c, o.op ≠ .defer c := fun i o ho c hc => by
    simp only [okB, Bool.and_eq_true] at hok
    have := List.all_eq_true.1 hok.1.1.1.1 o (List.mem_of_getElem? (by rw [Array.getElem?_toList]; exact ho))
    rw [hc] at this
    cases this
  refine wpIn_region_any hm (wpAny_in (Q0 := fun e a w => match e with | .normal => R a w | _ => False) hd (fun _ _ _ h => h.elim) (fun ⟨_, _, h⟩ => h) hR ops.size _ a _ ?_)
  exact wpAny_C hok hlen (fun _ _ h => h) h

/-- A loop, by a number that goes down. -/
theorem wpIn_loop_ghost {a : Act} {w : World} {c : Code} (I : Nat → Act → World → Prop) (n₀ : Nat) (h₀ : I n₀ a w)
    (round : ∀ n' a w, I n' a w → c.wpIn (WF r) n P (Exit.then (fun a' w' => ∃ k, k < n' ∧ I k a' w') Q) a w) : (Code.loop c).wpIn (WF r) n P Q a w := by
  refine wpIn_loop (fun a w => ∃ n, I n a w) (fun a w => leastOf (fun n => I n a w)) ⟨n₀, h₀⟩ ?_
  intro a w hI
  refine wpIn_mono (round _ a w (leastOf_spec hI).1) ?_
  intro e a' w' hq
  cases e with
  | normal =>
    obtain ⟨n', hlt, hI'⟩ := hq
    exact show (∃ n, I n a' w') ∧ leastOf (fun n => I n a' w') < leastOf (fun n => I n a w) from ⟨⟨n', hI'⟩, Nat.lt_of_le_of_lt ((leastOf_spec ⟨n', hI'⟩).2 n' hI') hlt⟩
  | exit id => exact hq
  | goto l => exact hq
  | ret => exact hq
  | panic ch => exact hq
  | outgrown => exact hq

theorem wpIn_scope_top {c : Code} {a : Act} {w : World} (h : c.wpIn (WF none) n P (Exit.noGoto Q) a w) : (Code.scope c).wpIn (WF none) n P Q a w :=
  (wpIn_wide (n := n)).2 (wp_scope_straight ((wpIn_wide (n := n)).1 h))
end
end Go.Sh

/- 'den' is sound: steps, regions. -/
namespace Go.Sh
open Go.RowKit

/-- What is known of function values is so. -/
def CVOk (P : Program) (CV : CVT) : Prop :=
  ∀ v vs K w, CV v vs K w → ∃ g first cap, v = .func (.func g) first cap ∧ noBodyB P g = true ∧ Calls P g (first ++ vs.toArray ++ cap) w (Ans K)

structure CxOk (cx : Cx) : Prop where
  O : ∀ CV, CVOk cx.P CV → ∀ f xs K w, (∀ x ∈ xs, ArgOk cx.P x) → cx.O f CV xs K w → Calls cx.P f (xs.map cc).toArray w (Ans K)
  Q : ∀ CV, CVOk cx.P CV → ∀ f xs K w, (∀ x ∈ xs, ArgOk cx.P x) → cx.Q f CV xs w K → ∃ v, K v ∧ ∀ w', Ext w w' → Calls cx.P f (xs.map cc).toArray w' fun e w'' => e = .returned v ∧ Ext w' w''

theorem run_value {P : Program} {g : FuncId} {first cap : Array Value} (hb : noBodyB P g = true) (args : Array Value) (w : World) : (do let d ← Deferred.ofValue (.func (.func g) first cap) args; invoke d.target d.args : Sem Next).run P w = .ok (.enter g (first ++ args ++ cap)) w := by
  simp [Deferred.ofValue, invoke, noBody_ok hb]

section
variable {cx : Cx} {n : Nat} {s : S} {a : Act} {w : World} {o : Oper}

theorem locOk_of {x : X} (h : ArgOk cx.P x) (s : S) : LocOk cx.P s x := ⟨fun d off e => absurd e (h.1 d off), h.2⟩

theorem expose_ok {W : List Nat} {s0 : S} {a0 : Act} {w0 : World} : ∀ (l : List Operand) (s : S) (K : S → Prop), Rel cx.P n s a w → Fr W s0 a0 w0 s a w → expose s w l K → ∃ s', Rel cx.P n s' a w ∧ Fr W s0 a0 w0 s' a w ∧ (s'.sl = s.sl ∧ (∀ d b cs m, find s.bx d = some ⟨b, cs, m⟩ → ∃ m', find s'.bx d = some ⟨b, cs, m'⟩) ∧ s'.ro = s.ro ∧ s'.df = s.df ∧ ∀ d b', find s'.bx d = some b' → ∃ b, find s.bx d = some b ∧ b.b = b'.b ∧ (b'.m ≠ .out → b.m ≠ .out)) ∧ K s'
  | [], s, K, h, f, hk => ⟨s, h, f, ⟨rfl, fun _ _ _ m h => ⟨m, h⟩, rfl, rfl, fun _ b' h => ⟨b', h, rfl, id⟩⟩, hk⟩
  | o :: l, s, K, h, f, hk => by
    simp only [expose] at hk
    split at hk
    · rename_i d off he
      split at hk
      · rename_i b cs hb
        have hblk := (h.bx d _ hb).1 (by intro e; cases e)
        have h' : Rel cx.P n (s.setbox d ⟨b, cs, .out⟩) a w := h.setbox (w' := w) hb rfl (fun hm => absurd rfl hm) (fun hm => by cases hm) (fun hm => by cases hm) (fun hm => absurd rfl hm) (fun _ _ => rfl) (fun _ _ => rfl)
        obtain ⟨s', h1, h2, ⟨h3, h5, h6, h7, h8⟩, h4⟩ := expose_ok l _ K h' (f.setbox hb rfl (fun _ _ => rfl)) (hk hblk)
        refine ⟨s', h1, h2, ⟨h3, fun d2 b2 cs2 m2 hf => ?_, h6, h7, fun d2 b2 hf => ?_⟩, h4⟩
        · by_cases hd : d = d2
          · subst hd
            rw [hb] at hf; cases hf
            exact h5 d _ _ .out (by simp [S.setbox, find_cons])
          · exact h5 d2 _ _ m2 (by simp only [S.setbox, find_cons]; rw [if_neg hd]; exact hf)
        · obtain ⟨b3, g1, g2, g3⟩ := h8 d2 b2 hf
          simp only [S.setbox, find_cons] at g1
          by_cases hd : d = d2
          · subst hd
            rw [if_pos rfl] at g1
            have g1 := Option.some.inj g1
            subst g1
            exact ⟨_, hb, g2, fun hm => absurd rfl (g3 hm)⟩
          · rw [if_neg hd] at g1; exact ⟨b3, g1, g2, g3⟩
      · exact expose_ok l s K h f hk
    · exact expose_ok l s K h f hk

theorem guarded_ok {all : Array Oper} {W : List Nat} {s0 : S} {a0 : Act} {w0 : World} (h : Rel cx.P n s a w) (f : Fr W s0 a0 w0 s a w) {run skip : S → Prop} (hk : guarded all s o run skip) :
    (Region.wanted o (yielded all a.tmps) = true ∧ ∃ s', Rel cx.P n s' a w ∧ Fr W s0 a0 w0 s' a w ∧ (s'.bx = s.bx ∧ s'.ro = s.ro) ∧ run s') ∨ (Region.wanted o (yielded all a.tmps) = false ∧ ∃ s', Rel cx.P n s' a w ∧ Fr W s0 a0 w0 s' a w ∧ (s'.bx = s.bx ∧ s'.ro = s.ro) ∧ skip s') := by
  unfold guarded at hk
  unfold Region.wanted
  cases hg : o.guard with
  | none => rw [hg] at hk; exact .inl ⟨rfl, s, h, f, ⟨rfl, rfl⟩, hk⟩
  | some g =>
    obtain ⟨j, want⟩ := g
    rw [hg] at hk
    simp only at hk ⊢
    split at hk
    · rename_i t ht
      split at hk
      · rename_i b hb
        have hbt := (h.sl t _ hb (by intro e; cases e)).1
        have hy : yielded all a.tmps j = some b := by
          unfold yielded
          unfold gslot at ht
          split at ht
          · rename_i oj hoj
            rw [hoj]
            simp only [Option.bind_some, ht]
            rw [hbt]
            rfl
          · cases ht
        rw [hy]
        have h' := h.again hb
        have f' := f.again t (.v (.bool b))
        cases b <;> cases want <;> simp only [] at hk
        · exact .inl ⟨rfl, _, h', f', ⟨rfl, rfl⟩, hk⟩
        · exact .inr ⟨rfl, _, h', f', ⟨rfl, rfl⟩, hk⟩
        · exact .inr ⟨rfl, _, h', f', ⟨rfl, rfl⟩, hk⟩
        · exact .inl ⟨rfl, _, h', f', ⟨rfl, rfl⟩, hk⟩
      · rename_i hb
        have hbt := (h.sl t _ hb (by intro e; cases e)).1
        have hy : yielded all a.tmps j = none := by
          unfold yielded
          unfold gslot at ht
          split at ht
          · rename_i oj hoj
            rw [hoj]
            simp only [Option.bind_some, ht]
            rw [hbt]
            rfl
          · cases ht
        rw [hy]
        exact .inr ⟨by cases want <;> rfl, _, h.again hb, f.again t (.v undef), ⟨rfl, rfl⟩, hk⟩
      · exact hk.elim
    · exact hk.elim

theorem liveB_mem : ∀ (bx : List (Nat × Bx)) (seen : List Nat) (d : Nat) (b : Bx), find bx d = some b → b.m = .rw → d ∉ seen → b.b ∈ liveB seen bx
  | [], seen, d, b, h, _, _ => by cases h
  | (k, ⟨b0, cs, m⟩) :: l, seen, d, b, h, hm, hd => by
    rw [find_cons] at h
    simp only [liveB]
    by_cases hk : k = d
    · subst hk
      rw [if_pos rfl] at h
      have h := Option.some.inj h
      subst h
      have : seen.contains k = false := by simpa using hd
      simp only at hm
      subst hm
      rw [this]
      exact List.mem_cons_self
    · rw [if_neg hk] at h
      have ih := liveB_mem l (k :: seen) d b h hm (by simp [hd]; exact fun e => hk e.symm)
      split
      · exact List.mem_cons_of_mem _ ih
      · exact ih

theorem keepP_ok {w' : World} {K : Prop} (h : Rel cx.P n s a w) (hk : keepP s w w' K) : K ∧ Rel cx.P n s a w' ∧ (∀ b ∈ s.ro, w'.heap[b]? = w.heap[b]?) := by
  unfold keepP at hk
  have key : (∀ b ∈ liveB [] s.bx ++ s.ro, w'.heap[b]? = w.heap[b]?) → Rel cx.P n s a w' ∧ (∀ b ∈ s.ro, w'.heap[b]? = w.heap[b]?) := fun hall =>
    ⟨h.world (fun b hb => hall b (List.mem_append_right _ hb)) (fun d b hb hm => hall b.b (List.mem_append_left _ (liveB_mem _ _ d b hb hm (by simp)))), fun b hb => hall b (List.mem_append_right _ hb)⟩
  split at hk
  · rename_i he
    exact ⟨hk, key (fun b hb => by rw [he] at hb; cases hb)⟩
  · exact ⟨hk.2, key hk.1⟩

theorem Fr.kept {w' : World} {W : List Nat} {s0 : S} {a0 : Act} {w0 : World} (f : Fr W s0 a0 w0 s a w) (hr : ∀ b ∈ s.ro, w'.heap[b]? = w.heap[b]?) : Fr W s0 a0 w0 s a w' :=
  ⟨f.tm, f.ro, f.df, fun b hb => (hr b (f.ro b hb)).trans (f.hp b hb), f.bk⟩

/-- What a step leaves. -/
def Post (cx : Cx) (n : Nat) (W : List Nat) (s0 : S) (a0 : Act) (w0 : World) (K : S → World → Prop) (a' : Act) (w' : World) : Prop := ∃ s', Rel cx.P n s' a' w' ∧ Fr W s0 a0 w0 s' a' w' ∧ K s' w'

theorem lst_ok {d b : Nat} {cs cs' : List Value} {w2 : World} {W : List Nat} {s0 : S} {a0 : Act} {w0 : World} (h : Rel cx.P n s a w) (f : Fr W s0 a0 w0 s a w) (hb : find s.bx d = some ⟨b, cs, .rw⟩) (ho : Off b w w2) (hB : Blk w2 b cs') :
    Rel cx.P n (s.setbox d ⟨b, cs', .rw⟩) a w2 ∧ Fr W s0 a0 w0 (s.setbox d ⟨b, cs', .rw⟩) a w2 := by
  have hnr : b ∉ s.ro := (h.bx d _ hb).2.1 rfl
  have hro : ∀ k ∈ s.ro, w2.heap[k]? = w.heap[k]? := fun k hk => ho.block k (fun e => hnr (e ▸ hk))
  refine ⟨h.setbox hb rfl (fun _ => hB) (fun _ => hnr) (fun hm => by cases hm) (fun _ hm => by cases hm) (fun k hk => ?_) hro, f.setbox hb rfl hro⟩
  rcases hk with hk | hk | hk
  · exact ho.block k hk
  · cases hk
  · exact hk

theorem Fr.newbox {w' : World} {W : List Nat} {s0 : S} {a0 : Act} {w0 : World} (f : Fr W s0 a0 w0 s a w) (h : Rel cx.P n s a w) {d : Nat} (hd : d ∈ W) (k : Nat) (cs : List Value) (v : Value) (e : Ext w w') : Fr W s0 a0 w0 (s.newbox d k cs) (a.put (some d) v) w' := by
  refine ⟨fun t ht => ?_, f.ro, f.df, fun b hb => (e.blk (h.ro b (f.ro b hb))).trans (f.hp b hb), fun d1 hd1 b1 hb1 => ?_⟩
  · have : d ≠ t := fun e => ht (e ▸ hd)
    simp only [Act.put]
    rw [Array.getElem?_setIfInBounds_ne this]
    exact f.tm t ht
  · simp only [S.newbox, find_cons] at hb1
    split at hb1
    · rename_i e; exact absurd (e ▸ hd) hd1
    · exact f.bk d1 hd1 b1 hb1

theorem step1_ok (ok : CxOk cx) (cv : CVOk cx.P cx.CV) {r : Option Nat} {Q : Exit → Act → World → Prop} {W : List Nat} {s0 : S} {a0 : Act} {w0 : World} (h : Rel cx.P n s a w) (f : Fr W s0 a0 w0 s a w) (hd : dstOk n o.dst = true) (hW : ∀ t, o.dst = some t → t ∈ W) {K : S → World → Prop} (hk : step1 cx s o w K) :
    o.wpIn (WF r) 0 cx.P a w (Post cx n W s0 a0 w0 K) Q := by
  have hs := sem1_ok (o := o) h
  have hnd : ∀ c, o.op ≠ .defer c := fun c hc => by
    have : sem1 cx s o = .bad := by unfold sem1; rw [hc]
    unfold step1 at hk
    rw [this] at hk
    exact hk.elim
  have lift : o.wp cx.P a w (Post cx n W s0 a0 w0 K) NoExit → o.wpIn (WF r) 0 cx.P a w (Post cx n W s0 a0 w0 K) Q := wp_in hnd (fun _ _ _ h => h.elim) noexit_lets
  unfold step1 at hk
  have putv : ∀ (x : X) (w2 : World), ArgOk cx.P x → Rel cx.P n s a w2 → Fr W s0 a0 w0 s a w2 → K (s.putO o.dst x) w2 → Post cx n W s0 a0 w0 K (a.put o.dst (cc x)) w2 := fun x w2 hx h2 f2 hk => by
    have := h2.putO hd (locOk_of hx s)
    rw [conc_of hx.1] at this
    exact ⟨_, this, f2.putO hW x _, hk⟩
  cases hr : sem1 cx s o with
  | pure V =>
    rw [hr] at hk hs
    obtain ⟨x, h1, h2, h3⟩ := hs _ hk
    refine lift ?_
    unfold Oper.wp
    rw [h3 w]
    exact ⟨_, h.putO hd h2, f.putO hW x _, h1⟩
  | read R =>
    rw [hr] at hk hs
    obtain ⟨x, h1, h2, h3⟩ := hs _ hk
    refine lift ?_
    unfold Oper.wp
    rw [h3 w (Ext.refl w)]
    exact ⟨_, h.putO hd h2, f.putO hW x _, h1⟩
  | box cs =>
    rw [hr] at hk hs
    obtain ⟨T, hs⟩ := hs
    simp only at hk
    split at hk
    · rename_i d hod
      refine lift ?_
      unfold Oper.wp
      rw [hs w]
      show Post cx n W s0 a0 w0 K (a.put o.dst _) _
      rw [hod]
      have e : Ext w (w.alloc (.cells cs.toArray T)) := ⟨rfl, rfl, rfl, by simp, fun k hk => Below.heap_alloc _ _ _ hk⟩
      rw [hod] at hd
      refine ⟨_, h.newbox (by simpa [dstOk] using hd) e (Nat.le_refl _) ⟨T, ?_⟩, f.newbox h (hW d hod) _ _ _ e, hk _ _ e (Nat.le_refl _) (by simp)⟩
      show (w.heap.push _)[w.heap.size]? = _
      simp
    · exact hk.elim
  | boxV v =>
    rw [hr] at hk hs
    simp only at hk
    split at hk
    · rename_i d hod
      obtain ⟨hc, hk⟩ := hk.cells
      obtain ⟨T, hs⟩ := hs hc
      refine lift ?_
      unfold Oper.wp
      rw [hs w]
      show Post cx n W s0 a0 w0 K (a.put o.dst _) _
      rw [hod]
      have e : Ext w (w.alloc (.cells #[v] T)) := ⟨rfl, rfl, rfl, by simp, fun k hk => Below.heap_alloc _ _ _ hk⟩
      rw [hod] at hd
      refine ⟨_, h.newbox (by simpa [dstOk] using hd) e (Nat.le_refl _) ⟨T, ?_⟩, f.newbox h (hW d hod) _ _ _ e, hk _ _ e (Nat.le_refl _) (by simp)⟩
      show (w.heap.push _)[w.heap.size]? = _
      simp
    · exact hk.elim
  | new N =>
    rw [hr] at hk hs
    obtain ⟨x, w2, h1, h2, h3, h4⟩ := hs w _ hk
    refine lift ?_
    unfold Oper.wp
    rw [h1]
    exact putv x w2 h2 (h.ext h3) (f.ext h h3) h4
  | big B =>
    rw [hr] at hk hs
    obtain ⟨x, w2, h1, h2, _, h4⟩ := hs w _ hk
    obtain ⟨k1, k2, k3⟩ := keepP_ok h h4
    refine lift ?_
    unfold Oper.wp
    rcases h1 with h1 | ⟨h1, rfl⟩
    · rw [h1]; exact putv x w2 h2 k2 (f.kept k3) k1
    · rw [h1]; exact putv _ w2 h2 k2 (f.kept k3) k1
  | lst d b cs =>
    rw [hr] at hk hs
    obtain ⟨cs0, hb, hs⟩ := hs
    obtain ⟨w2, h1, h2, h3⟩ := hs w ((h.bx d _ hb).1 (by intro e; cases e))
    obtain ⟨g1, g2⟩ := lst_ok h f hb h2 h3
    refine lift ?_
    unfold Oper.wp
    rw [h1]
    exact ⟨_, g1.putO hd (locOk_v _), g2.putO hW _ _, hk w2 h2⟩
  | call g xs =>
    rw [hr] at hk hs
    obtain ⟨h1, h2⟩ := hs
    refine lift ?_
    unfold Oper.wp
    rw [h2 w]
    refine (ok.O _ cv g xs _ w h1 hk).mono ?_
    intro e w2 hkx
    cases e with
    | returned x =>
      obtain ⟨k1, k2, k3⟩ := keepP_ok h hkx
      exact putv (.v x) w2 (argOk_v x) k2 (f.kept k3) k1
    | _ => exact hkx.elim
  | callV v vs r' =>
    rw [hr] at hk hs
    obtain ⟨g, first, cap, rfl, hb, hcall⟩ := cv v vs _ w hk
    refine lift ?_
    unfold Oper.wp
    rw [hs w, run_value hb]
    refine hcall.mono ?_
    intro e w2 hkx
    cases e with
    | returned x =>
      obtain ⟨us, rfl, hk2⟩ := exVs_some (show exVs r' _ from hkx)
      obtain ⟨k1, k2, k3⟩ := keepP_ok h hk2
      exact putv (.v _) w2 (argOk_v _) k2 (f.kept k3) k1
    | _ => exact hkx.elim
  | yield E v vs =>
    rw [hr] at hk hs
    obtain ⟨⟨l, rfl, hE⟩, h2⟩ := hs
    obtain ⟨fn, tmps, x, y, g1, g2⟩ := hE vs _ w hk
    refine ⟨fun _ _ => trivial, ?_⟩
    show o.uponIn (WF r) 0 cx.P a _ Q ((o.semAt r a.eval).run cx.P w)
    rw [Oper.semAt_eq r _ _ hnd, h2 w]
    have hrun : (do let d ← Deferred.ofValue (.func (.yield l) #[] #[]) vs.toArray; invoke d.target d.args : Sem Next).run cx.P w = .ok (.round l fn tmps x y) w := by
      simp [Deferred.ofValue, invoke, g1]
    rw [hrun]
    refine ⟨ne_depth, (round_wf g2).mono fun e w2 hkx => ?_⟩
    cases e with
    | returned x =>
      obtain ⟨b, rfl, hk2⟩ := hkx
      obtain ⟨k1, k2, k3⟩ := keepP_ok h hk2
      exact putv (.v _) w2 (argOk_v _) k2 (f.kept k3) k1
    | _ => exact hkx.elim
  | bad => rw [hr] at hk; exact hk.elim

theorem denOps_ok (ok : CxOk cx) (cv : CVOk cx.P cx.CV) {r : Option Nat} {all : Array Oper} {W : List Nat} {s0 : S} {a0 : Act} {w0 : World} {Q : Exit → Act → World → Prop} {K : S → World → Prop} (hQ : ∀ a w, Post cx n W s0 a0 w0 K a w → Q .normal a w) :
    ∀ (l : List Oper) (s : S) (a : Act) (w : World), (∀ o ∈ l, ∀ t, o.dst = some t → t ∈ W) → Rel cx.P n s a w → Fr W s0 a0 w0 s a w → denOps cx n all l s w K → wpListIn (WF r) 0 cx.P all Q l a w
  | [], s, a, w, _, h, f, hk => hQ a w ⟨s, h, f, hk⟩
  | o :: l, s, a, w, hl, h, f, hk => by
    simp only [denOps] at hk
    have hW := hl o List.mem_cons_self
    have hl' : ∀ o ∈ l, ∀ t, o.dst = some t → t ∈ W := fun o' ho' => hl o' (List.mem_cons_of_mem _ ho')
    unfold wpListIn
    split at hk
    · rename_i hd
      rcases guarded_ok h f hk with ⟨hw, s1, h1, f1, _, hr⟩ | ⟨hw, s1, h1, f1, _, hr⟩
      · rw [if_pos hw]
        obtain ⟨s2, h2, f2, _, hr⟩ := expose_ok _ _ _ h1 f1 hr
        exact Oper.wpIn_mono (fun a' w' ⟨s3, h3, f3, hk3⟩ => denOps_ok ok cv hQ l s3 a' w' hl' h3 f3 hk3) (step1_ok ok cv h2 f2 hd hW hr)
      · rw [if_neg (by rw [hw]; exact Bool.false_ne_true)]
        exact ⟨fun _ _ => trivial, denOps_ok ok cv hQ l _ _ _ hl' (h1.putO hd (locOk_v _)) (f1.putO hW _ _) hr⟩
    · exact hk.elim
end
end Go.Sh
