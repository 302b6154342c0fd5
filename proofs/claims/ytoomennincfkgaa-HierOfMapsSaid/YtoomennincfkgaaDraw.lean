/- Regions that draw their order: one canonical order, walked in a class of worlds that grows, serves every order that the edges allow. -/
import Derived.Orders
import Derived.Deep.Quiet
import Derived.Below
import Derived.OwnWalk
import Derived.RangeFuncRecord
namespace Go.Sh
open Go.RowKit

/-- The world grew: what was there is as it was. -/
def Ext (w w' : World) : Prop := Below w.heap.size w w'
theorem Ext.refl (w : World) : Ext w w := Below.refl _ _
theorem Ext.trans {a b c : World} (h : Ext a b) (k : Ext b c) : Ext a c := Below.trans h (Below.mono k h.size)
theorem Ext.size {a b : World} (h : Ext a b) : a.heap.size ≤ b.heap.size := Below.size h
theorem Ext.blk {a b : World} (h : Ext a b) {k : Nat} (hk : k < a.heap.size) : b.heap[k]? = a.heap[k]? := Below.block h k hk

/-- How an operation stands to memory. -/
inductive Kd where
  | pure | quiet | new | big | loc | lst | rd | alc | bigz
  deriving DecidableEq

section
variable {P : Program} {ops : Array Oper} {Q : Exit → Act → World → Prop}

/-- Block b alone may have turned. -/
structure Off (b : Nat) (w w' : World) : Prop where
  os : w'.os = w.os
  tape : w'.tape = w.tape
  output : w'.output = w.output
  size : w'.heap.size = w.heap.size
  block : ∀ k, k ≠ b → w'.heap[k]? = w.heap[k]?

/-- Grown, and the blocks of B may have turned. -/
structure ExtB (B : Nat → Prop) (w w' : World) : Prop where
  size : w.heap.size ≤ w'.heap.size
  block : ∀ k, k < w.heap.size → ¬ B k → w'.heap[k]? = w.heap[k]?
theorem ExtB.of {B : Nat → Prop} {w w' : World} (h : Ext w w') : ExtB B w w' := ⟨h.size, fun _ hk _ => h.blk hk⟩
theorem ExtB.refl (B : Nat → Prop) (w : World) : ExtB B w w := ⟨Nat.le_refl _, fun _ _ _ => rfl⟩
theorem ExtB.trans {B : Nat → Prop} {a b c : World} (h : ExtB B a b) (k : ExtB B b c) : ExtB B a c :=
  ⟨Nat.le_trans h.size k.size, fun i hi hb => (k.block i (Nat.lt_of_lt_of_le hi h.size) hb).trans (h.block i hi hb)⟩
theorem ExtB.off {B : Nat → Prop} {w w' : World} {b : Nat} (h : Off b w w') (hb : B b) : ExtB B w w' :=
  ⟨Nat.le_of_eq h.size.symm, fun k _ hk => h.block k (fun e => hk (e ▸ hb))⟩

def NoExit : Exit → Act → World → Prop := fun _ _ _ => False

theorem wp_noexit {o : Oper} {a : Act} {w : World} {K K' : Act → World → Prop} (hk : ∀ a w, K a w → K' a w) (h : o.wp P a w K NoExit) : o.wp P a w K' Q := by
  unfold Oper.wp at *
  generalize (execOp a.eval o).run P w = r at *
  cases r with
  | ok n w' =>
    cases n <;> simp only [Oper.upon] at h ⊢ <;>
      first
        | exact hk _ _ h
        | exact Calls.mono h (fun e w'' he => by
            cases e with
            | returned v => exact hk _ _ he
            | panicked c => exact he.elim
            | outgrown => obtain ⟨_, _, hx⟩ := he; exact hx.elim)
        | exact Rows.mono h (fun _ _ he => hk _ _ he)
        | exact h.elim
  | halt x w' => cases x <;> simp only [Oper.upon] at h ⊢ <;> exact h.elim

theorem wp_exists {o : Oper} {a : Act} {w : World} {K : Act → World → Prop} (h : o.wp P a w K NoExit) : ∃ a' w', K a' w' := by
  unfold Oper.wp at h
  generalize (execOp a.eval o).run P w = r at *
  cases r with
  | ok n w' =>
    cases n <;> simp only [Oper.upon] at h
    case enter f args =>
      obtain ⟨e, w'', fr, hR, _⟩ := h []
      cases e with
      | returned v => exact ⟨_, _, hR⟩
      | panicked c => exact hR.elim
      | outgrown => obtain ⟨_, _, hx⟩ := hR; exact hx.elim
    case row row args =>
      obtain ⟨v, w'', hR, _⟩ := h default []
      exact ⟨_, _, hR⟩
    all_goals first | exact ⟨_, _, h⟩ | exact h.elim
  | halt x w' => cases x <;> simp only [Oper.upon] at h; exact h.elim

/-- An operation's work on the frame and a temporary that it does not look at. -/
theorem wp_put {o : Oper} (hs : ∀ cs b, o.op ≠ .select cs b) {a : Act} {w : World} {K : Act → World → Prop} {dst : Option Tmp} {v : Value}
    (h1 : ∀ d, dst = some d → d ∉ o.looksAt ops) (h2 : ∀ d, dst = some d → o.dst ≠ some d)
    (h : o.wp P (a.put dst v) w K NoExit) : o.wp P a w (fun a' w' => K (a'.put dst v) w') NoExit := by
  have hc : ∀ (x : Act) (u : Value), (x.put dst v).put o.dst u = (x.put o.dst u).put dst v := fun x u => Act.put_comm x v u h2
  unfold Oper.wp at *
  rw [execOp_put o hs a dst v h1] at h
  generalize (execOp a.eval o).run P w = r at *
  cases r with
  | ok n w' =>
    cases n <;> simp only [Oper.upon] at h ⊢
    case value u => rw [← hc]; exact h
    case skip => rw [← hc]; exact h
    case defer d =>
      have e : ({ a.put dst v with defers := d :: (a.put dst v).defers } : Act) = ({ a with defers := d :: a.defers } : Act).put dst v := by
        cases dst <;> rfl
      rw [e, hc] at h; exact h
    case enter f args =>
      refine Calls.mono h (fun e w'' he => ?_)
      cases e with
      | returned u => simp only [] at he ⊢; rw [← hc]; exact he
      | panicked c => exact he
      | outgrown => obtain ⟨_, _, hx⟩ := he; exact hx.elim
    case row row args => exact Rows.mono h (fun _ _ he => by rw [← hc]; exact he)
    all_goals exact h.elim
  | halt x w' => cases x <;> simp only [Oper.upon] at h ⊢ <;> exact h.elim

/-- .. and back. -/
theorem wp_push {o : Oper} (hs : ∀ cs b, o.op ≠ .select cs b) {a : Act} {w : World} {K : Act → World → Prop} {dst : Option Tmp} {v : Value}
    (h1 : ∀ d, dst = some d → d ∉ o.looksAt ops) (h2 : ∀ d, dst = some d → o.dst ≠ some d)
    (h : o.wp P a w (fun a' w' => K (a'.put dst v) w') NoExit) : o.wp P (a.put dst v) w K NoExit := by
  have hc : ∀ (x : Act) (u : Value), (x.put dst v).put o.dst u = (x.put o.dst u).put dst v := fun x u => Act.put_comm x v u h2
  unfold Oper.wp at *
  rw [execOp_put o hs a dst v h1]
  generalize (execOp a.eval o).run P w = r at *
  cases r with
  | ok n w' =>
    cases n <;> simp only [Oper.upon] at h ⊢
    case value u => rw [hc]; exact h
    case skip => rw [hc]; exact h
    case defer d =>
      have e : ({ a.put dst v with defers := d :: (a.put dst v).defers } : Act) = ({ a with defers := d :: a.defers } : Act).put dst v := by
        cases dst <;> rfl
      rw [e, hc]; exact h
    case enter f args =>
      refine Calls.mono h (fun e w'' he => ?_)
      cases e with
      | returned u => simp only [] at he ⊢; rw [hc]; exact he
      | panicked c => exact he
      | outgrown => obtain ⟨_, _, hx⟩ := he; exact hx.elim
    case row row args => exact Rows.mono h (fun _ _ he => by rw [hc]; exact he)
    all_goals exact h.elim
  | halt x w' => cases x <;> simp only [Oper.upon] at h ⊢ <;> exact h.elim

/-- What an operation that reads sees. -/
def Sees (P : Program) (m : Sem Next) (v : Value) (w : World) : Prop := ∀ w', Ext w w' → m.run P w' = .ok (.value v) w'

/-- What a call's end must grant; the blocks that may have been laid ahead of their turn. -/
structure GZ where
  g : Nat → World → Prop
  z : Nat → Prop
/-- .. of whoever does not lean upon j. -/
def GZ.and (G : GZ) (an : Nat → Nat → Bool) (j : Nat) (p : World → Prop) : GZ := ⟨fun i w => G.g i w ∧ (an i j = false → p w), G.z⟩
def GZ.to (G : GZ) (z : Nat → Prop) : GZ := ⟨G.g, z⟩
/-- .. the blocks between two worlds beside. -/
def zI (z : Nat → Prop) (w w' : World) : Nat → Prop := fun b => z b ∨ (w.heap.size ≤ b ∧ b < w'.heap.size)
def zX (z : Nat → Prop) (b : Nat) : Nat → Prop := fun c => z c ∧ c ≠ b
def KeepZ (z : Nat → Prop) (w w' : World) : Prop := w.heap.size ≤ w'.heap.size ∧ ∀ b, z b → w'.heap[b]? = w.heap[b]?

/-- THE CANONICAL ORDER, IN CLASSES OF WORLDS: 'w' is the world that is known; the true one is any that grew out of it. -/
def wpC (B : Nat → Prop) (P : Program) (ops : Array Oper) (an : Nat → Nat → Bool) (kd : Nat → Kd) (R : Act → World → Prop) : List Nat → GZ → Act → World → Prop
  | [], _, a, w => ∀ w', Ext w w' → R a w'
  | i :: l, G, a, w =>
    match ops[i]? with
    | none => False
    | some o =>
      if Region.wanted o (yielded ops a.tmps) then
        match kd i with
        | .pure => ∃ v, (∀ w', (execOp a.eval o).run P w' = .ok (.value v) w') ∧ wpC B P ops an kd R l G (a.put o.dst v) w
        | .quiet => ∃ v, (∀ w', Ext w w' → o.quietAt P a (Ext w') w' v) ∧ wpC B P ops an kd R l G (a.put o.dst v) w
        | .new => ∀ w', Ext w w' → ∃ v w'', (execOp a.eval o).run P w' = .ok (.value v) w'' ∧ Ext w' w'' ∧ wpC B P ops an kd R l (G.to (zI G.z w w')) (a.put o.dst v) w''
        | .big => ∀ w', Ext w w' → o.wp P a w' (fun a' w'' => G.g i w'' ∧ wpC B P ops an kd R l (G.to fun _ => False) a' w'') NoExit
        | .bigz => ∀ w', Ext w w' → o.wp P a w' (fun a' w'' => G.g i w'' ∧ KeepZ (zI G.z w w') w' w'' ∧ wpC B P ops an kd R l (G.to (zI G.z w w')) a' w'') NoExit
        | .alc => ∃ (fv : Nat → Value) (cs : Array Value) (T : TypeId), (∀ w', (execOp a.eval o).run P w' = .ok (.value (fv w'.heap.size)) (w'.alloc (.cells cs T))) ∧
            ∀ b w', Ext w w' → (G.z b ∨ w.heap.size ≤ b) → w'.heap[b]? = some (.cells cs T) → wpC B P ops an kd R l (G.to (zX (zI G.z w w') b)) (a.put o.dst (fv b)) w'
        | .rd => ∃ v, Sees P (execOp a.eval o) v w ∧ wpC B P ops an kd R l (G.and an i (Sees P (execOp a.eval o) v)) (a.put o.dst v) w
        | .loc => ∃ v, (∀ w', ExtB B w w' → (execOp a.eval o).run P w' = .ok (.value v) w') ∧ wpC B P ops an kd R l G (a.put o.dst v) w
        | .lst => ∀ w', Ext w w' → ∃ b w'', B b ∧ (execOp a.eval o).run P w' = .ok .skip w'' ∧ Off b w' w'' ∧ wpC B P ops an kd R l (G.to fun _ => False) (a.put o.dst undef) w''
      else wpC B P ops an kd R l G (a.put o.dst undef) w

variable {kd : Nat → Kd} {R : Act → World → Prop} {B : Nat → Prop} {an : Nat → Nat → Bool}

def kdB (a b : Kd) : Bool := match b, a with
  | .pure, _ => true
  | .quiet, .pure => true | .quiet, .quiet => true | .quiet, .loc => true
  | .loc, .pure => true | .loc, .quiet => true | .loc, .loc => true
  | .new, .pure => true | .new, .quiet => true | .new, .loc => true
  | .big, .pure => true | .big, .rd => true
  | .rd, .pure => true | .rd, .quiet => true | .rd, .loc => true | .rd, .rd => true
  | .quiet, .rd => true | .loc, .rd => true | .new, .rd => true
  | .lst, .pure => true | .lst, .loc => true
  | .bigz, .pure => true | .bigz, .rd => true
  | .alc, .pure => true | .alc, .quiet => true | .alc, .loc => true | .alc, .rd => true | .alc, .new => true | .alc, .alc => true | .alc, .bigz => true
  | _, _ => false
/-- What leaves memory as it was. -/
def mild : Kd → Bool | .big => false | .lst => false | .bigz => false | _ => true
/-- .. or may do what it likes. -/
def huge : Kd → Bool | .big => true | .bigz => true | _ => false

/-- May 'i' be taken ahead of 'j'? -/
structure Comm (ops : Array Oper) (an : Nat → Nat → Bool) (kd : Nat → Kd) (j i : Nat) : Prop where
  na : an i j = false
  apart : ∀ oj oi, ops[j]? = some oj → ops[i]? = some oi → oi.apart ops oj = true
  k : kdB (kd j) (kd i) = true

def NoSel (ops : Array Oper) : Prop := ∀ (j : Nat) (o : Oper) cs b, ops[j]? = some o → o.op ≠ .select cs b

/-- What a pure operation (or one that is passed over) yields. -/
def PureAt (P : Program) (ops : Array Oper) (o : Oper) (a : Act) (v : Value) : Prop :=
  (Region.wanted o (yielded ops a.tmps) = true ∧ ∀ w', (execOp a.eval o).run P w' = .ok (.value v) w') ∨ (Region.wanted o (yielded ops a.tmps) = false ∧ v = undef)

theorem PureAt.unique {o : Oper} {a : Act} {v u : Value} (w : World) (h : PureAt P ops o a v) (k : PureAt P ops o a u) : v = u := by
  rcases h with ⟨h1, h2⟩ | ⟨h1, h2⟩ <;> rcases k with ⟨k1, k2⟩ | ⟨k1, k2⟩
  · have := (h2 w).symm.trans (k2 w); injection this with e _; injection e
  · rw [h1] at k1; cases k1
  · rw [h1] at k1; cases k1
  · rw [h2, k2]

theorem PureAt.put {o : Oper} (hs : ∀ cs b, o.op ≠ .select cs b) {a : Act} {dst : Option Tmp} {u v : Value} (h1 : ∀ d, dst = some d → d ∉ o.looksAt ops) :
    PureAt P ops o (a.put dst u) v ↔ PureAt P ops o a v := by
  unfold PureAt
  rw [execOp_put o hs a dst u h1, wanted_put o a dst u h1]

/-- The frames that an operation may leave. -/
def Reach (o : Oper) (a a' : Act) : Prop := (∃ u, a' = a.put o.dst u) ∨ ∃ d, a' = ({ a with defers := d :: a.defers } : Act).put o.dst undef

theorem wp_reach {o : Oper} {a : Act} {w : World} {K : Act → World → Prop} (h : o.wp P a w K NoExit) : o.wp P a w (fun a' w' => Reach o a a' ∧ K a' w') NoExit := by
  unfold Oper.wp at *
  generalize (execOp a.eval o).run P w = r at *
  cases r with
  | ok n w' =>
    cases n <;> simp only [Oper.upon] at h ⊢
    case value u => exact ⟨.inl ⟨u, rfl⟩, h⟩
    case skip => exact ⟨.inl ⟨_, rfl⟩, h⟩
    case defer d => exact ⟨.inr ⟨d, rfl⟩, h⟩
    case enter f args =>
      refine Calls.mono h (fun e w'' he => ?_)
      cases e with
      | returned u => exact ⟨.inl ⟨u, rfl⟩, he⟩
      | panicked c => exact he
      | outgrown => obtain ⟨_, _, hx⟩ := he; exact hx.elim
    case row row args => exact Rows.mono h (fun v _ he => ⟨.inl ⟨v, rfl⟩, he⟩)
    all_goals exact h.elim
  | halt x w' => cases x <;> simp only [Oper.upon] at h ⊢ <;> exact h.elim

theorem PureAt.reach {o oj : Oper} (hs : ∀ cs b, o.op ≠ .select cs b) {a a' : Act} {v : Value} (h1 : ∀ d, oj.dst = some d → d ∉ o.looksAt ops) (hr : Reach oj a a') :
    PureAt P ops o a' v ↔ PureAt P ops o a v := by
  rcases hr with ⟨u, rfl⟩ | ⟨d, rfl⟩
  · exact PureAt.put hs h1
  · rw [PureAt.put hs h1]; rfl

theorem apart3 {x y : Oper} (h : x.apart ops y = true) : (∀ d, x.dst = some d → d ∉ y.looksAt ops) ∧ (∀ d, x.dst = some d → y.dst ≠ some d) ∧ (∀ d, y.dst = some d → d ∉ x.looksAt ops) := Oper.apart_spec h

structure GZ.Le (G' G : GZ) : Prop where
  g : ∀ i w, G'.g i w → G.g i w
  z : ∀ b, G.z b → G'.z b
theorem GZ.Le.to {G' G : GZ} (h : ∀ i w, G'.g i w → G.g i w) {z' z : Nat → Prop} (hz : ∀ b, z b → z' b) : GZ.Le (G'.to z') (G.to z) := ⟨h, hz⟩
theorem GZ.Le.and {G' G : GZ} (h : GZ.Le G' G) (an : Nat → Nat → Bool) (j : Nat) (p : World → Prop) : GZ.Le (G'.and an j p) (G.and an j p) := ⟨fun i w ⟨a, b⟩ => ⟨h.g i w a, b⟩, h.z⟩
theorem GZ.Le.rfl (G : GZ) : GZ.Le G G := ⟨fun _ _ h => h, fun _ h => h⟩
theorem zI_mono {z z' : Nat → Prop} {w w1 w' : World} (h : ∀ b, z b → z' b) (hw : w.heap.size ≤ w1.heap.size) : ∀ b, zI z w1 w' b → zI z' w w' b := fun b hb => hb.imp (h b) fun ⟨h1, h2⟩ => ⟨Nat.le_trans hw h1, h2⟩
theorem zX_mono {z z' : Nat → Prop} {c : Nat} (h : ∀ b, z b → z' b) : ∀ b, zX z c b → zX z' c b := fun b hb => ⟨h b hb.1, hb.2⟩
theorem KeepZ.mono {z z' : Nat → Prop} {w w' : World} (h : ∀ b, z b → z' b) (k : KeepZ z' w w') : KeepZ z w w' := ⟨k.1, fun b hb => k.2 b (h b hb)⟩

theorem wpC_mono {l : List Nat} : ∀ {G G' : GZ} {a : Act} {w : World}, GZ.Le G' G → wpC B P ops an kd R l G' a w → wpC B P ops an kd R l G a w := by
  induction l with
  | nil => intro G G' a w _ h; exact h
  | cons i l ih =>
    intro G G' a w hG h
    simp only [wpC] at h ⊢
    cases ho : ops[i]? with
    | none => rw [ho] at h; exact h.elim
    | some o =>
      rw [ho] at h
      simp only at h ⊢
      by_cases hw : Region.wanted o (yielded ops a.tmps) = true
      · rw [if_pos hw] at h ⊢
        cases hk : kd i <;> rw [hk] at h <;> simp only at h ⊢
        · obtain ⟨v, h1, h2⟩ := h; exact ⟨v, h1, ih hG h2⟩
        · obtain ⟨v, h1, h2⟩ := h; exact ⟨v, h1, ih hG h2⟩
        · exact fun w' e' => let ⟨v, w'', h1, h2, h3⟩ := h w' e'; ⟨v, w'', h1, h2, ih (.to hG.g (zI_mono hG.z (Nat.le_refl _))) h3⟩
        · exact fun w' e' => wp_noexit (fun a' w'' ⟨h1, h2⟩ => ⟨hG.g _ _ h1, ih (.to hG.g fun _ h => h) h2⟩) (h w' e')
        · obtain ⟨v, h1, h2⟩ := h; exact ⟨v, h1, ih hG h2⟩
        · exact fun w' e' => let ⟨b, w'', h1, h2, h3, h4⟩ := h w' e'; ⟨b, w'', h1, h2, h3, ih (.to hG.g fun _ h => h) h4⟩
        · obtain ⟨v, h1, h2⟩ := h; exact ⟨v, h1, ih (hG.and _ _ _) h2⟩
        · obtain ⟨fv, cs, T, h1, h2⟩ := h
          exact ⟨fv, cs, T, h1, fun b w' e' hb hc => ih (.to hG.g (zX_mono (zI_mono hG.z (Nat.le_refl _)))) (h2 b w' e' (hb.imp (hG.z b) id) hc)⟩
        · exact fun w' e' => wp_noexit (fun a' w'' ⟨h1, hz, h2⟩ => ⟨hG.g _ _ h1, hz.mono (zI_mono hG.z (Nat.le_refl _)), ih (.to hG.g (zI_mono hG.z (Nat.le_refl _))) h2⟩) (h w' e')
      · rw [if_neg hw] at h ⊢; exact ih hG h

theorem wpC_ext {l : List Nat} : ∀ {G : GZ} {a : Act} {w w1 : World}, wpC B P ops an kd R l G a w → Ext w w1 → wpC B P ops an kd R l G a w1 := by
  induction l with
  | nil => intro G a w w1 h e w' e'; exact h w' (e.trans e')
  | cons i l ih =>
    intro G a w w1 h e
    simp only [wpC] at h ⊢
    cases ho : ops[i]? with
    | none => rw [ho] at h; exact h.elim
    | some o =>
      rw [ho] at h
      simp only at h ⊢
      have hz := fun w' => zI_mono (z := G.z) (w' := w') (fun _ h => h) e.size
      by_cases hw : Region.wanted o (yielded ops a.tmps) = true
      · rw [if_pos hw] at h ⊢
        cases hk : kd i <;> rw [hk] at h <;> simp only at h ⊢
        · obtain ⟨v, h1, h2⟩ := h; exact ⟨v, h1, ih h2 e⟩
        · obtain ⟨v, h1, h2⟩ := h; exact ⟨v, fun w' e' => h1 w' (e.trans e'), ih h2 e⟩
        · exact fun w' e' => let ⟨v, w'', h1, h2, h3⟩ := h w' (e.trans e'); ⟨v, w'', h1, h2, wpC_mono (.to (fun _ _ h => h) (hz w')) h3⟩
        · exact fun w' e' => h w' (e.trans e')
        · obtain ⟨v, h1, h2⟩ := h; exact ⟨v, fun w' e' => h1 w' ((ExtB.of e).trans e'), ih h2 e⟩
        · exact fun w' e' => h w' (e.trans e')
        · obtain ⟨v, h1, h2⟩ := h; exact ⟨v, fun w' e' => h1 w' (e.trans e'), ih h2 e⟩
        · obtain ⟨fv, cs, T, h1, h2⟩ := h
          exact ⟨fv, cs, T, h1, fun b w' e' hb hc => wpC_mono (.to (fun _ _ h => h) (zX_mono (hz w'))) (h2 b w' (e.trans e') (hb.imp id (Nat.le_trans e.size)) hc)⟩
        · exact fun w' e' => wp_noexit (fun a' w'' ⟨h1, hk, h2⟩ => ⟨h1, hk.mono (hz w'), wpC_mono (.to (fun _ _ h => h) (hz w')) h2⟩) (h w' (e.trans e'))
      · rw [if_neg hw] at h ⊢; exact ih h e

theorem ext_alloc (w : World) (o : Obj) : Ext w (w.alloc o) := (Below.refl _ w).alloc (Nat.le_refl _) o

/-- A pure operation may be taken first. -/
theorem pullPure {i : Nat} {oi : Oper} {s : List Nat} (hi : ops[i]? = some oi) (hsel : NoSel ops) (hp : ∀ (G : GZ) (a : Act) (w : World), wpC B P ops an kd R (i :: s) G a w → ∃ v, PureAt P ops oi a v ∧ wpC B P ops an kd R s G (a.put oi.dst v) w) :
    ∀ (p : List Nat), (∀ j ∈ p, ∀ oj, ops[j]? = some oj → oi.apart ops oj = true) → ∀ (G : GZ) (a : Act) (w : World), wpC B P ops an kd R (p ++ i :: s) G a w →
      ∃ v, PureAt P ops oi a v ∧ wpC B P ops an kd R (p ++ s) G (a.put oi.dst v) w := by
  intro p
  induction p with
  | nil => intro _ G a w h; exact hp G a w h
  | cons j p ih =>
    intro hap G a w h
    have ih := ih (fun j' hj' => hap j' (List.mem_cons_of_mem _ hj'))
    simp only [List.cons_append, wpC] at h
    cases hj : ops[j]? with
    | none => rw [hj] at h; exact h.elim
    | some oj =>
      rw [hj] at h
      simp only at h
      obtain ⟨h1, h2, h3⟩ := apart3 (hap j List.mem_cons_self oj hj)
      have hsi := fun cs b => hsel i oi cs b hi
      have hsj := fun cs b => hsel j oj cs b hj
      have back : ∀ (G : GZ) (v u : Value), wpC B P ops an kd R (p ++ s) G ((a.put oj.dst u).put oi.dst v) = wpC B P ops an kd R (p ++ s) G ((a.put oi.dst v).put oj.dst u) := fun G v u => by
        rw [Act.put_comm a v u h2]
      by_cases hw : Region.wanted oj (yielded ops a.tmps) = true
      · rw [if_pos hw] at h
        have hw' : ∀ v, Region.wanted oj (yielded ops (a.put oi.dst v).tmps) = true := fun v => by rw [wanted_put oj a oi.dst v h1]; exact hw
        cases hk : kd j <;> rw [hk] at h <;> simp only at h
        · obtain ⟨u, hu, hr⟩ := h
          obtain ⟨v, hv, hr⟩ := ih _ _ _ hr
          refine ⟨v, (PureAt.put hsi h3).1 hv, ?_⟩
          simp only [List.cons_append, wpC, hj, hk]
          rw [if_pos (hw' v)]
          exact ⟨u, by rw [execOp_put oj hsj a oi.dst v h1]; exact hu, by rw [← back]; exact hr⟩
        · obtain ⟨u, hu, hr⟩ := h
          obtain ⟨v, hv, hr⟩ := ih _ _ _ hr
          refine ⟨v, (PureAt.put hsi h3).1 hv, ?_⟩
          simp only [List.cons_append, wpC, hj, hk]
          rw [if_pos (hw' v)]
          exact ⟨u, fun w' e => by
            have := hu w' e
            unfold Oper.quietAt at this ⊢
            rw [execOp_put oj hsj a oi.dst v h1]; exact this, by rw [← back]; exact hr⟩
        · obtain ⟨u, w'', hu, he, hr⟩ := h w (Ext.refl w)
          obtain ⟨v, hv, _⟩ := ih _ _ _ hr
          have hv0 := (PureAt.put hsi h3).1 hv
          refine ⟨v, hv0, ?_⟩
          simp only [List.cons_append, wpC, hj, hk]
          rw [if_pos (hw' v)]
          intro w' e
          obtain ⟨u, w'', hu, he, hr⟩ := h w' e
          obtain ⟨v', hv', hr⟩ := ih _ _ _ hr
          have := PureAt.unique w hv0 ((PureAt.put hsi h3).1 hv')
          subst this
          exact ⟨u, w'', by rw [execOp_put oj hsj a oi.dst v h1]; exact hu, he, by rw [← back]; exact hr⟩
        · obtain ⟨a', w', hra, _, hr⟩ := wp_exists (wp_reach (h w (Ext.refl w)))
          obtain ⟨v, hv, _⟩ := ih _ _ _ hr
          have hv0 := (PureAt.reach hsi h3 hra).1 hv
          refine ⟨v, hv0, ?_⟩
          simp only [List.cons_append, wpC, hj, hk]
          rw [if_pos (hw' v)]
          intro w' e
          refine wp_push hsj h1 h2 (wp_noexit (fun a' w'' ⟨hra, hg, hr⟩ => ?_) (wp_reach (h w' e)))
          obtain ⟨v', hv', hr⟩ := ih _ _ _ hr
          have := PureAt.unique w hv0 ((PureAt.reach hsi h3 hra).1 hv')
          subst this
          exact ⟨hg, hr⟩
        · obtain ⟨u, hu, hr⟩ := h
          obtain ⟨v, hv, hr⟩ := ih _ _ _ hr
          refine ⟨v, (PureAt.put hsi h3).1 hv, ?_⟩
          simp only [List.cons_append, wpC, hj, hk]
          rw [if_pos (hw' v)]
          exact ⟨u, by rw [execOp_put oj hsj a oi.dst v h1]; exact hu, by rw [← back]; exact hr⟩
        · obtain ⟨b, w'', hb, hu, he, hr⟩ := h w (Ext.refl w)
          obtain ⟨v, hv, _⟩ := ih _ _ _ hr
          have hv0 := (PureAt.put hsi h3).1 hv
          refine ⟨v, hv0, ?_⟩
          simp only [List.cons_append, wpC, hj, hk]
          rw [if_pos (hw' v)]
          intro w' e
          obtain ⟨b, w'', hb, hu, he, hr⟩ := h w' e
          obtain ⟨v', hv', hr⟩ := ih _ _ _ hr
          have := PureAt.unique w hv0 ((PureAt.put hsi h3).1 hv')
          subst this
          exact ⟨b, w'', hb, by rw [execOp_put oj hsj a oi.dst v h1]; exact hu, he, by rw [← back]; exact hr⟩
        · obtain ⟨u, hu, hr⟩ := h
          obtain ⟨v, hv, hr⟩ := ih _ _ _ hr
          refine ⟨v, (PureAt.put hsi h3).1 hv, ?_⟩
          simp only [List.cons_append, wpC, hj, hk]
          rw [if_pos (hw' v)]
          rw [execOp_put oj hsj a oi.dst v h1]
          exact ⟨u, hu, by rw [← back]; exact hr⟩
        · obtain ⟨fv, cs, T, hu, hr⟩ := h
          have hb0 : (w.alloc (.cells cs T)).heap[w.heap.size]? = some (.cells cs T) := World.alloc_heap_new w _
          obtain ⟨v, hv, _⟩ := ih _ _ _ (hr _ _ (ext_alloc w (.cells cs T)) (.inr (Nat.le_refl _)) hb0)
          have hv0 := (PureAt.put hsi h3).1 hv
          refine ⟨v, hv0, ?_⟩
          simp only [List.cons_append, wpC, hj, hk]
          rw [if_pos (hw' v), execOp_put oj hsj a oi.dst v h1]
          refine ⟨fv, cs, T, hu, fun b w' e hb hc => ?_⟩
          obtain ⟨v', hv', hr⟩ := ih _ _ _ (hr b w' e hb hc)
          have := PureAt.unique w hv0 ((PureAt.put hsi h3).1 hv')
          subst this
          rw [← back]; exact hr
        · obtain ⟨a', w', hra, _, _, hr⟩ := wp_exists (wp_reach (h w (Ext.refl w)))
          obtain ⟨v, hv, _⟩ := ih _ _ _ hr
          have hv0 := (PureAt.reach hsi h3 hra).1 hv
          refine ⟨v, hv0, ?_⟩
          simp only [List.cons_append, wpC, hj, hk]
          rw [if_pos (hw' v)]
          intro w' e
          refine wp_push hsj h1 h2 (wp_noexit (fun a' w'' ⟨hra, hg, hz, hr⟩ => ?_) (wp_reach (h w' e)))
          obtain ⟨v', hv', hr⟩ := ih _ _ _ hr
          have := PureAt.unique w hv0 ((PureAt.reach hsi h3 hra).1 hv')
          subst this
          exact ⟨hg, hz, hr⟩
      · rw [if_neg hw] at h
        obtain ⟨v, hv, hr⟩ := ih _ _ _ h
        refine ⟨v, (PureAt.put hsi h3).1 hv, ?_⟩
        have hw' : ¬ Region.wanted oj (yielded ops (a.put oi.dst v).tmps) = true := by rw [wanted_put oj a oi.dst v h1]; exact hw
        simp only [List.cons_append, wpC, hj]
        rw [if_neg hw', ← back]
        exact hr

/-- What a box that is laid ahead of its turn is. -/
theorem pullAlc {i : Nat} {oi : Oper} {s : List Nat} {fv : Nat → Value} {cs : Array Value} {T : TypeId} (hi : ops[i]? = some oi) (hsel : NoSel ops) (hki : kd i = .alc) :
    ∀ (p : List Nat), (∀ j ∈ p, (∀ oj, ops[j]? = some oj → oi.apart ops oj = true) ∧ kdB (kd j) .alc = true) → ∀ (G : GZ) (a : Act) (w w0 : World) (b : Nat), Region.wanted oi (yielded ops a.tmps) = true → (∀ w', (execOp a.eval oi).run P w' = .ok (.value (fv w'.heap.size)) (w'.alloc (.cells cs T))) →
      wpC B P ops an kd R (p ++ i :: s) G a w → Ext w w0 → (G.z b ∨ w.heap.size ≤ b) → w0.heap[b]? = some (.cells cs T) → wpC B P ops an kd R (p ++ s) (G.to (zX G.z b)) (a.put oi.dst (fv b)) w0 := by
  have hsi := fun cs b => hsel i oi cs b hi
  intro p
  induction p with
  | nil =>
    intro _ G a w w0 b hw hrun h e hb hc
    simp only [List.nil_append, wpC, hi] at h
    rw [if_pos hw, hki] at h
    obtain ⟨fv', cs', T', hrun', h⟩ := h
    have hfv : fv b = fv' b := by
      have := (hrun { w with heap := Array.replicate b (.cells #[] T) }).symm.trans (hrun' { w with heap := Array.replicate b (.cells #[] T) })
      injection this with this _
      injection this with this
      simpa using this
    have := (hrun w).symm.trans (hrun' w)
    injection this with _ this
    have hx : (w.alloc (.cells cs T)).heap[w.heap.size]? = (w.alloc (.cells cs' T')).heap[w.heap.size]? := by rw [this]
    rw [World.alloc_heap_new, World.alloc_heap_new] at hx
    injection hx with hx
    injection hx with hx1 hx2
    subst hx1 hx2
    rw [hfv]
    exact wpC_mono (.to (fun _ _ h => h) (zX_mono fun _ h => .inl h)) (h b w0 e hb hc)
  | cons j p ih =>
    intro hcm G a w w0 b hwi hrun h e hb hc
    have ih := ih (fun j' hj' => hcm j' (List.mem_cons_of_mem _ hj'))
    have hblt : b < w0.heap.size := (Array.getElem?_eq_some_iff.1 hc).1
    obtain ⟨hap, hkk⟩ := hcm j List.mem_cons_self
    simp only [List.cons_append, wpC] at h ⊢
    cases hj : ops[j]? with
    | none => rw [hj] at h; exact h.elim
    | some oj =>
      rw [hj] at h
      simp only at h ⊢
      obtain ⟨h1, h2, h3⟩ := apart3 (hap oj hj)
      have hsj := fun cs b => hsel j oj cs b hj
      have keepw : ∀ u, Region.wanted oi (yielded ops (a.put oj.dst u).tmps) = true := fun u => by rw [wanted_put oi a oj.dst u h3]; exact hwi
      have keepr : ∀ u w', (execOp (a.put oj.dst u).eval oi).run P w' = .ok (.value (fv w'.heap.size)) (w'.alloc (.cells cs T)) := fun u w' => by rw [execOp_put oi hsi a oj.dst u h3]; exact hrun w'
      have step : ∀ (G' : GZ) u w1 w2, wpC B P ops an kd R (p ++ i :: s) G' (a.put oj.dst u) w1 → Ext w1 w2 → (G'.z b ∨ w1.heap.size ≤ b) → w2.heap[b]? = some (.cells cs T) → wpC B P ops an kd R (p ++ s) (G'.to (zX G'.z b)) ((a.put oi.dst (fv b)).put oj.dst u) w2 := fun G' u w1 w2 hr e' hb' hc' => by
        rw [Act.put_comm a _ u h2]
        exact ih G' (a.put oj.dst u) w1 w2 b (keepw u) (keepr u) hr e' hb' hc'
      rw [wanted_put oj a oi.dst _ h1, execOp_put oj hsj a oi.dst _ h1]
      have inI : ∀ w' : World, Ext w0 w' → zI G.z w w' b := fun w' e' => hb.imp id fun h => ⟨h, Nat.lt_of_lt_of_le hblt e'.size⟩
      have at' : ∀ w' : World, Ext w0 w' → w'.heap[b]? = some (.cells cs T) := fun w' e' => by rw [e'.blk hblt]; exact hc
      have zle : ∀ (w' : World) c, zI (zX G.z b) w0 w' c → zX (zI G.z w w') b c := fun w' c hz => by
        rcases hz with ⟨hz, hne⟩ | ⟨hz1, hz2⟩
        · exact ⟨.inl hz, hne⟩
        · exact ⟨.inr ⟨Nat.le_trans e.size hz1, hz2⟩, by omega⟩
      by_cases hw : Region.wanted oj (yielded ops a.tmps) = true
      · rw [if_pos hw] at h ⊢
        cases hkj : kd j <;> rw [hkj] at h hkk <;> simp only at h ⊢
        · obtain ⟨u, hu, hr⟩ := h; exact ⟨u, hu, step _ u w w0 hr e hb hc⟩
        · obtain ⟨u, hu, hr⟩ := h
          exact ⟨u, fun w' e' => by
            have := hu w' (e.trans e')
            unfold Oper.quietAt at this ⊢
            rw [execOp_put oj hsj a oi.dst _ h1]; exact this, step _ u w w0 hr e hb hc⟩
        · intro w' e'
          obtain ⟨u, w'', hu, he, hr⟩ := h w' (e.trans e')
          exact ⟨u, w'', hu, he, wpC_mono (.to (fun _ _ h => h) (zle w')) (step _ u w'' w'' hr (Ext.refl _) (.inl (inI w' e')) (at' _ (e'.trans he)))⟩
        · cases hkk
        · obtain ⟨u, hu, hr⟩ := h; exact ⟨u, fun w' e' => hu w' ((ExtB.of e).trans e'), step _ u w w0 hr e hb hc⟩
        · cases hkk
        · obtain ⟨u, hu, hr⟩ := h; exact ⟨u, fun w' e' => hu w' (e.trans e'), step _ u w w0 hr e hb hc⟩
        · obtain ⟨fv', cs', T', hu, hr⟩ := h
          refine ⟨fv', cs', T', hu, fun b' w' e' hb' hc' => ?_⟩
          have hne : b ≠ b' := by
            rcases hb' with ⟨_, h⟩ | h
            · exact fun e => h e.symm
            · omega
          have := step _ _ w' w' (hr b' w' (e.trans e') (hb'.imp (fun h => h.1) (Nat.le_trans e.size)) hc') (Ext.refl _) (.inl ⟨inI w' e', hne⟩) (at' _ e')
          refine wpC_mono (.to (fun _ _ h => h) fun c hz => ?_) this
          obtain ⟨h4, h5⟩ := zle w' c hz.1
          exact ⟨⟨h4, hz.2⟩, h5⟩
        · intro w' e'
          refine wp_push hsj h1 h2 (wp_noexit (fun a' w'' ⟨hra, hg, hz, hr⟩ => ⟨hg, hz.mono fun c hz => (zle w' c hz).1, ?_⟩) (wp_reach (h w' (e.trans e'))))
          have hbz := inI w' e'
          refine wpC_mono (.to (fun _ _ h => h) (zle w')) (ih _ a' w'' w'' b ?_ ?_ hr (Ext.refl _) (.inl hbz) ((hz.2 b hbz).trans (at' _ e')))
          · rcases hra with ⟨u, rfl⟩ | ⟨d, rfl⟩
            · exact keepw u
            · rw [wanted_put oi _ oj.dst undef h3]; exact hwi
          · intro w3
            rcases hra with ⟨u, rfl⟩ | ⟨d, rfl⟩
            · exact keepr u w3
            · rw [execOp_put oi hsi _ oj.dst undef h3]
              exact hrun w3
      · rw [if_neg hw] at h ⊢
        exact step _ undef w w0 h e hb hc

/-- What becomes of the world that is known when 'i' is taken. -/
def Went (B : Nat → Prop) (P : Program) (ops : Array Oper) (an : Nat → Nat → Bool) (kd : Nat → Kd) (R : Act → World → Prop) (G : GZ) (i : Nat) (l : List Nat) (w : World) (a' : Act) (w' : World) : Prop :=
  ∃ w1 z, Ext w1 w' ∧ (mild (kd i) = true → Ext w w1) ∧ (kd i = .lst → ExtB B w w1) ∧ (huge (kd i) = true → G.g i w1) ∧ wpC B P ops an kd R l (G.to z) a' w1

def Went0 (B : Nat → Prop) (P : Program) (ops : Array Oper) (an : Nat → Nat → Bool) (kd : Nat → Kd) (R : Act → World → Prop) (G : GZ) (l : List Nat) (a' : Act) (w' : World) : Prop :=
  ∃ w1 z, Ext w1 w' ∧ wpC B P ops an kd R l (G.to z) a' w1

/-- A box is laid alike wherever it is laid. -/
theorem alcAt {i : Nat} {oi : Oper} {s : List Nat} (hi : ops[i]? = some oi) (hsel : NoSel ops) (hki : kd i = .alc) :
    ∀ (p : List Nat), (∀ j ∈ p, ∀ oj, ops[j]? = some oj → oi.apart ops oj = true) → ∀ (G : GZ) (a : Act) (w : World), Region.wanted oi (yielded ops a.tmps) = true → wpC B P ops an kd R (p ++ i :: s) G a w →
      ∃ (fv : Nat → Value) (cs : Array Value) (T : TypeId), ∀ w', (execOp a.eval oi).run P w' = .ok (.value (fv w'.heap.size)) (w'.alloc (.cells cs T)) := by
  have hsi := fun cs b => hsel i oi cs b hi
  intro p
  induction p with
  | nil =>
    intro _ G a w hw h
    simp only [List.nil_append, wpC, hi] at h
    rw [if_pos hw, hki] at h
    obtain ⟨fv, cs, T, h, _⟩ := h
    exact ⟨fv, cs, T, h⟩
  | cons j p ih =>
    intro hap G a w hwi h
    have ih := ih (fun j' hj' => hap j' (List.mem_cons_of_mem _ hj'))
    simp only [List.cons_append, wpC] at h
    cases hj : ops[j]? with
    | none => rw [hj] at h; exact h.elim
    | some oj =>
      rw [hj] at h
      simp only at h
      obtain ⟨h1, h2, h3⟩ := apart3 (hap j List.mem_cons_self oj hj)
      have go : ∀ (G : GZ) a' w1, Reach oj a a' → wpC B P ops an kd R (p ++ i :: s) G a' w1 → ∃ (fv : Nat → Value) (cs : Array Value) (T : TypeId), ∀ w', (execOp a.eval oi).run P w' = .ok (.value (fv w'.heap.size)) (w'.alloc (.cells cs T)) := fun G a' w1 hra hr => by
        rcases hra with ⟨u, rfl⟩ | ⟨d, rfl⟩
        · obtain ⟨fv, cs, T, h⟩ := ih G _ w1 (by rw [wanted_put oi a oj.dst u h3]; exact hwi) hr
          rw [execOp_put oi hsi a oj.dst u h3] at h
          exact ⟨fv, cs, T, h⟩
        · obtain ⟨fv, cs, T, h⟩ := ih G _ w1 (by rw [wanted_put oi _ oj.dst undef h3]; exact hwi) hr
          rw [execOp_put oi hsi _ oj.dst undef h3] at h
          exact ⟨fv, cs, T, h⟩
      by_cases hw : Region.wanted oj (yielded ops a.tmps) = true
      · rw [if_pos hw] at h
        cases hkj : kd j <;> rw [hkj] at h <;> simp only at h
        · obtain ⟨u, hu, hr⟩ := h; exact go _ _ _ (.inl ⟨u, rfl⟩) hr
        · obtain ⟨u, hu, hr⟩ := h; exact go _ _ _ (.inl ⟨u, rfl⟩) hr
        · obtain ⟨u, w'', hu, he, hr⟩ := h w (Ext.refl _); exact go _ _ _ (.inl ⟨u, rfl⟩) hr
        · obtain ⟨a', w', hra, _, hr⟩ := wp_exists (wp_reach (h w (Ext.refl w))); exact go _ _ _ hra hr
        · obtain ⟨u, hu, hr⟩ := h; exact go _ _ _ (.inl ⟨u, rfl⟩) hr
        · obtain ⟨b, w'', hb, hu, he, hr⟩ := h w (Ext.refl w); exact go _ _ _ (.inl ⟨_, rfl⟩) hr
        · obtain ⟨u, hu, hr⟩ := h; exact go _ _ _ (.inl ⟨u, rfl⟩) hr
        · obtain ⟨fv, cs, T, hu, hr⟩ := h
          exact go _ _ _ (.inl ⟨_, rfl⟩) (hr _ _ (ext_alloc w (.cells cs T)) (.inr (Nat.le_refl _)) (World.alloc_heap_new w _))
        · obtain ⟨a', w', hra, _, _, hr⟩ := wp_exists (wp_reach (h w (Ext.refl w))); exact go _ _ _ hra hr
      · rw [if_neg hw] at h
        exact go _ _ _ (.inl ⟨_, rfl⟩) h

/-- Any operation that may be taken first. -/
theorem pull {i : Nat} {oi : Oper} {s : List Nat} (hi : ops[i]? = some oi) (hsel : NoSel ops) :
    ∀ (p : List Nat), (∀ j ∈ p, Comm ops an kd j i) → ∀ (G : GZ) (a : Act) (w w0 : World), wpC B P ops an kd R (p ++ i :: s) G a w → Ext w w0 →
      if Region.wanted oi (yielded ops a.tmps) then oi.wp P a w0 (Went B P ops an kd R G i (p ++ s) w) NoExit else Went0 B P ops an kd R G (p ++ s) (a.put oi.dst undef) w0 := by
  have hsi := fun cs b => hsel i oi cs b hi
  have base : ∀ (G : GZ) (a : Act) (w w0 : World), wpC B P ops an kd R (i :: s) G a w → Ext w w0 →
      if Region.wanted oi (yielded ops a.tmps) then oi.wp P a w0 (Went B P ops an kd R G i s w) NoExit else Went0 B P ops an kd R G s (a.put oi.dst undef) w0 := by
    intro G a w w0 h e
    simp only [wpC, hi] at h
    by_cases hw : Region.wanted oi (yielded ops a.tmps) = true
    · rw [if_pos hw] at h ⊢
      cases hk : kd i <;> rw [hk] at h <;> simp only at h
      · obtain ⟨v, hv, hr⟩ := h
        unfold Oper.wp
        rw [hv w0]
        exact ⟨w, G.z, e, fun _ => Ext.refl w, fun _ => ExtB.refl B w, fun hb => by (rw [hk] at hb; cases hb), hr⟩
      · obtain ⟨v, hv, hr⟩ := h
        have h3 := hv w0 e
        unfold Oper.quietAt at h3
        unfold Oper.wp
        have hnb : huge (kd i) = true → G.g i w := fun hb => by rw [hk] at hb; cases hb
        generalize (execOp a.eval oi).run P w0 = r at *
        cases r with
        | ok n w' =>
          cases n <;> simp only [Oper.quietUpon] at h3 <;> simp only [Oper.upon]
          case value u => obtain ⟨rfl, rfl⟩ := h3; exact ⟨w, G.z, e, fun _ => Ext.refl w, fun _ => ExtB.refl B w, hnb, hr⟩
          case skip => obtain ⟨rfl, rfl⟩ := h3; exact ⟨w, G.z, e, fun _ => Ext.refl w, fun _ => ExtB.refl B w, hnb, hr⟩
          case enter f args =>
            obtain ⟨rfl, hc⟩ := h3
            exact hc.mono fun e' w'' ⟨he, hw''⟩ => by subst he; exact ⟨w, G.z, e.trans hw'', fun _ => Ext.refl w, fun _ => ExtB.refl B w, hnb, hr⟩
        | halt x w' => simp only [Oper.quietUpon] at h3
      · obtain ⟨v, w'', hv, he, hr⟩ := h w0 e
        unfold Oper.wp
        rw [hv]
        exact ⟨w'', _, Ext.refl _, fun _ => e.trans he, fun _ => .of (e.trans he), fun hb => by (rw [hk] at hb; cases hb), hr⟩
      · exact wp_noexit (fun a' w'' ⟨hg, hr⟩ => ⟨w'', _, Ext.refl _, fun hb => by (rw [hk] at hb; cases hb), fun hb => by (rw [hk] at hb; cases hb), fun _ => hg, hr⟩) (h w0 e)
      · obtain ⟨v, hv, hr⟩ := h
        unfold Oper.wp
        rw [hv w0 (.of e)]
        exact ⟨w, G.z, e, fun _ => Ext.refl w, fun _ => ExtB.refl B w, fun hb => by (rw [hk] at hb; cases hb), hr⟩
      · obtain ⟨b, w'', hb, hv, he, hr⟩ := h w0 e
        unfold Oper.wp
        rw [hv]
        exact ⟨w'', _, Ext.refl _, fun hb => by (rw [hk] at hb; cases hb), fun _ => (ExtB.of e).trans (.off he hb), fun hb => by (rw [hk] at hb; cases hb), hr⟩
      · obtain ⟨v, hv, hr⟩ := h
        unfold Oper.wp
        rw [hv w0 e]
        exact ⟨w, G.z, e, fun _ => Ext.refl w, fun _ => ExtB.refl B w, fun hb => by (rw [hk] at hb; cases hb), wpC_mono (G' := G.and _ _ _) ⟨fun _ _ h => And.left h, fun _ h => h⟩ hr⟩
      · obtain ⟨fv, cs, T, hrun, hr⟩ := h
        unfold Oper.wp
        rw [hrun]
        have ea := ext_alloc w0 (.cells cs T)
        exact ⟨_, _, Ext.refl _, fun _ => e.trans ea, fun _ => .of (e.trans ea), fun hb => by (rw [hk] at hb; cases hb), hr _ _ (e.trans ea) (.inr e.size) (World.alloc_heap_new w0 _)⟩
      · exact wp_noexit (fun a' w'' ⟨hg, _, hr⟩ => ⟨w'', _, Ext.refl _, fun hb => by (rw [hk] at hb; cases hb), fun hb => by (rw [hk] at hb; cases hb), fun _ => hg, hr⟩) (h w0 e)
    · rw [if_neg hw] at h ⊢
      exact ⟨w, G.z, e, h⟩
  intro p
  induction p with
  | nil => intro _ G a w w0 h e; exact base G a w w0 h e
  | cons j p ih =>
    intro hcm G a w w0 h e
    have ih := ih (fun j' hj' => hcm j' (List.mem_cons_of_mem _ hj'))
    have cm := hcm j List.mem_cons_self
    -- a pure one, or one that is passed over
    by_cases hpure : Region.wanted oi (yielded ops a.tmps) = false ∨ kd i = .pure
    · have hall : ∀ (G : GZ) (a : Act) (w : World), (Region.wanted oi (yielded ops a.tmps) = false ∨ kd i = .pure) → wpC B P ops an kd R (i :: s) G a w → ∃ v, PureAt P ops oi a v ∧ wpC B P ops an kd R s G (a.put oi.dst v) w := by
        intro G a w hq h
        simp only [wpC, hi] at h
        by_cases hw : Region.wanted oi (yielded ops a.tmps) = true
        · rw [if_pos hw] at h
          rcases hq with hq | hq
          · rw [hq] at hw; cases hw
          · rw [hq] at h; obtain ⟨v, h1, h2⟩ := h; exact ⟨v, .inl ⟨hw, h1⟩, h2⟩
        · rw [if_neg hw] at h; exact ⟨undef, .inr ⟨by simpa using hw, rfl⟩, h⟩
      -- pulled through, frame by frame
      have go : ∀ (p : List Nat), (∀ j ∈ p, ∀ oj, ops[j]? = some oj → oi.apart ops oj = true) → ∀ (G : GZ) (a : Act) (w : World), (Region.wanted oi (yielded ops a.tmps) = false ∨ kd i = .pure) → wpC B P ops an kd R (p ++ i :: s) G a w →
          ∃ v, PureAt P ops oi a v ∧ wpC B P ops an kd R (p ++ s) G (a.put oi.dst v) w := by
        rcases Classical.em (kd i = .pure) with hk | hk
        · intro p hap G a w _ h
          exact pullPure hi hsel (fun G a w h => hall G a w (.inr hk) h) p hap G a w h
        · -- passed over: as a pure one whose kind is 'pure': the kinds of others stay
          intro p hap G a w hq0 h0
          replace hq0 : Region.wanted oi (yielded ops a.tmps) = false := hq0.resolve_right hk
          clear e ih
          revert h0 hq0
          revert G a w
          induction p with
          | nil => intro G a w h hq; exact hall G a w (.inl hq) h
          | cons j p ihp =>
            intro G a w h hq
            have ihp := ihp (fun j' hj' => hap j' (List.mem_cons_of_mem _ hj'))
            refine ⟨undef, .inr ⟨hq, rfl⟩, ?_⟩
            simp only [List.cons_append, wpC] at h ⊢
            cases hj : ops[j]? with
            | none => rw [hj] at h; exact h.elim
            | some oj =>
              rw [hj] at h
              simp only at h ⊢
              obtain ⟨h1, h2, h3⟩ := apart3 (hap j List.mem_cons_self oj hj)
              have hsj := fun cs b => hsel j oj cs b hj
              have back : ∀ (G : GZ) (u : Value), wpC B P ops an kd R (p ++ s) G ((a.put oj.dst u).put oi.dst undef) = wpC B P ops an kd R (p ++ s) G ((a.put oi.dst undef).put oj.dst u) := fun G u => by
                rw [Act.put_comm a undef u h2]
              have keep : ∀ u, Region.wanted oi (yielded ops (a.put oj.dst u).tmps) = false := fun u => by rw [wanted_put oi a oj.dst u h3]; exact hq
              have step : ∀ G u w1, wpC B P ops an kd R (p ++ i :: s) G (a.put oj.dst u) w1 → wpC B P ops an kd R (p ++ s) G ((a.put oi.dst undef).put oj.dst u) w1 := fun G u w1 hr => by
                obtain ⟨v, hv, hr⟩ := ihp _ _ _ hr (keep u)
                rcases hv with ⟨hv, _⟩ | ⟨_, rfl⟩
                · rw [keep u] at hv; cases hv
                · rw [← back]; exact hr
              have stepr : ∀ a', Reach oj a a' → ∀ (G : GZ) w1, wpC B P ops an kd R (p ++ i :: s) G a' w1 → wpC B P ops an kd R (p ++ s) G (a'.put oi.dst undef) w1 := fun a' hra G w1 hr => by
                have hq' : Region.wanted oi (yielded ops a'.tmps) = false := by
                  rcases hra with ⟨u, rfl⟩ | ⟨d, rfl⟩
                  · exact keep u
                  · rw [wanted_put oi _ oj.dst undef h3]; exact hq
                obtain ⟨v, hv, hr⟩ := ihp _ _ _ hr hq'
                rcases hv with ⟨hv, _⟩ | ⟨_, rfl⟩
                · rw [hq'] at hv; cases hv
                · exact hr
              rw [wanted_put oj a oi.dst undef h1, execOp_put oj hsj a oi.dst undef h1]
              by_cases hw : Region.wanted oj (yielded ops a.tmps) = true
              · rw [if_pos hw] at h ⊢
                cases hkj : kd j <;> rw [hkj] at h <;> simp only at h ⊢
                · obtain ⟨u, hu, hr⟩ := h; exact ⟨u, hu, step _ u w hr⟩
                · obtain ⟨u, hu, hr⟩ := h
                  exact ⟨u, fun w' e => by
                    have := hu w' e
                    unfold Oper.quietAt at this ⊢
                    rw [execOp_put oj hsj a oi.dst undef h1]; exact this, step _ u w hr⟩
                · intro w' e
                  obtain ⟨u, w'', hu, he, hr⟩ := h w' e
                  exact ⟨u, w'', hu, he, step _ u w'' hr⟩
                · intro w' e
                  refine wp_push hsj h1 h2 (wp_noexit (fun a' w'' ⟨hra, hg, hr⟩ => ⟨hg, stepr a' hra _ _ hr⟩) (wp_reach (h w' e)))
                · obtain ⟨u, hu, hr⟩ := h; exact ⟨u, hu, step _ u w hr⟩
                · intro w' e
                  obtain ⟨b, w'', hb, hu, he, hr⟩ := h w' e
                  exact ⟨b, w'', hb, hu, he, step _ undef w'' hr⟩
                · obtain ⟨u, hu, hr⟩ := h; exact ⟨u, hu, step _ u w hr⟩
                · obtain ⟨fv, cs, T, hu, hr⟩ := h
                  exact ⟨fv, cs, T, hu, fun b w' e hb hc => step _ _ w' (hr b w' e hb hc)⟩
                · intro w' e
                  refine wp_push hsj h1 h2 (wp_noexit (fun a' w'' ⟨hra, hg, hz, hr⟩ => ⟨hg, hz, stepr a' hra _ _ hr⟩) (wp_reach (h w' e)))
              · rw [if_neg hw] at h ⊢
                exact step _ undef w h
      obtain ⟨v, hv, hr⟩ := go (j :: p) (fun j' hj' oj hoj => (hcm j' hj').apart oj oi hoj hi) G a w hpure h
      rcases hv with ⟨hw, hv⟩ | ⟨hw, rfl⟩
      · rw [if_pos hw]
        have hkp : kd i = .pure := by
          rcases hpure with hq | hq
          · rw [hq] at hw; cases hw
          · exact hq
        unfold Oper.wp
        rw [hv w0]
        exact ⟨w, G.z, e, fun _ => Ext.refl w, fun _ => ExtB.refl B w, fun hb => by (rw [hkp] at hb; cases hb), hr⟩
      · rw [if_neg (by rw [hw]; exact Bool.false_ne_true)]
        exact ⟨w, G.z, e, hr⟩
    · -- it looks at memory, or makes, or writes some
      have hwi : Region.wanted oi (yielded ops a.tmps) = true := by
        cases hb : Region.wanted oi (yielded ops a.tmps) with
        | true => rfl
        | false => exact absurd (.inl hb) hpure
      have hki : kd i ≠ .pure := fun hk => hpure (.inr hk)
      rw [if_pos hwi]
      by_cases hal : kd i = .alc
      · -- a box
        have hrun : ∃ (fv : Nat → Value) (cs : Array Value) (T : TypeId), ∀ w', (execOp a.eval oi).run P w' = .ok (.value (fv w'.heap.size)) (w'.alloc (.cells cs T)) :=
          alcAt hi hsel hal (j :: p) (fun j' hj' oj hoj => (hcm j' hj').apart oj oi hoj hi) G a w hwi h
        obtain ⟨fv, cs, T, hrun⟩ := hrun
        have ea := ext_alloc w0 (.cells cs T)
        unfold Oper.wp
        rw [hrun]
        exact ⟨_, zX G.z w0.heap.size, Ext.refl _, fun _ => e.trans ea, fun _ => .of (e.trans ea), fun hb => by (rw [hal] at hb; cases hb),
          pullAlc hi hsel hal (j :: p) (fun j' hj' => ⟨fun oj hoj => (hcm j' hj').apart oj oi hoj hi, hal ▸ (hcm j' hj').k⟩) G a w _ _ hwi hrun h (e.trans ea) (.inr e.size) (World.alloc_heap_new w0 _)⟩
      simp only [List.cons_append, wpC] at h
      cases hj : ops[j]? with
      | none => rw [hj] at h; exact h.elim
      | some oj =>
        rw [hj] at h
        simp only at h
        obtain ⟨h1, h2, h3⟩ := apart3 (cm.apart oj oi hj hi)
        have hsj := fun cs b => hsel j oj cs b hj
        have hwi' : ∀ u, Region.wanted oi (yielded ops (a.put oj.dst u).tmps) = true := fun u => by rw [wanted_put oi a oj.dst u h3]; exact hwi
        -- the step with the rest of the walk given
        have fin : ∀ (G' : GZ) u, (∀ w, G'.g i w → G.g i w) → wpC B P ops an kd R (p ++ i :: s) G' (a.put oj.dst u) w →
            (∀ a' w1 z, Reach oi a a' → (mild (kd i) = true → Ext w w1) → (kd i = .lst → ExtB B w w1) → (huge (kd i) = true → G'.g i w1) → wpC B P ops an kd R (p ++ s) (G'.to z) (a'.put oj.dst u) w1 → wpC B P ops an kd R (j :: (p ++ s)) (G.to z) a' w1) →
            oi.wp P a w0 (Went B P ops an kd R G i (j :: (p ++ s)) w) NoExit := fun G' u hG hr hb => by
          have h4 := ih _ _ _ w0 hr e
          rw [if_pos (hwi' u)] at h4
          have h5 := wp_reach (wp_put hsi h3 (fun d hd hod => h2 d hod hd) h4)
          refine wp_noexit (fun a' w' ⟨hra, w1, z, e1, e2, e3, e4, hr⟩ => ⟨w1, z, e1, e2, e3, fun k => hG _ (e4 k), hb a' w1 z hra e2 e3 e4 hr⟩) h5
        have wantr : ∀ a', Reach oi a a' → Region.wanted oj (yielded ops a'.tmps) = Region.wanted oj (yielded ops a.tmps) := fun a' hr => by
          rcases hr with ⟨u, rfl⟩ | ⟨d, rfl⟩
          · exact wanted_put oj a oi.dst u h1
          · rw [wanted_put oj _ oi.dst undef h1]
        have execr : ∀ a', Reach oi a a' → execOp a'.eval oj = execOp a.eval oj := fun a' hr => by
          rcases hr with ⟨u, rfl⟩ | ⟨d, rfl⟩
          · exact execOp_put oj hsj a oi.dst u h1
          · rw [execOp_put oj hsj _ oi.dst undef h1]
            refine execOp_congr oj hsj fun x _ => ?_
            cases x <;> rfl
        by_cases hw : Region.wanted oj (yielded ops a.tmps) = true
        · rw [if_pos hw] at h
          have hkk := cm.k
          cases hkj : kd j <;> rw [hkj] at h hkk <;> simp only at h
          · obtain ⟨u, hu, hr⟩ := h
            refine fin G u (fun _ h => h) hr fun a' w1 z hra he _ _ hr => ?_
            simp only [wpC, hj, hkj]
            rw [if_pos ((wantr a' hra).trans hw)]
            exact ⟨u, by rw [execr a' hra]; exact hu, hr⟩
          · obtain ⟨u, hu, hr⟩ := h
            have hnb : mild (kd i) = true := by cases hk : kd i <;> rw [hk] at hkk <;> first | rfl | cases hkk
            refine fin G u (fun _ h => h) hr fun a' w1 z hra he _ _ hr => ?_
            simp only [wpC, hj, hkj]
            rw [if_pos ((wantr a' hra).trans hw)]
            exact ⟨u, fun w' e' => by
              have := hu w' ((he hnb).trans e')
              unfold Oper.quietAt at this ⊢
              rw [execr a' hra]; exact this, hr⟩
          · exfalso
            cases hk : kd i <;> rw [hk] at hkk <;> first | exact hki hk | exact hal hk | cases hkk
          · exfalso
            cases hk : kd i <;> rw [hk] at hkk <;> first | exact hki hk | exact hal hk | cases hkk
          · obtain ⟨u, hu, hr⟩ := h
            refine fin G u (fun _ h => h) hr fun a' w1 z hra he hl _ hr => ?_
            have hE : ExtB B w w1 := by
              cases hk : kd i with
              | lst => exact hl hk
              | big => rw [hk] at hkk; cases hkk
              | bigz => rw [hk] at hkk; cases hkk
              | alc => exact absurd hk hal
              | _ => exact .of (he (by rw [hk]; rfl))
            simp only [wpC, hj, hkj]
            rw [if_pos ((wantr a' hra).trans hw)]
            exact ⟨u, fun w' e' => by
              rw [execr a' hra]; exact hu w' (hE.trans e'), hr⟩
          · exfalso
            cases hk : kd i <;> rw [hk] at hkk <;> first | exact hki hk | exact hal hk | cases hkk
          · obtain ⟨u, hu, hr⟩ := h
            refine fin (G.and _ _ _) u (fun _ h => And.left h) hr fun a' w1 z hra he hl hg hr => ?_
            have hS : Sees P (execOp a.eval oj) u w1 := by
              cases hk : kd i with
              | big => exact (hg (by rw [hk]; rfl)).2 cm.na
              | bigz => exact (hg (by rw [hk]; rfl)).2 cm.na
              | alc => exact absurd hk hal
              | lst => rw [hk] at hkk; cases hkk
              | _ => exact fun w' e' => hu w' ((he (by rw [hk]; rfl)).trans e')
            simp only [wpC, hj, hkj]
            rw [if_pos ((wantr a' hra).trans hw), execr a' hra]
            exact ⟨u, hS, hr⟩
          · exfalso
            cases hk : kd i <;> rw [hk] at hkk <;> first | exact hki hk | exact hal hk | cases hkk
          · exfalso
            cases hk : kd i <;> rw [hk] at hkk <;> first | exact hki hk | exact hal hk | cases hkk
        · rw [if_neg hw] at h
          refine fin G undef (fun _ h => h) h fun a' w1 z hra he _ _ hr => ?_
          simp only [wpC, hj]
          rw [if_neg (by rw [wantr a' hra]; exact hw)]
          exact hr

/-! ### The check of a region's edges -/
inductive Anc (ops : Array Oper) : Nat → Nat → Prop
  | direct {i : Nat} {o : Oper} {e : Edge} (hi : ops[i]? = some o) (he : e ∈ o.after) (hb : Region.binds .any e = true) : Anc ops i e.on
  | far {i j k : Nat} (h : Anc ops i j) (h' : Anc ops j k) : Anc ops i k

def edgeMask (acc : List Nat) : List Edge → Nat
  | [] => 0
  | e :: es => bif Region.binds .any e then (2 ^ e.on) ||| acc.getD e.on 0 ||| edgeMask acc es else edgeMask acc es
def masksFrom : List Oper → List Nat → List Nat
  | [], acc => acc
  | o :: os, acc => masksFrom os (acc ++ [edgeMask acc o.after.toList])

theorem edgeMask_spec {i : Nat} {o : Oper} (hi : ops[i]? = some o) {acc : List Nat} (hacc : ∀ k m, acc[k]? = some m → ∀ j, m.testBit j = true → Anc ops k j) :
    ∀ es : List Edge, (∀ e ∈ es, e ∈ o.after) → ∀ j, (edgeMask acc es).testBit j = true → Anc ops i j := by
  intro es
  induction es with
  | nil => intro _ j h; simp [edgeMask] at h
  | cons e es ih =>
    intro hes j h
    have ih := ih (fun e he => hes e (List.mem_cons_of_mem _ he)) j
    unfold edgeMask at h
    cases hb : Region.binds .any e with
    | false => rw [hb] at h; exact ih h
    | true =>
      rw [hb] at h
      simp only [cond_true, Nat.testBit_or, Bool.or_eq_true] at h
      rcases h with (h | h) | h
      · rw [Nat.testBit_two_pow] at h
        have : e.on = j := by simpa using h
        subst this
        exact .direct hi (hes e List.mem_cons_self) hb
      · cases hm : acc[e.on]? with
        | none => simp [List.getD, hm] at h
        | some m =>
          simp only [List.getD, hm, Option.getD_some] at h
          exact .far (.direct hi (hes e List.mem_cons_self) hb) (hacc _ _ hm _ h)
      · exact ih h

theorem masksFrom_spec : ∀ (os : List Oper) (acc : List Nat), (∀ k o, os[k]? = some o → ops[acc.length + k]? = some o) →
    (∀ k m, acc[k]? = some m → ∀ j, m.testBit j = true → Anc ops k j) → ∀ k m, (masksFrom os acc)[k]? = some m → ∀ j, m.testBit j = true → Anc ops k j := by
  intro os
  induction os with
  | nil => intro acc _ hacc; exact hacc
  | cons o os ih =>
    intro acc hos hacc
    refine ih _ (fun k o' hk => ?_) (fun k m hk j hj => ?_)
    · rw [List.length_append, List.length_singleton, Nat.add_assoc, Nat.add_comm 1 k]
      exact hos (k + 1) o' (by simpa using hk)
    · rcases Nat.lt_or_ge k acc.length with h | h
      · rw [List.getElem?_append_left h] at hk; exact hacc k m hk j hj
      · rw [List.getElem?_append_right h] at hk
        have hk0 : k - acc.length = 0 := by
          rcases Nat.eq_zero_or_pos (k - acc.length) with h0 | h0
          · exact h0
          · rw [List.getElem?_eq_none (by simp only [List.length_singleton]; omega)] at hk; cases hk
        rw [hk0] at hk
        have hm : edgeMask acc o.after.toList = m := by simpa using hk
        subst hm
        have hke : k = acc.length := by omega
        subst hke
        exact edgeMask_spec (by have := hos 0 o rfl; simpa using this) hacc _ (fun e he => by simpa using he) j hj

/-- j stands ahead of i in the canonical order. -/
def pairB (ops : Array Oper) (kd : Nat → Kd) (ms : List Nat) (j i : Nat) : Bool :=
  match ops[j]?, ops[i]? with
  | some oj, some oi =>
    (oj.after.all fun e => !(Region.binds .any e) || !(Nat.beq e.on i)) && !(Nat.beq j i) && ((ms.getD i 0).testBit j || (kdB (kd j) (kd i) && oi.apart ops oj))
  | _, _ => false
def pairsB (f : Nat → Nat → Bool) : List Nat → Bool
  | [] => true
  | j :: l => l.all (f j) && pairsB f l
def noSelB (ops : List Oper) : Bool := ops.all fun o => match o.op with | .select .. => false | .defer _ => false | _ => true
def selfB : List Oper → Nat → Nat → Bool
  | [], _, _ => true
  | o :: os, i, n => (o.after.all fun e => !(Region.binds .any e) || (!(Nat.beq e.on i) && Nat.blt e.on n)) && selfB os (i + 1) n
def okB (ops : Array Oper) (kd : Nat → Kd) (ord : List Nat) : Bool :=
  noSelB ops.toList && selfB ops.toList 0 ops.size && ((List.range ops.size).all fun i => ord.contains i) && (ord.all fun i => Nat.blt i ops.size) &&
    pairsB (pairB ops kd (masksFrom ops.toList [])) ord

theorem pairsB_spec {f : Nat → Nat → Bool} : ∀ {l : List Nat}, pairsB f l = true → l.Pairwise (fun j i => f j i = true)
  | [], _ => .nil
  | j :: l, h => by
    simp only [pairsB, Bool.and_eq_true, List.all_eq_true] at h
    exact .cons h.1 (pairsB_spec h.2)
theorem selfB_spec : ∀ {os : List Oper} {i n : Nat}, selfB os i n = true → ∀ k o, os[k]? = some o → ∀ e ∈ o.after, Region.binds .any e = true → e.on ≠ i + k ∧ e.on < n
  | [], _, _, _, k, o, hk => by simp at hk
  | o :: os, i, n, h, k, o', hk => by
    simp only [selfB, Bool.and_eq_true] at h
    cases k with
    | zero =>
      have : o = o' := by simpa using hk
      subst this
      intro e he hb
      have := Array.all_eq_true'.1 h.1 e he
      simp only [hb, Bool.not_true, Bool.false_or, Bool.and_eq_true, Bool.not_eq_true', Nat.blt_eq] at this
      exact ⟨Nat.ne_of_beq_eq_false this.1, this.2⟩
    | succ k =>
      intro e he hb
      have := selfB_spec h.2 k o' (by simpa using hk) e he hb
      exact ⟨by omega, this.2⟩

structure Inv (ops : Array Oper) (f : Nat → Nat → Bool) (listed : Array Bool) (l : List Nat) : Prop where
  size : listed.size = ops.size
  pw : l.Pairwise (fun j i => f j i = true)
  mem : ∀ i, i ∈ l ↔ listed.getD i true = false
  closed : ∀ i o, ops[i]? = some o → listed.getD i false = true → ∀ e ∈ o.after, Region.binds .any e = true → listed.getD e.on false = true

theorem Inv.anc {f : Nat → Nat → Bool} {listed : Array Bool} {l : List Nat} (inv : Inv ops f listed l) {i j : Nat} (h : Anc ops i j) : listed.getD i false = true → listed.getD j false = true := by
  induction h with
  | direct hi he hb => exact fun hl => inv.closed _ _ hi hl _ he hb
  | far _ _ ih1 ih2 => exact fun hl => ih2 (ih1 hl)
theorem Inv.ready {f : Nat → Nat → Bool} {listed : Array Bool} {l : List Nat} (inv : Inv ops f listed l) {i j : Nat} (h : Anc ops i j) : i ∈ Region.ready .any ops listed → listed.getD j false = true := by
  induction h with
  | direct hi he hb =>
    intro hr
    obtain ⟨_, o, ho, hall⟩ := mem_ready.1 hr
    rw [hi] at ho
    injection ho with ho
    subst ho
    exact hall _ he hb
  | far _ h2 ih1 _ => exact fun hr => inv.anc h2 (ih1 hr)

/-- Who leans upon whom. -/
def anc (ops : Array Oper) (i j : Nat) : Bool := ((masksFrom ops.toList []).getD i 0).testBit j

theorem wpAny_of_wpC {B : Nat → Prop} {kd : Nat → Kd} {ord : List Nat} (hok : okB ops kd ord = true) {R : Act → World → Prop} (hR : ∀ a w, R a w → Q .normal a w) :
    ∀ (fuel : Nat) (listed : Array Bool) (l : List Nat) (G : GZ) (a : Act) (w w0 : World), Inv ops (pairB ops kd (masksFrom ops.toList [])) listed l → l.length = fuel → wpC B P ops (anc ops) kd R l G a w → Ext w w0 →
      wpAny P .any ops Q fuel listed a w0 := by
  simp only [okB, Bool.and_eq_true] at hok
  obtain ⟨⟨⟨⟨hsel, hself⟩, hcov⟩, hlt⟩, hpairs⟩ := hok
  have hsel : NoSel ops := fun j o cs b hj hop => by
    have := List.all_eq_true.1 hsel o (List.mem_of_getElem? (by rw [Array.getElem?_toList]; exact hj))
    rw [hop] at this; cases this
  have hself : ∀ k o, ops[k]? = some o → ∀ e ∈ o.after, Region.binds .any e = true → e.on ≠ k ∧ e.on < ops.size := fun k o hk e he hb => by
    have := selfB_spec hself k o (by rw [Array.getElem?_toList]; exact hk) e he hb
    exact ⟨by omega, this.2⟩
  have hms := masksFrom_spec (ops := ops) ops.toList [] (fun k o hk => by simpa using hk) (fun k m hk => by simp at hk)
  have both : ∀ (listed : Array Bool) i, listed.size = ops.size → i < ops.size → listed.getD i true ≠ false → listed.getD i false = true := fun listed i hs hi h => by
    have : i < listed.size := by omega
    simp [this] at h ⊢; exact h
  intro fuel
  induction fuel with
  | zero =>
    intro listed l G a w w0 inv hl h e
    have hl : l = [] := List.eq_nil_of_length_eq_zero hl
    subst hl
    refine ⟨?_, hR _ _ (h w0 e)⟩
    cases hr : Region.ready .any ops listed with
    | nil => rfl
    | cons i t =>
      have := (mem_ready.1 (show i ∈ Region.ready .any ops listed by rw [hr]; exact List.mem_cons_self)).1
      have := (inv.mem i).2 this
      cases this
  | succ fuel ih =>
    intro listed l G a w w0 inv hl h e
    refine ⟨fun hnil => ?_, fun i hi => ?_⟩
    · -- the first of what is left may come up
      exfalso
      cases l with
      | nil => cases hl
      | cons i0 t =>
        have hun := (inv.mem i0).1 List.mem_cons_self
        cases hi0 : ops[i0]? with
        | none =>
          simp only [wpC, hi0] at h
        | some o =>
          have : i0 ∈ Region.ready .any ops listed := by
            refine mem_ready.2 ⟨hun, o, hi0, fun ed he hb => ?_⟩
            obtain ⟨h1, h2⟩ := hself i0 o hi0 ed he hb
            refine both listed ed.on inv.size h2 fun hf => ?_
            have hm := (inv.mem ed.on).2 hf
            rcases List.mem_cons.1 hm with hm | hm
            · exact h1 hm
            · have hp := (List.pairwise_cons.1 inv.pw).1 ed.on hm
              unfold pairB at hp
              rw [hi0] at hp
              cases hj : ops[ed.on]? with
              | none => rw [hj] at hp; cases hp
              | some oj =>
                rw [hj] at hp
                simp only [Bool.and_eq_true] at hp
                have := Array.all_eq_true'.1 hp.1.1 ed he
                simp [hb] at this
          rw [hnil] at this
          cases this
    · obtain ⟨hun, oi, hoi, _⟩ := mem_ready.1 hi
      obtain ⟨p, s, rfl⟩ := List.append_of_mem ((inv.mem i).2 hun)
      have hpw := List.pairwise_append.1 inv.pw
      have hcm : ∀ j ∈ p, Comm ops (anc ops) kd j i := fun j hj => by
        have hp := hpw.2.2 j hj i List.mem_cons_self
        unfold pairB at hp
        cases hoj : ops[j]? with
        | none => rw [hoj] at hp; cases hp
        | some oj =>
          rw [hoj, hoi] at hp
          simp only [Bool.and_eq_true, Bool.or_eq_true] at hp
          by_cases hm : ((masksFrom ops.toList []).getD i 0).testBit j = true
          · exfalso
            have hun' := (inv.mem j).1 (List.mem_append_left _ hj)
            have hmi : ∃ m, (masksFrom ops.toList [])[i]? = some m ∧ m.testBit j = true := by
              cases hq : (masksFrom ops.toList [])[i]? with
              | none => simp [List.getD, hq] at hm
              | some m => exact ⟨m, rfl, by simpa [List.getD, hq] using hm⟩
            obtain ⟨m, hm1, hm2⟩ := hmi
            have := inv.ready (hms i m hm1 j hm2) hi
            rcases Nat.lt_or_ge j listed.size with hlt | hge
            · simp [hlt] at this hun'; rw [hun'] at this; cases this
            · simp [Array.getElem?_eq_none hge] at this
          · obtain ⟨hk, hap⟩ := hp.2.resolve_left hm
            exact ⟨by simpa [anc] using hm, fun oj' oi' h1 h2 => by
              rw [hoj] at h1; rw [hoi] at h2; injection h1 with h1; injection h2 with h2; subst h1; subst h2; exact hap, hk⟩
      have hlen : (p ++ s).length = fuel := by simp at hl ⊢; omega
      -- what is left behind it
      have inv' : Inv ops (pairB ops kd (masksFrom ops.toList [])) (listed.setIfInBounds i true) (p ++ s) := by
        have hnd : ∀ j ∈ p ++ s, j ≠ i := fun j hj hji => by
          subst hji
          rcases List.mem_append.1 hj with hj | hj
          · have hp := hpw.2.2 j hj j List.mem_cons_self
            unfold pairB at hp
            rw [hoi] at hp
            simp at hp
          · have hp := (List.pairwise_cons.1 hpw.2.1).1 j hj
            unfold pairB at hp
            rw [hoi] at hp
            simp at hp
        refine ⟨by simp [inv.size], ?_, fun j => ?_, fun j oj hj hl ed he hb => ?_⟩
        · exact List.Pairwise.sublist ((List.Sublist.refl p).append (List.sublist_cons_self i s)) inv.pw
        · by_cases hji : j = i
          · subst hji
            constructor
            · intro hj; exact absurd rfl (hnd j hj)
            · intro hf
              have : j < listed.size := by rw [inv.size]; exact (Array.getElem?_eq_some_iff.1 hoi).1
              simp [this] at hf
          · rw [getD_set_ne true (fun e => hji e.symm), ← inv.mem j]
            simp [hji]
        · by_cases hji : j = i
          · subst hji
            rw [hoi] at hj
            injection hj with hj
            subst hj
            obtain ⟨_, o2, ho2, hall⟩ := mem_ready.1 hi
            rw [hoi] at ho2
            injection ho2 with ho2
            subst ho2
            exact getD_set_true (hall ed he hb)
          · rw [getD_set_ne false (fun e => hji e.symm)] at hl
            exact getD_set_true (inv.closed j oj hj hl ed he hb)
      have h4 := pull hoi hsel p hcm G a w w0 h e
      unfold wpOp
      rw [hoi]
      simp only
      by_cases hw : Region.wanted oi (yielded ops a.tmps) = true
      · rw [if_pos hw] at h4 ⊢
        exact .inl (wp_noexit (fun a' w' ⟨w1, z, e1, _, _, _, hr⟩ => ih _ _ (G.to z) a' w1 w' inv' hlen hr e1) h4)
      · rw [if_neg hw] at h4 ⊢
        obtain ⟨w1, z, e1, hr⟩ := h4
        exact ih _ _ (G.to z) _ w1 _ inv' hlen hr e1

/-- A REGION THAT DRAWS ITS ORDER, walked in one order. -/
theorem wpAny_C {B : Nat → Prop} {kd : Nat → Kd} {ord : List Nat} (hok : okB ops kd ord = true) (hlen : Nat.beq ord.length ops.size = true) {R : Act → World → Prop} (hR : ∀ a w, R a w → Q .normal a w) {a : Act} {w : World}
    (h : wpC B P ops (anc ops) kd R ord ⟨fun _ _ => True, fun _ => False⟩ a w) : wpAny P .any ops Q ops.size (Array.replicate ops.size false) a { w with drawn := w.drawn + 1 } := by
  refine (wpAny_of_wpC hok hR ops.size _ ord _ a w _ ⟨by simp, ?_, fun i => ?_, fun i o _ hl => ?_⟩ (Nat.eq_of_beq_eq_true hlen) h ?_)
  · simp only [okB, Bool.and_eq_true] at hok
    exact pairsB_spec hok.2
  · simp only [okB, Bool.and_eq_true] at hok
    obtain ⟨⟨⟨_, hcov⟩, hlt⟩, _⟩ := hok
    constructor
    · intro hi
      have := List.all_eq_true.1 hlt i hi
      have : i < ops.size := by simpa using this
      simp [this]
    · intro hf
      have hi : i < ops.size := by
        rcases Nat.lt_or_ge i ops.size with h' | h'
        · exact h'
        · simp [h'] at hf
      have := List.all_eq_true.1 hcov i (List.mem_range.2 hi)
      simpa using this
  · exfalso
    rcases Nat.lt_or_ge i ops.size with h' | h'
    · simp [h'] at hl
    · simp [h'] at hl
  · exact ⟨rfl, rfl, rfl, Nat.le_refl _, fun _ _ => rfl⟩
end
end Go.Sh
