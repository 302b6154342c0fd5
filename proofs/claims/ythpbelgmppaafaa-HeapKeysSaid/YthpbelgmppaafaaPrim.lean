/- The words of the shallow programs: what a Go operation asks of memory, as a proposition over what follows it. -/
import Derived.Test.YthpbelgmppaafaaDraw
namespace Go.Sh
open Go.RowKit

structure SV where
  a : Option Addr
  len : Nat
  cap : Nat

inductive Shp where
  | int (k : IntKind) | bool | ptr | slice | map | str | val
  deriving DecidableEq

@[reducible] def Shp.T : Shp → Type
  | .int _ => Int
  | .bool => Bool
  | .ptr => Option Addr
  | .slice => SV
  | .map => Option Nat
  | .str => ByteArray
  | .val => Value

def Shp.enc : (σ : Shp) → σ.T → Value
  | .int k, n => .int k n
  | .bool, b => .bool b
  | .ptr, p => .pointer p
  | .slice, s => .slice s.a s.len s.cap
  | .map, r => .map r
  | .str, s => .string s
  | .val, v => v

def kEq : IntKind → IntKind → Bool
  | .i8, .i8 => true | .i16, .i16 => true | .i32, .i32 => true | .i64, .i64 => true
  | .u8, .u8 => true | .u16, .u16 => true | .u32, .u32 => true | .u64, .u64 => true
  | _, _ => false
theorem kEq_spec {a b : IntKind} (h : kEq a b = true) : a = b := by cases a <;> cases b <;> first | rfl | cases h

def Shp.dec : (σ : Shp) → Value → Option σ.T
  | .int k, .int j n => match kEq k j with | true => some n | false => none
  | .bool, .bool b => some b
  | .ptr, .pointer p => some p
  | .slice, .slice a l c => some ⟨a, l, c⟩
  | .map, .map r => some r
  | .str, .string s => some s
  | .val, v => some v
  | _, _ => none

theorem Shp.enc_dec {σ : Shp} {v : Value} {x : σ.T} (h : σ.dec v = some x) : σ.enc x = v := by
  cases σ <;> cases v <;> simp only [Shp.dec] at h <;> first
    | (cases h; done)
    | (injection h with h; subst h; rfl)
    | (split at h
       · rename_i hk; injection h with h; subst h; simp only [Shp.enc]; rw [kEq_spec hk]
       · cases h)

/-- A block of cells that may be written, all of it. -/
def Blk (w : World) (b : Nat) (cs : List Value) : Prop := ∃ T, w.heap[b]? = some (.cells cs.toArray T (0, 0))

def Keeps (bs : List Nat) (w w' : World) : Prop := ∀ b ∈ bs, w'.heap[b]? = w.heap[b]?

/-- Cells are read, one behind the other. -/
def rdL (w : World) (a : Addr) : List Shp → Nat → (List Value → Prop) → Prop
  | [], _, K => K []
  | σ :: l, j, K => ∃ x : σ.T, w.cell? (a.add j) = some (σ.enc x) ∧ rdL w a l (j + 1) (fun vs => K (σ.enc x :: vs))

/-- Cells are written, one behind the other. -/
def stL (w : World) (a : Addr) : List Value → Nat → (World → Prop) → Prop
  | [], _, K => K w
  | v :: l, j, K => (w.cell? (a.add j)).isSome = true ∧ w.frozen? (a.add j) = false ∧ stL (w.setCell (a.add j) v) a l (j + 1) K

/-- n cells from an address on hold these. -/
def Cells (w : World) (a : Addr) (cs : List Value) : Prop := ∀ j v, cs[j]? = some v → w.cell? (a.add j) = some v
/-- The cells of a slice's elements: 'n' elements of 'sz' cells. -/
def SlCells (w : World) (a : Option Addr) (cs : List Value) : Prop := cs = [] ∨ ∃ p, a = some p ∧ Cells w p cs

def one (v : Value) : Bool := match v with | .agg _ => false | .tuple _ => false | _ => true

def zeros (z : List Value) (n : Nat) : List Value := (List.range (n * z.length)).map fun i => z.getD (i % z.length) undef

/-- append(s, x...): elements of 'sz' cells, 'bytes' bytes, the zero element's cells 'z'. -/
def App (bytes : Nat) (z : List Value) (s x : SV) (w : World) (K : SV → World → Prop) : Prop :=
  (s.len + x.len) * bytes ≤ 2 ^ 47 ∧ s.len + x.len < 2 ^ 62 ∧ ∃ xs : List Value, xs.length = x.len * z.length ∧ SlCells w x.a xs ∧
    ((s.len + x.len ≤ s.cap ∧ (x.len * z.length = 0 ∨ ∃ p, s.a = some p ∧ p.spot = none ∧ (∀ v ∈ xs, one v = true) ∧ (∀ j, j < xs.length → (w.cell? ⟨p.block, p.off + s.len * z.length + j, none⟩).isSome = true) ∧
          (∀ j, j < xs.length → w.frozen? ⟨p.block, p.off + s.len * z.length + j, none⟩ = false)) ∧
        ∀ w', (∀ p, s.a = some p → Off p.block w w' ∧ (∀ j v, xs[j]? = some v → w'.cell? ⟨p.block, p.off + s.len * z.length + j, none⟩ = some v) ∧
            (∀ o, (o < p.off + s.len * z.length ∨ p.off + s.len * z.length + xs.length ≤ o) → w'.cell? ⟨p.block, o, none⟩ = w.cell? ⟨p.block, o, none⟩) ∧ (∀ cs, Blk w p.block cs → ∃ cs', Blk w' p.block cs' ∧ cs'.length = cs.length)) →
          (s.a = none → w' = w) → K ⟨s.a, s.len + x.len, s.cap⟩ w') ∨
     (s.cap < s.len + x.len ∧ ∃ os : List Value, os.length = s.len * z.length ∧ SlCells w s.a os ∧
        ∀ b c w', Ext w w' → w.heap.size ≤ b → s.len + x.len ≤ c → Blk w' b (os ++ xs ++ zeros z (c - (s.len + x.len))) → K ⟨some ⟨b, 0, none⟩, s.len + x.len, c⟩ w'))

/-- make([]T, n, c) -/
def MkS (bytes : Nat) (z : List Value) (n c : Int) (w : World) (K : SV → World → Prop) : Prop :=
  0 ≤ n ∧ n ≤ c ∧ (bytes : Int) * c ≤ 2 ^ 48 ∧ c < 2 ^ 62 ∧ ∀ b w', Ext w w' → w.heap.size ≤ b → Blk w' b (zeros z c.toNat) → K ⟨some ⟨b, 0, none⟩, n.toNat, c.toNat⟩ w'

/-- make(map) -/
def MkM (w : World) (K : Option Nat → World → Prop) : Prop := ∀ r w', Ext w w' → w.heap.size ≤ r → w'.heap[r]? = some (.map #[] 0) → K (some r) w'

/-- A new block, its cells known. -/
def NewB (cs : List Value) (w : World) (K : Nat → World → Prop) : Prop := ∀ b w', Ext w w' → w.heap.size ≤ b → Blk w' b cs → K b w'

/-- A pointer that is not nil. -/
def Nn (p : Option Addr) (K : Addr → Prop) : Prop := ∃ a, p = some a ∧ K a
/-- The address of x[i]. -/
def Idx (a : Option Addr) (n : Nat) (i : Int) (sz : Nat) (K : Addr → Prop) : Prop := ∃ b, a = some b ∧ 0 ≤ i ∧ i < n ∧ K (b.add (i.toNat * sz))
/-- x[l:h], by its bounds. -/
def semSlice (sz : Nat) (a : Option Addr) (n c : Nat) (l h : Option Int) (K : SV → Prop) : Prop :=
  0 ≤ h.getD n ∧ (∀ x, h = some x → x ≤ c) ∧ 0 ≤ l.getD 0 ∧ l.getD 0 ≤ h.getD n ∧
    K ⟨if c = (l.getD 0).toNat then a else a.map (·.add ((l.getD 0).toNat * sz)), (h.getD n).toNat - (l.getD 0).toNat, c - (l.getD 0).toNat⟩

def LoopT (σ : Type) (body : σ → (σ → World → Prop) → World → Prop) (s : σ) (w : World) : Prop :=
  ∃ (I : σ → World → Prop) (μ : σ → World → Nat), I s w ∧ ∀ s w, I s w → body s (fun s' w' => I s' w' ∧ μ s' w' < μ s w) w

def Join (σ : Type) (m : (σ → World → Prop) → Prop) (k : σ → World → Prop) : Prop := m k

theorem Join.cut {σ : Type} {m : (σ → World → Prop) → Prop} {k : σ → World → Prop} (R : σ → World → Prop)
    (h1 : ∀ J : σ → World → Prop, (∀ x w, R x w → J x w) → m J) (h2 : ∀ x w, R x w → k x w) : Join σ m k := h1 k h2

/-- A quiet call: one answer in whatever world grew out of this one. -/
def Quiet (ρ : Type) (enc : ρ → Value) (f : (ρ → World → Prop) → World → Prop) (w : World) (K : ρ → Prop) : Prop :=
  ∃ r : ρ, (∀ w', Ext w w' → f (fun r' w'' => Ending.returned (enc r') = Ending.returned (enc r) ∧ Ext w' w'') w') ∧ K r

theorem Quiet.mk {ρ : Type} {enc : ρ → Value} {f : (ρ → World → Prop) → World → Prop} {w : World} {K : ρ → Prop} (r : ρ) (h : ∀ w', Ext w w' → ∀ K' : ρ → World → Prop, (∀ w'', Ext w' w'' → K' r w'') → f K' w') (hk : K r) : Quiet ρ enc f w K :=
  ⟨r, fun w' e => h w' e _ (fun _ e' => ⟨rfl, e'⟩), hk⟩
end Go.Sh
