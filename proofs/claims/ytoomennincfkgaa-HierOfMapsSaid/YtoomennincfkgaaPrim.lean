/- The words of the shallow programs: what a Go operation asks of memory, as a proposition over what follows it. -/
import Derived.Test.YtoomennincfkgaaDraw
namespace Go.Sh
open Go.RowKit

structure SV where
  a : Option Addr
  len : Nat
  cap : Nat

inductive Shp where
  | int (k : IntKind) | bool | ptr | slice | map | str | val
  deriving DecidableEq

@[reducible] def Shp.T : Shp → Type
  | .int _ => Int
  | .bool => Bool
  | .ptr => Option Addr
  | .slice => SV
  | .map => Option Nat
  | .str => ByteArray
  | .val => Value

def Shp.enc : (σ : Shp) → σ.T → Value
  | .int k, n => .int k n
  | .bool, b => .bool b
  | .ptr, p => .pointer p
  | .slice, s => .slice s.a s.len s.cap
  | .map, r => .map r
  | .str, s => .string s
  | .val, v => v

def kEq : IntKind → IntKind → Bool
  | .i8, .i8 => true | .i16, .i16 => true | .i32, .i32 => true | .i64, .i64 => true
  | .u8, .u8 => true | .u16, .u16 => true | .u32, .u32 => true | .u64, .u64 => true
  | _, _ => false
theorem kEq_spec {a b : IntKind} (h : kEq a b = true) : a = b := by cases a <;> cases b <;> first | rfl | cases h

def Shp.dec : (σ : Shp) → Value → Option σ.T
  | .int k, .int j n => match kEq k j with | true => some n | false => none
  | .bool, .bool b => some b
  | .ptr, .pointer p => some p
  | .slice, .slice a l c => some ⟨a, l, c⟩
  | .map, .map r => some r
  | .str, .string s => some s
  | .val, v => some v
  | _, _ => none

theorem Shp.enc_dec {σ : Shp} {v : Value} {x : σ.T} (h : σ.dec v = some x) : σ.enc x = v := by
  cases σ <;> cases v <;> simp only [Shp.dec] at h <;> first
    | (cases h; done)
    | (injection h with h; subst h; rfl)
    | (split at h
       · rename_i hk; injection h with h; subst h; simp only [Shp.enc]; rw [kEq_spec hk]
       · cases h)

/-- A block of cells that may be written, all of it. -/
def Blk (w : World) (b : Nat) (cs : List Value) : Prop := ∃ T, w.heap[b]? = some (.cells cs.toArray T (0, 0))

def Keeps (bs : List Nat) (w w' : World) : Prop := ∀ b ∈ bs, w'.heap[b]? = w.heap[b]?

/-- Cells are read, one behind the other. -/
def rdL (w : World) (a : Addr) : List Shp → Nat → (List Value → Prop) → Prop
  | [], _, K => K []
  | σ :: l, j, K => ∃ x : σ.T, w.cell? (a.add j) = some (σ.enc x) ∧ rdL w a l (j + 1) (fun vs => K (σ.enc x :: vs))

/-- Cells are written, one behind the other. -/
def stL (w : World) (a : Addr) : List Value → Nat → (World → Prop) → Prop
  | [], _, K => K w
  | v :: l, j, K => (w.cell? (a.add j)).isSome = true ∧ w.frozen? (a.add j) = false ∧ stL (w.setCell (a.add j) v) a l (j + 1) K

/-- n cells from an address on hold these. -/
def Cells (w : World) (a : Addr) (cs : List Value) : Prop := ∀ j v, cs[j]? = some v → w.cell? (a.add j) = some v
/-- The cells of a slice's elements: 'n' elements of 'sz' cells. -/
def SlCells (w : World) (a : Option Addr) (cs : List Value) : Prop := cs = [] ∨ ∃ p, a = some p ∧ Cells w p cs

def one (v : Value) : Bool := match v with | .agg _ => false | .tuple _ => false | _ => true

def zeros (z : List Value) (n : Nat) : List Value := (List.range (n * z.length)).map fun i => z.getD (i % z.length) undef

/-- append(s, x...): elements of 'sz' cells, 'bytes' bytes, the zero element's cells 'z'. -/
def App (bytes : Nat) (z : List Value) (s x : SV) (w : World) (K : SV → World → Prop) : Prop :=
  (s.len + x.len) * bytes ≤ 2 ^ 47 ∧ s.len + x.len < 2 ^ 62 ∧ ∃ xs : List Value, xs.length = x.len * z.length ∧ SlCells w x.a xs ∧
    ((s.len + x.len ≤ s.cap ∧ (x.len * z.length = 0 ∨ ∃ p, s.a = some p ∧ p.spot = none ∧ (∀ v ∈ xs, one v = true) ∧ (∀ j, j < xs.length → (w.cell? ⟨p.block, p.off + s.len * z.length + j, none⟩).isSome = true) ∧
          (∀ j, j < xs.length → w.frozen? ⟨p.block, p.off + s.len * z.length + j, none⟩ = false)) ∧
        ∀ w', (∀ p, s.a = some p → Off p.block w w' ∧ (∀ j v, xs[j]? = some v → w'.cell? ⟨p.block, p.off + s.len * z.length + j, none⟩ = some v) ∧
            (∀ o, (o < p.off + s.len * z.length ∨ p.off + s.len * z.length + xs.length ≤ o) → w'.cell? ⟨p.block, o, none⟩ = w.cell? ⟨p.block, o, none⟩) ∧ (∀ cs, Blk w p.block cs → ∃ cs', Blk w' p.block cs' ∧ cs'.length = cs.length)) →
          (s.a = none → w' = w) → K ⟨s.a, s.len + x.len, s.cap⟩ w') ∨
     (s.cap < s.len + x.len ∧ ∃ os : List Value, os.length = s.len * z.length ∧ SlCells w s.a os ∧
        ∀ b c w', Ext w w' → w.heap.size ≤ b → s.len + x.len ≤ c → Blk w' b (os ++ xs ++ zeros z (c - (s.len + x.len))) → K ⟨some ⟨b, 0, none⟩, s.len + x.len, c⟩ w'))

/-- make([]T, n, c) -/
def MkS (bytes : Nat) (z : List Value) (n c : Int) (w : World) (K : SV → World → Prop) : Prop :=
  0 ≤ n ∧ n ≤ c ∧ (bytes : Int) * c ≤ 2 ^ 48 ∧ c < 2 ^ 62 ∧ ∀ b w', Ext w w' → w.heap.size ≤ b → Blk w' b (zeros z c.toNat) → K ⟨some ⟨b, 0, none⟩, n.toNat, c.toNat⟩ w'

/-- make, in a draw, maybe ahead of its turn. -/
def MkA (bytes : Nat) (z : List Value) (n c : Int) (Z : Nat → Prop) (w : World) (K : Nat → World → Prop) : Prop :=
  0 ≤ n ∧ n ≤ c ∧ (bytes : Int) * c ≤ 2 ^ 48 ∧ c < 2 ^ 62 ∧ ∀ b w', Ext w w' → (Z b ∨ w.heap.size ≤ b) → Blk w' b (zeros z c.toNat) → K b w'

/-- make(map) -/
def MkM (w : World) (K : Option Nat → World → Prop) : Prop := ∀ r w', Ext w w' → w.heap.size ≤ r → w'.heap[r]? = some (.map #[] 0) → K (some r) w'

/-- A new block, its cells known. -/
def NewB (cs : List Value) (w : World) (K : Nat → World → Prop) : Prop := ∀ b w', Ext w w' → w.heap.size ≤ b → Blk w' b cs → K b w'

/-- A pointer that is not nil. -/
def Nn (p : Option Addr) (K : Addr → Prop) : Prop := ∃ a, p = some a ∧ K a
/-- The address of x[i]. -/
def Idx (a : Option Addr) (n : Nat) (i : Int) (sz : Nat) (K : Addr → Prop) : Prop := ∃ b, a = some b ∧ 0 ≤ i ∧ i < n ∧ K (b.add (i.toNat * sz))
/-- x[l:h], by its bounds. -/
def semSlice (sz : Nat) (a : Option Addr) (n c : Nat) (l h : Option Int) (K : SV → Prop) : Prop :=
  0 ≤ h.getD n ∧ (∀ x, h = some x → x ≤ c) ∧ 0 ≤ l.getD 0 ∧ l.getD 0 ≤ h.getD n ∧
    K ⟨if c = (l.getD 0).toNat then a else a.map (·.add ((l.getD 0).toNat * sz)), (h.getD n).toNat - (l.getD 0).toNat, c - (l.getD 0).toNat⟩

def LoopT (σ : Type) (body : σ → (σ → World → Prop) → World → Prop) (s : σ) (w : World) : Prop :=
  ∃ (I : σ → World → Prop) (μ : σ → World → Nat), I s w ∧ ∀ s w, I s w → body s (fun s' w' => I s' w' ∧ μ s' w' < μ s w) w

def Join (σ : Type) (m : (σ → World → Prop) → Prop) (k : σ → World → Prop) : Prop := m k

theorem Join.cut {σ : Type} {m : (σ → World → Prop) → Prop} {k : σ → World → Prop} (R : σ → World → Prop)
    (h1 : ∀ J : σ → World → Prop, (∀ x w, R x w → J x w) → m J) (h2 : ∀ x w, R x w → k x w) : Join σ m k := h1 k h2

/-- A quiet call: one answer in whatever world grew out of this one. -/
def Quiet (ρ : Type) (enc : ρ → Value) (f : (ρ → World → Prop) → World → Prop) (w : World) (K : ρ → Prop) : Prop :=
  ∃ r : ρ, (∀ w', Ext w w' → f (fun r' w'' => Ending.returned (enc r') = Ending.returned (enc r) ∧ Ext w' w'') w') ∧ K r

theorem Quiet.mk {ρ : Type} {enc : ρ → Value} {f : (ρ → World → Prop) → World → Prop} {w : World} {K : ρ → Prop} (r : ρ) (h : ∀ w', Ext w w' → ∀ K' : ρ → World → Prop, (∀ w'', Ext w' w'' → K' r w'') → f K' w') (hk : K r) : Quiet ρ enc f w K :=
  ⟨r, fun w' e => h w' e _ (fun _ e' => ⟨rfl, e'⟩), hk⟩

/-! ### Function values, maps, copies, ranges over functions -/
/-- What is known of function values: the call of a value. -/
abbrev CVT := Value → List Value → (Value → World → Prop) → World → Prop

/-- Values of a make that is known. -/
def exL : List Shp → (List Value → Prop) → Prop
  | [], K => K []
  | σ :: l, K => ∃ x : σ.T, exL l fun vs => K (σ.enc x :: vs)
def exV : Bool → List Shp → (Value → Prop) → Prop
  | true, l, K => exL l fun vs => K (.agg vs.toArray)
  | false, [σ], K => ∃ x : σ.T, K (σ.enc x)
  | false, _, _ => False
def exVs : List (Bool × List Shp) → (List Value → Prop) → Prop
  | [], K => K []
  | (a, l) :: r, K => exV a l fun v => exVs r fun vs => K (v :: vs)

/-- A quiet call of a function value. -/
def QuietV (CV : CVT) (v : Value) (vs : List Value) (w : World) (K : Value → Prop) : Prop :=
  ∃ r, (∀ w', Ext w w' → CV v vs (fun r' w'' => r' = r ∧ Ext w' w'') w') ∧ K r
theorem QuietV.mk {CV : CVT} {v : Value} {vs : List Value} {w : World} {K : Value → Prop} (r : Value) (h : ∀ w', Ext w w' → ∀ K' : Value → World → Prop, (∀ w'', Ext w' w'' → K' r w'') → CV v vs K' w') (hk : K r) : QuietV CV v vs w K :=
  ⟨r, fun w' e => h w' e _ (fun _ e' => ⟨rfl, e'⟩), hk⟩

/-- Keys are made of whole numbers: one, or a struct of them. -/
def encK : Bool → List Int → Value
  | true, l => .agg (l.map (Value.int .i64)).toArray
  | false, [n] => .int .i64 n
  | false, _ => undef
def assoc (m : List (List Int × Value)) (k : List Int) : Option Value := (m.find? (fun p => p.1 == k)).map (·.2)
def upd (m : List (List Int × Value)) (k : List Int) (v : Value) : List (List Int × Value) :=
  match m with
  | [] => [(k, v)]
  | p :: m => if p.1 == k then (k, v) :: m else p :: upd m k v
/-- A map, by its entries. -/
def MapIs (ag : Bool) (n : Nat) (w : World) (b : Nat) (m : List (List Int × Value)) : Prop :=
  ∃ (es : Array MapEntry) (c : Nat), w.heap[b]? = some (.map es c) ∧ es.toList.map (fun e => (e.key, e.val)) = m.map (fun p => (encK ag p.1, p.2)) ∧
    (∀ p ∈ m, p.1.length = n) ∧ (m.map (·.1)).Nodup ∧ (∀ e ∈ es.toList, e.born < c) ∧ (es.toList.map (·.born)).Nodup
def MapR (ag : Bool) (n : Nat) (w : World) : Option Nat → List (List Int × Value) → Prop
  | none, m => m = []
  | some b, m => MapIs ag n w b m
/-- m[k] -/
def MLk (ag : Bool) (r : Option Nat) (k : List Int) (z : Value) (w : World) (K : Value → Bool → Prop) : Prop :=
  ∃ m, MapR ag k.length w r m ∧ K ((assoc m k).getD z) (assoc m k).isSome
/-- m[k] = v -/
def MUp (ag : Bool) (r : Option Nat) (k : List Int) (v : Value) (w : World) (K : World → Prop) : Prop :=
  ∃ b, r = some b ∧ ∃ m, MapIs ag k.length w b m ∧ ∀ w', Off b w w' → MapIs ag k.length w' b (upd m k v) → K w'

/-- copy(s, x) -/
def Cpy (sz : Nat) (s x : SV) (w : World) (K : World → Prop) : Prop :=
  ∃ xs : List Value, xs.length = min x.len s.len * sz ∧ SlCells w x.a xs ∧
    (xs = [] ∨ ∃ p, s.a = some p ∧ p.spot = none ∧ (∀ v ∈ xs, one v = true) ∧ (∀ j, j < xs.length → (w.cell? ⟨p.block, p.off + j, none⟩).isSome = true) ∧ (∀ j, j < xs.length → w.frozen? ⟨p.block, p.off + j, none⟩ = false)) ∧
    ∀ w', (xs = [] → w' = w) → (∀ p, s.a = some p → Off p.block w w' ∧ (∀ j v, xs[j]? = some v → w'.cell? ⟨p.block, p.off + j, none⟩ = some v) ∧
        (∀ o, (o < p.off ∨ p.off + xs.length ≤ o) → w'.cell? ⟨p.block, o, none⟩ = w.cell? ⟨p.block, o, none⟩) ∧ (∀ cs, Blk w p.block cs → ∃ cs', Blk w' p.block cs' ∧ cs'.length = cs.length)) → K w'

def bxor (k : IntKind) (a b : Int) : Int := k.wrap (BitVec.ofInt k.bits a ^^^ BitVec.ofInt k.bits b).toNat
def bshr (k : IntKind) (a b : Int) : Int := a.fdiv (2 ^ min b.toNat k.bits)

/-- A round has ended by a jump. -/
def Pend (l : Nat) (c : Code) (w1 w : World) : Prop := ∃ r : Loop, w1.heap[l]? = some (.loop r) ∧ w.heap[l]? = some (.loop { r with state := .done, pending := some c })
end Go.Sh
