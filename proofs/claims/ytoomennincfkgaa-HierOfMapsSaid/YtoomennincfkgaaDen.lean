/- The computed weakest precondition 'den' of the model's code, over frames that are known in part. -/
import Derived.Test.YtoomennincfkgaaPrim
import Derived.Laws.Tables
import Derived.Laws.MakeOwn
import Derived.Laws.Cells
import Derived.Laws.Append
import Derived.Laws.IdiomCopy
import Derived.WalkKit
namespace Go.Sh
open Go.RowKit

inductive X where
  | v (x : Value)
  | loc (d off : Nat)
  | clo (f : FuncId) (first cap : List Value)
  | yl (v : Value) (E : List Value → (Bool → World → Prop) → World → Prop)
  | bad

inductive BM where
  | rw | ro | out

structure Bx where
  b : Nat
  cs : List Value
  m : BM

structure S where
  sl : List (Nat × X)
  bx : List (Nat × Bx)
  ro : List Nat
  df : List Nat := []

def find {α : Type} : List (Nat × α) → Nat → Option α
  | [], _ => none
  | (k, x) :: t, i => match Nat.beq k i with | true => some x | false => find t i

structure Cx where
  P : Program
  CV : CVT
  top : Bool
  O : FuncId → CVT → List X → (Value → World → Prop) → World → Prop
  Q : FuncId → CVT → List X → World → (Value → Prop) → Prop

def cc : X → Value
  | .v x => x
  | .loc _ _ => undef
  | .clo f first cap => .func (.func f) first.toArray cap.toArray
  | .yl v _ => v
  | .bad => undef
def conc (bx : List (Nat × Bx)) : X → Value
  | .loc d off => match find bx d with | some b => .pointer (some ⟨b.b, off, none⟩) | none => undef
  | x => cc x

def S.put (s : S) (d : Nat) (x : X) : S := { s with sl := (d, x) :: s.sl }
def S.putO (s : S) : Option Nat → X → S
  | some d, x => s.put d x
  | none, _ => s
/-- What leans on boxes that are no more is forgotten. -/
def kill (f : Nat → Bool) : List (Nat × X) → List (Nat × X)
  | [] => []
  | (t, x) :: l => match x with
    | .loc d o => (t, match f d with | true => .bad | false => .loc d o) :: kill f l
    | x => (t, x) :: kill f l
def S.newbox (s : S) (d b : Nat) (cs : List Value) : S := { s with sl := (d, .loc d 0) :: kill (Nat.beq d) s.sl, bx := (d, ⟨b, cs, .rw⟩) :: s.bx }
def S.setbox (s : S) (d : Nat) (x : Bx) : S := { s with bx := (d, x) :: s.bx }

def ev (s : S) : Operand → Option X
  | .tmp t => match find s.sl t with | some .bad => none | x => x
  | .const v => some (.v v)
  | .func f => some (.clo f [] [])
  | .global g => some (.v (.pointer (some ⟨g, 0, none⟩)))

/-- .. as a value for whoever is not this frame: a pointer to a box only if the box has been given out. -/
def evc (s : S) (o : Operand) : Option X :=
  match ev s o with
  | some (.loc d off) =>
    match find s.bx d with
    | some ⟨b, _, .out⟩ => some (.v (.pointer (some ⟨b, off, none⟩)))
    | _ => none
  | x => x

def evs (s : S) : List Operand → Option (List X)
  | [] => some []
  | o :: l => match evc s o, evs s l with
    | some (.clo f first cap), some xs => some (.v (.func (.func f) first.toArray cap.toArray) :: xs)
    | some x, some xs => some (x :: xs)
    | _, _ => none
def valOf : X → Option Value
  | .v x => some x
  | .clo f first cap => some (.func (.func f) first.toArray cap.toArray)
  | .loc _ _ => none
  | .yl _ _ => none
  | .bad => none
def vals : List X → Option (List Value)
  | [] => some []
  | x :: l => match valOf x, vals l with | some v, some vs => some (v :: vs) | _, _ => none
def evv (s : S) (o : Operand) : Option Value := match evc s o with | some x => valOf x | none => none
def evvs (s : S) : List Operand → Option (List Value)
  | [] => some []
  | o :: l => match evv s o, evvs s l with | some x, some xs => some (x :: xs) | _, _ => none
def evps (s : S) : List (Nat × Operand) → Option (List (Nat × Value))
  | [] => some []
  | (i, o) :: l => match evv s o, evps s l with | some x, some xs => some ((i, x) :: xs) | _, _ => none

/-! ### Types -/
def leafOf (P : Program) (t : TypeId) : Option Shp :=
  match P.underlying t with
  | some .bool => some .bool
  | some (.int k) => some (.int k)
  | some .string => some .str
  | some (.pointer _) => some .ptr
  | some (.slice _) => some .slice
  | some (.map _ _) => some .map
  | some (.func ..) => some .val
  | some (.interface _) => some .val
  | _ => none
def leaves (P : Program) : Nat → TypeId → Option (List Shp)
  | 0, _ => none
  | n + 1, t =>
    match P.underlying t with
    | some (.struct fs) => fs.toList.foldr (fun f acc => match leaves P n f.type, acc with | some a, some b => some (a ++ b) | _, _ => none) (some [])
    | some (.array len e) => match leaves P n e with | some a => some ((List.replicate len a).flatten) | none => none
    | _ => match leafOf P t with | some σ => some [σ] | none => none
def isAggB (P : Program) (t : TypeId) : Bool := match P.underlying t with | some (.struct _) => true | some (.array _ _) => true | _ => false
def sizeB (P : Program) (t : TypeId) (n : Nat) : Bool := match P.info? t with | some i => Nat.beq i.size n | none => false
def zeroB (P : Program) (t : TypeId) : Option Value := match P.info? t with | some i => i.zero | none => none
def fieldB (P : Program) (t : TypeId) (f : Nat) : Option (Nat × TypeId) :=
  match P.underlying t with
  | some (.struct fs) => match fs[f]? with | some fd => some (fd.offset, fd.type) | none => none
  | _ => none
def sliceB (P : Program) (t : TypeId) : Option TypeId := match P.underlying t with | some (.slice e) => some e | _ => none
def intB (P : Program) (t : TypeId) : Option IntKind := match P.underlying t with | some (.int k) => some k | _ => none
def elB (P : Program) (t : TypeId) : Option (Nat × Nat × List Value) :=
  match sliceB P t with
  | some e => match P.info? e with
    | some i => match i.zero with
      | some z => match Nat.beq z.cells.toList.length i.size && !(Nat.beq i.size 0) with
        | true => some (i.size, i.bytes, z.cells.toList)
        | false => none
      | none => none
    | none => none
  | none => none

/-- Keys of whole numbers: one (false, 1), or a struct of n (true, n). -/
def keyFs (P : Program) : List Field → Nat → Bool
  | [], _ => true
  | f :: l, i => (match intB P f.type with | some .i64 => true | _ => false) && Nat.beq f.offset i && !(f.name == "_") && keyFs P l (i + 1)
def keyB (P : Program) (t : TypeId) : Option (Bool × Nat) :=
  match P.underlying t with
  | some (.int .i64) => some (false, 1)
  | some (.struct fs) => (match keyFs P fs.toList 0 && !(P.stoodInHeld t) && Nat.blt 0 fs.size with | true => some (true, fs.size) | false => none)
  | _ => none
def intsV : List Value → Option (List Int)
  | [] => some []
  | .int .i64 n :: l => (match intsV l with | some ns => some (n :: ns) | none => none)
  | _ :: _ => none
def keyV (ag : Bool) (n : Nat) (v : Value) : Option (List Int) :=
  match ag, v with
  | false, .int .i64 k => some [k]
  | true, .agg cs => (match intsV cs.toList with | some l => (match Nat.beq l.length n with | true => some l | false => none) | none => none)
  | _, _ => none
def mapB (P : Program) (t : TypeId) : Option (Bool × Nat × TypeId) :=
  match P.underlying t with
  | some (.map k e) => (match keyB P k with | some (ag, n) => some (ag, n, e) | none => none)
  | _ => none
/-- The make of a value. -/
def shV (P : Program) (t : TypeId) : Option (Bool × List Shp) :=
  match isAggB P t with
  | true => (match leaves P 10 t with | some l => some (true, l) | none => none)
  | false => (match leafOf P t with | some σ => some (false, [σ]) | none => none)
def shVs (P : Program) : List TypeId → Option (List (Bool × List Shp))
  | [] => some []
  | t :: l => match shV P t, shVs P l with | some x, some xs => some (x :: xs) | _, _ => none
def resV (P : Program) (t : TypeId) : Option (List (Bool × List Shp)) :=
  match P.underlying t with
  | some (.tuple ts) => shVs P ts.toList
  | _ => shVs P [t]
def tup : List Value → Value
  | [v] => v
  | vs => .tuple vs.toArray

/-! ### What an operation asks -/
inductive OpR : Type 1 where
  | pure (V : (X → Prop) → Prop)
  | read (R : World → (X → Prop) → Prop)
  | box (cs : List Value)
  | new (N : World → (X → World → Prop) → Prop)
  | big (B : World → (X → World → Prop) → Prop)
  | lst (d : Nat) (b : Nat) (cs : List Value)
  | call (f : FuncId) (xs : List X)
  | callV (v : Value) (vs : List Value) (r : List (Bool × List Shp))
  | yield (E : List Value → (Bool → World → Prop) → World → Prop) (v : Value) (vs : List Value)
  | bad

def putAt (cs : List Value) (off : Nat) (vs : List Value) : List Value := cs.take off ++ vs ++ cs.drop (off + vs.length)

def partB (P : Program) (t : TypeId) (cs : Array Value) (off : Nat) : Option Value :=
  match isAggB P t with
  | true => (match P.info? t with | some i => some (.agg ((cs.toList.drop off).take i.size).toArray) | none => none)
  | false => (match (P.underlying t).isSome with | true => cs.toList[off]? | false => none)
/-- a == b, of whole numbers, bools and structs of them. -/
def eqV (P : Program) : Nat → TypeId → Value → Value → Option Bool
  | 0, _, _, _ => none
  | d + 1, t, x, y =>
    match P.underlying t with
    | some .bool => (match x, y with | .bool a, .bool b => some (a == b) | _, _ => none)
    | some (.int _) => (match x, y with | .int k a, .int j b => (match kEq k j with | true => some (a == b) | false => none) | _, _ => none)
    | some (.struct fs) => (match x, y with
      | .agg xs, .agg ys => (match P.stoodInHeld t with
        | true => none
        | false => fs.toList.foldr (fun f acc => match f.name == "_", partB P f.type xs f.offset, partB P f.type ys f.offset with
          | false, some u, some v => (match eqV P d f.type u v, acc with | some b, some r => some (b && r) | _, _ => none)
          | _, _, _ => none) (some true))
      | _, _ => none)
    | _ => none

def semBin (op : BinOp) (x y : Value) : OpR :=
  match op, x, y with
  | .add, .int k a, .int j b => match kEq k j with | true => .pure fun K => K (.v (.int k (k.wrap (a + b)))) | false => .bad
  | .sub, .int k a, .int j b => match kEq k j with | true => .pure fun K => K (.v (.int k (k.wrap (a - b)))) | false => .bad
  | .mul, .int k a, .int j b => match kEq k j with | true => .pure fun K => K (.v (.int k (k.wrap (a * b)))) | false => .bad
  | .xor, .int k a, .int j b => match kEq k j with | true => .pure fun K => K (.v (.int k (bxor k a b))) | false => .bad
  | .shr, .int k a, .int _ b => .pure fun K => (0 ≤ b ∧ K (.v (.int k (bshr k a b))))
  | .quo, .int k a, .int j b => match kEq k j with | true => .pure fun K => (if b = 0 then False else K (.v (.int k (k.wrap (a.tdiv b))))) | false => .bad
  | .rem, .int k a, .int j b => match kEq k j with | true => .pure fun K => (if b = 0 then False else K (.v (.int k (a.tmod b)))) | false => .bad
  | .eql, .int k a, .int j b => match kEq k j with | true => .pure fun K => K (.v (.bool (a == b))) | false => .bad
  | .neq, .int k a, .int j b => match kEq k j with | true => .pure fun K => K (.v (.bool (a != b))) | false => .bad
  | .lss, .int k a, .int j b => match kEq k j with | true => .pure fun K => K (.v (.bool (decide (a < b)))) | false => .bad
  | .leq, .int k a, .int j b => match kEq k j with | true => .pure fun K => K (.v (.bool (decide (a ≤ b)))) | false => .bad
  | .gtr, .int k a, .int j b => match kEq k j with | true => .pure fun K => K (.v (.bool (decide (a > b)))) | false => .bad
  | .geq, .int k a, .int j b => match kEq k j with | true => .pure fun K => K (.v (.bool (decide (a ≥ b)))) | false => .bad
  | _, _, _ => .bad

def semBinT (P : Program) (op : BinOp) (t : TypeId) (x y : Value) : OpR :=
  match P.underlying t, op, x, y with
  | some .bool, .eql, .bool a, .bool b => .pure fun K => K (.v (.bool (a == b)))
  | some .bool, .neq, .bool a, .bool b => .pure fun K => K (.v (.bool (!(a == b))))
  | some (.pointer _), .eql, .pointer p, .pointer none => .pure fun K => K (.v (.bool p.isNone))
  | some (.pointer _), .neq, .pointer p, .pointer none => .pure fun K => K (.v (.bool (!p.isNone)))
  | some (.int _), op, x, y => semBin op x y
  | some (.struct _), .eql, x, y => (match eqV P 10 t x y, P.eqGuardType P.depth t with | some b, false => .pure fun K => K (.v (.bool b)) | _, _ => .bad)
  | some (.struct _), .neq, x, y => (match eqV P 10 t x y, P.eqGuardType P.depth t with | some b, false => .pure fun K => K (.v (.bool (!b))) | _, _ => .bad)
  | _, _, _, _ => .bad

def semLen (P : Program) (t : TypeId) : X → OpR
  | .v (.slice _ n _) => match P.underlying t with | some (.slice _) => .pure fun K => K (.v (.int .i64 (n : Int))) | _ => .bad
  | .v (.string s) => match P.underlying t with | some .string => .pure fun K => K (.v (.int .i64 (s.size : Int))) | _ => .bad
  | _ => .bad

def foldInt (f : Int → Int → Int) (k : IntKind) : Int → List X → Option Int
  | a, [] => some a
  | a, .v (.int j b) :: l => match kEq k j with | true => foldInt f k (f a b) l | false => none
  | _, _ => none

def semBuiltin (P : Program) (b : Builtin) (ts : List TypeId) (xs : List X) : OpR :=
  match b, ts, xs with
  | .len, [t], [x] => semLen P t x
  | .append, [t, u], [.v (.slice a n c), .v (.slice a' n' c')] =>
    match Nat.beq t u, elB P t with
    | true, some (_, bytes, z) => .big fun w K => App bytes z ⟨a, n, c⟩ ⟨a', n', c'⟩ w (fun s w' => K (.v (.slice s.a s.len s.cap)) w')
    | _, _ => .bad
  | .copy, [t, u], [.v (.slice a n c), .v (.slice a' n' c')] =>
    match Nat.beq t u, elB P t with
    | true, some (sz, _, _) => .big fun w K => Cpy sz ⟨a, n, c⟩ ⟨a', n', c'⟩ w (fun w' => K (.v (.int .i64 (min n' n : Nat))) w')
    | _, _ => .bad
  | .min, _, .v (.int k a) :: l => match foldInt (fun x y => if y < x then y else x) k a l with | some r => .pure fun K => K (.v (.int k r)) | none => .bad
  | .max, _, .v (.int k a) :: l => match foldInt (fun x y => if y > x then y else x) k a l with | some r => .pure fun K => K (.v (.int k r)) | none => .bad
  | _, _, _ => .bad

def noBodyB (P : Program) (f : FuncId) : Bool := match P.funcs[f]? with | some fn => fn.body.isSome && !(fn.name == "runtime.NumGoroutine") | none => false

def optInt (s : S) : Option Operand → Option (Option Int)
  | none => some none
  | some o => match ev s o with | some (.v (.int _ n)) => some (some n) | _ => none

def sem1 (cx : Cx) (s : S) (o : Oper) : OpR :=
  match o.op with
  | .move x => match ev s x with | some x => .pure fun K => K x | none => .bad
  | .assign x => match ev s x with | some x => .pure fun K => K x | none => .bad
  | .pick c a b => match ev s c with
    | some (.v (.bool true)) => (match ev s a with | some x => .pure fun K => K x | none => .bad)
    | some (.v (.bool false)) => (match ev s b with | some x => .pure fun K => K x | none => .bad)
    | _ => .bad
  | .alloc t => match zeroB cx.P t with | some z => .box z.cells.toList | none => .bad
  | .box _ x => match evv s x with | some v => .box v.cells.toList | none => .bad
  | .build t parts => match evps s parts.toList with
    | some vs => (match cx.P.built t vs with | some cells => .pure fun K => K (.v (.agg cells.toList.toArray)) | none => .bad)
    | none => .bad
  | .load t a => match ev s a with
    | some (.loc d off) => (match find s.bx d with
      | some ⟨b, _, .out⟩ => (match isAggB cx.P t with
        | true => (match leaves cx.P 10 t with
          | some l => (match sizeB cx.P t l.length with
            | true => .read fun w K => rdL w ⟨b, off, none⟩ l 0 (fun vs => K (.v (.agg vs.toArray)))
            | false => .bad)
          | none => .bad)
        | false => (match leafOf cx.P t with
          | some σ => .read fun w K => ∃ x : σ.T, w.cell? ⟨b, off, none⟩ = some (σ.enc x) ∧ K (.v (σ.enc x))
          | none => .bad))
      | some ⟨_, cs, _⟩ => (match isAggB cx.P t with
        | true => (match leaves cx.P 10 t with
          | some l => (match sizeB cx.P t l.length && Nat.ble (off + l.length) cs.length with
            | true => .read fun _ K => K (.v (.agg ((cs.drop off).take l.length).toArray))
            | false => .bad)
          | none => .bad)
        | false => (match cs[off]? with
          | some v => (match (cx.P.underlying t).isSome with | true => .read fun _ K => K (.v v) | false => .bad)
          | none => .bad))
      | none => .bad)
    | some (.v (.pointer (some p))) => (match isAggB cx.P t with
      | true => (match leaves cx.P 10 t with
        | some l => (match sizeB cx.P t l.length with
          | true => .read fun w K => rdL w p l 0 (fun vs => K (.v (.agg vs.toArray)))
          | false => .bad)
        | none => .bad)
      | false => (match leafOf cx.P t with
        | some σ => .read fun w K => ∃ x : σ.T, w.cell? p = some (σ.enc x) ∧ K (.v (σ.enc x))
        | none => .bad))
    | _ => .bad
  | .store t a x => match evv s x with
    | some v => (match sizeB cx.P t v.cells.toList.length && v.cells.toList.all one with
      | true => (match ev s a with
        | some (.loc d off) => (match find s.bx d with
          | some ⟨b, cs, .rw⟩ => (match Nat.ble (off + v.cells.toList.length) cs.length with | true => .lst d b (putAt cs off v.cells.toList) | false => .bad)
          | some ⟨b, _, .out⟩ => .big fun w K => stL w ⟨b, off, none⟩ v.cells.toList 0 (fun w' => K (.v undef) w')
          | _ => .bad)
        | some (.v (.pointer (some p))) => .big fun w K => stL w p v.cells.toList 0 (fun w' => K (.v undef) w')
        | _ => .bad)
      | false => .bad)
    | none => .bad
  | .nilCheck x => match ev s x with
    | some (.loc d off) => .pure fun K => K (.loc d off)
    | some (.v (.pointer p)) => .pure fun K => Nn p fun a => K (.v (.pointer (some a)))
    | some (.clo f first cap) => .pure fun K => K (.clo f first cap)
    | _ => .bad
  | .binOp op t x y _ => match evv s x, evv s y with | some a, some b => semBinT cx.P op t a b | _, _ => .bad
  | .unOp op _ x => match op, ev s x with
    | .not, some (.v (.bool b)) => .pure fun K => K (.v (.bool (!b)))
    | .neg, some (.v (.int k n)) => .pure fun K => K (.v (.int k (k.wrap (0 - n))))
    | _, _ => .bad
  | .convert src dst x => match ev s x, intB cx.P src, intB cx.P dst with
    | some (.v (.int _ n)), some _, some k => .pure fun K => K (.v (.int k (k.wrap n)))
    | _, _, _ => .bad
  | .makeFunc (.func f) first captured => match evvs s first.toList, evvs s captured.toList with
    | some fs, some cap => .pure fun K => K (.clo f fs cap)
    | _, _ => .bad
  | .buildSlice t len parts => match elB cx.P t, evps s parts.toList with
    | some (sz, _, z), some vs => (match Nat.ble (len * sz) 16777216, Instr.fill (fun i => some (i * sz, sz)) (zeros z len).toArray vs with
      | true, some cells => .new fun w K => NewB cells.toList w (fun b w' => K (.v (.slice (some ⟨b, 0, none⟩) len len)) w')
      | _, _ => .bad)
    | _, _ => .bad
  | .makeSlice t l c => match elB cx.P t, ev s l, ev s c with
    | some (_, bytes, z), some (.v (.int _ n)), some (.v (.int _ m)) => .new fun w K => MkS bytes z n m w (fun s w' => K (.v (.slice s.a s.len s.cap)) w')
    | _, _, _ => .bad
  | .makeMap _ none => .new fun w K => MkM w (fun r w' => K (.v (.map r)) w')
  | .lookup t x k ok => match mapB cx.P t, ev s x, evv s k with
    | some (ag, n, e), some (.v (.map r)), some kv => (match keyV ag n kv, zeroB cx.P e, shV cx.P e with
      | some ks, some z, some (g, l) => .read fun w K => MLk ag r ks z w fun v is => exV g l fun u => v = u ∧ K (match ok with | true => .v (.tuple #[u, .bool is]) | false => .v u)
      | _, _, _ => .bad)
    | _, _, _ => .bad
  | .mapUpdate t x k v => match mapB cx.P t, ev s x, evv s k, evv s v with
    | some (ag, n, _), some (.v (.map r)), some kv, some vv => (match keyV ag n kv with
      | some ks => .big fun w K => MUp ag r ks vv w (fun w' => K (.v undef) w')
      | none => .bad)
    | _, _, _, _ => .bad
  | .slice t x lo hi (some mx) => match elB cx.P t, ev s x, optInt s lo, optInt s hi, ev s mx with
    | some (sz, _, _), some (.v (.slice a n c)), some l, some (some h), some (.v (.int _ m)) => .pure fun K => (0 ≤ m ∧ m ≤ c ∧ h ≤ m ∧ semSlice sz a n m.toNat l (some h) fun s => K (.v (.slice s.a s.len s.cap)))
    | _, _, _, _, _ => .bad
  | .slice t x lo hi none => match elB cx.P t, ev s x, optInt s lo, optInt s hi with
    | some (sz, _, _), some (.v (.slice a n c)), some l, some h => .pure fun K => semSlice sz a n c l h fun s => K (.v (.slice s.a s.len s.cap))
    | _, _, _, _ => .bad
  | .fieldAddr t x f => match fieldB cx.P t f with
    | some (off, ft) => (match (match cx.P.info? ft with | some i => !(Nat.beq i.size 0) | none => false) with
      | true => (match ev s x with
        | some (.loc d o) => .pure fun K => K (.loc d (o + off))
        | some (.v (.pointer (some a))) => .pure fun K => K (.v (.pointer (some (a.add off))))
        | _ => .bad)
      | false => .bad)
    | none => .bad
  | .field t x f => match fieldB cx.P t f, ev s x with
    | some (off, ft), some (.v (.agg cs)) => (match isAggB cx.P ft with
      | true => (match cx.P.info? ft with
        | some i => .pure fun K => K (.v (.agg ((cs.toList.drop off).take i.size).toArray))
        | none => .bad)
      | false => (match cs.toList[off]? with
        | some v => (match (cx.P.underlying ft).isSome with | true => .pure fun K => K (.v v) | false => .bad)
        | none => .bad))
    | _, _ => .bad
  | .indexAddr t x ix => match elB cx.P t, ev s x, ev s ix with
    | some (sz, _, _), some (.v (.slice a n _)), some (.v (.int _ i)) => .pure fun K => Idx a n i sz fun p => K (.v (.pointer (some p)))
    | _, _, _ => .bad
  | .extract t i => match ev s t with
    | some (.v (.tuple vs)) => (match vs.toList[i]? with | some v => .pure fun K => K (.v v) | none => .bad)
    | _ => .bad
  | .call c => match c.callee, evs s c.args.toList with
    | .builtin b, some xs => semBuiltin cx.P b c.argTypes.toList xs
    | .value f, some xs => (match ev s f with
      | some (.clo g fs cap) => (match noBodyB cx.P g with | true => .call g (fs.map .v ++ (xs ++ cap.map .v)) | false => .bad)
      | some (.v x) => (match vals xs, resV cx.P o.type with | some vs, some r => .callV x vs r | _, _ => .bad)
      | some (.yl v E) => (match vals xs with | some vs => .yield E v vs | none => .bad)
      | _ => .bad)
    | _, _ => .bad
  | _ => .bad

/-! Height: the kernel unfolds what stands higher first. What belongs to 'den' is to stand above all shallow definitions. -/
def hh0 : Unit := ()
def hh1 : Unit := hh0
def hh2 : Unit := hh1
def hh3 : Unit := hh2
def hh4 : Unit := hh3
def hh5 : Unit := hh4
def hh6 : Unit := hh5
def hh7 : Unit := hh6
def hh8 : Unit := hh7
def hh9 : Unit := hh8
def hh10 : Unit := hh9
def hh11 : Unit := hh10
def hh12 : Unit := hh11
def hh13 : Unit := hh12
def hh14 : Unit := hh13
def hh15 : Unit := hh14
def hh16 : Unit := hh15
def hh17 : Unit := hh16
def hh18 : Unit := hh17
def hh19 : Unit := hh18
def hh20 : Unit := hh19
def hh21 : Unit := hh20
def hh22 : Unit := hh21
def hh23 : Unit := hh22
def hh24 : Unit := hh23
def hh25 : Unit := hh24
def hh26 : Unit := hh25
def hh27 : Unit := hh26
def hh28 : Unit := hh27
def hh29 : Unit := hh28
def hh30 : Unit := hh29
def hh31 : Unit := hh30
def hh32 : Unit := hh31
def hh33 : Unit := hh32
def hh34 : Unit := hh33
def hh35 : Unit := hh34
def hh36 : Unit := hh35
def hh37 : Unit := hh36
def hh38 : Unit := hh37
def hh39 : Unit := hh38
def hh40 : Unit := hh39
def hh41 : Unit := hh40
def hh42 : Unit := hh41
def hh43 : Unit := hh42
def hh44 : Unit := hh43
def hh45 : Unit := hh44
def hh46 : Unit := hh45
def hh47 : Unit := hh46
def hh48 : Unit := hh47
def hh49 : Unit := hh48
def hh50 : Unit := hh49
def hh51 : Unit := hh50
def hh52 : Unit := hh51
def hh53 : Unit := hh52
def hh54 : Unit := hh53
def hh55 : Unit := hh54
def hh56 : Unit := hh55
def hh57 : Unit := hh56
def hh58 : Unit := hh57
def hh59 : Unit := hh58
def hh60 : Unit := hh59
def hh61 : Unit := hh60
def hh62 : Unit := hh61
def hh63 : Unit := hh62
def hh64 : Unit := hh63
def hh65 : Unit := hh64
def hh66 : Unit := hh65
def hh67 : Unit := hh66
def hh68 : Unit := hh67
def hh69 : Unit := hh68
def hh70 : Unit := hh69
def hh71 : Unit := hh70
def hh72 : Unit := hh71
def hh73 : Unit := hh72
def hh74 : Unit := hh73
def hh75 : Unit := hh74
def hh76 : Unit := hh75
def hh77 : Unit := hh76
def hh78 : Unit := hh77
def hh79 : Unit := hh78
def hh80 : Unit := hh79
def hh81 : Unit := hh80
def hh82 : Unit := hh81
def hh83 : Unit := hh82
def hh84 : Unit := hh83
def hh85 : Unit := hh84
def hh86 : Unit := hh85
def hh87 : Unit := hh86
def hh88 : Unit := hh87
def hh89 : Unit := hh88
def hh90 : Unit := hh89
def hh91 : Unit := hh90
def hh92 : Unit := hh91
def hh93 : Unit := hh92
def hh94 : Unit := hh93
def hh95 : Unit := hh94
def hh96 : Unit := hh95
def hh97 : Unit := hh96
def hh98 : Unit := hh97
def hh99 : Unit := hh98
def hh100 : Unit := hh99
def hh101 : Unit := hh100
def hh102 : Unit := hh101
def hh103 : Unit := hh102
def hh104 : Unit := hh103
def hh105 : Unit := hh104
def hh106 : Unit := hh105
def hh107 : Unit := hh106
def hh108 : Unit := hh107
def hh109 : Unit := hh108
def hh110 : Unit := hh109
def hh111 : Unit := hh110
def hh112 : Unit := hh111
def hh113 : Unit := hh112
def hh114 : Unit := hh113
def hh115 : Unit := hh114
def hh116 : Unit := hh115
def hh117 : Unit := hh116
def hh118 : Unit := hh117
def hh119 : Unit := hh118
def hh120 : Unit := hh119
def hh121 : Unit := hh120
def hh122 : Unit := hh121
def hh123 : Unit := hh122
def hh124 : Unit := hh123
def hh125 : Unit := hh124
def hh126 : Unit := hh125
def hh127 : Unit := hh126
def hh128 : Unit := hh127
def hh129 : Unit := hh128
def hh130 : Unit := hh129
def hh131 : Unit := hh130
def hh132 : Unit := hh131
def hh133 : Unit := hh132
def hh134 : Unit := hh133
def hh135 : Unit := hh134
def hh136 : Unit := hh135
def hh137 : Unit := hh136
def hh138 : Unit := hh137
def hh139 : Unit := hh138
def hh140 : Unit := hh139
def hh141 : Unit := hh140
def hh142 : Unit := hh141
def hh143 : Unit := hh142
def hh144 : Unit := hh143
def hh145 : Unit := hh144
def hh146 : Unit := hh145
def hh147 : Unit := hh146
def hh148 : Unit := hh147
def hh149 : Unit := hh148
def hh150 : Unit := hh149
def hh151 : Unit := hh150
def hh152 : Unit := hh151
def hh153 : Unit := hh152
def hh154 : Unit := hh153
def hh155 : Unit := hh154
def hh156 : Unit := hh155
def hh157 : Unit := hh156
def hh158 : Unit := hh157
def hh159 : Unit := hh158
def hh160 : Unit := hh159
def FalseH : Prop := (fun _ => False) hh160
theorem FalseH.elim {p : Prop} (h : FalseH) : p := False.elim h

/-- The operands that may give a box out. -/
def escapes : Op → List Operand
  | .box _ x => [x]
  | .build _ ps => ps.toList.map (·.2)
  | .buildSlice _ _ ps => ps.toList.map (·.2)
  | .store _ _ x => [x]
  | .makeFunc _ first cap => first.toList ++ cap.toList
  | .call c => c.args.toList
  | .binOp _ _ x y _ => [x, y]
  | .mapUpdate _ _ _ v => [v]
  | _ => []

/-- Boxes that are given out: what they hold is told. -/
def expose (s : S) (w : World) : List Operand → (S → Prop) → Prop
  | [], K => (fun _ => K s) hh160
  | o :: l, K =>
    match ev s o with
    | some (.loc d _) => (match find s.bx d with
      | some ⟨b, cs, .rw⟩ => Blk w b cs → expose (s.setbox d ⟨b, cs, .out⟩) w l K
      | _ => expose s w l K)
    | _ => expose s w l K

/-- The boxes that this frame may still write. -/
def liveB : List Nat → List (Nat × Bx) → List Nat
  | _, [] => []
  | seen, (d, ⟨b, _, m⟩) :: l =>
    match seen.contains d, m with
    | false, .rw => b :: liveB (d :: seen) l
    | _, _ => liveB (d :: seen) l
def keepP (s : S) (w w' : World) (K : Prop) : Prop := match liveB [] s.bx ++ s.ro with | [] => (fun _ => K) hh160 | bs => Keeps bs w w' ∧ K

def step1 (cx : Cx) (s : S) (o : Oper) (w : World) (K : S → World → Prop) : Prop :=
  match sem1 cx s o with
  | .pure V => V fun x => K (s.putO o.dst x) w
  | .read R => R w fun x => K (s.putO o.dst x) w
  | .box cs => match o.dst with
    | some d => ∀ b w', Ext w w' → w.heap.size ≤ b → b < w'.heap.size → K (s.newbox d b cs) w'
    | none => False
  | .new N => N w fun x w' => K (s.putO o.dst x) w'
  | .big B => B w fun x w' => keepP s w w' (K (s.putO o.dst x) w')
  | .lst d b cs => ∀ w', Off b w w' → K ((s.setbox d ⟨b, cs, .rw⟩).putO o.dst (.v undef)) w'
  | .call f xs => cx.O f cx.CV xs (fun x w' => keepP s w w' (K (s.putO o.dst (.v x)) w')) w
  | .callV v vs r => cx.CV v vs (fun x w' => exVs r fun us => x = tup us ∧ keepP s w w' (K (s.putO o.dst (.v (tup us))) w')) w
  | .yield E _ vs => E vs (fun b w' => keepP s w w' (K (s.putO o.dst (.v (.bool b))) w')) w
  | .bad => FalseH

/-- The slot of an operation's guard. -/
def gslot (all : Array Oper) (j : Nat) : Option Nat := match all[j]? with | some o => o.dst | none => none

def guarded (all : Array Oper) (s : S) (o : Oper) (run skip : S → Prop) : Prop :=
  match o.guard with
  | none => run s
  | some (j, want) => match gslot all j with
    | some g => (match find s.sl g with
      | some (.v (.bool b)) => (match b with
        | true => (match want with | true => run (s.put g (.v (.bool true))) | false => skip (s.put g (.v (.bool true))))
        | false => (match want with | true => skip (s.put g (.v (.bool false))) | false => run (s.put g (.v (.bool false)))))
      | some (.v (.tuple ⟨[]⟩)) => skip (s.put g (.v undef))
      | _ => FalseH)
    | none => FalseH

def dstOk (n : Nat) : Option Nat → Bool
  | some d => Nat.blt d n
  | none => true

def denOps (cx : Cx) (n : Nat) (all : Array Oper) : List Oper → S → World → (S → World → Prop) → Prop
  | [], s, w, K => K s w
  | o :: l, s, w, K =>
    match dstOk n o.dst with
    | true => guarded all s o
        (fun s => expose s w (escapes o.op) fun s => step1 cx s o w fun s' w' => denOps cx n all l s' w' K)
        (fun s => denOps cx n all l (s.putO o.dst (.v undef)) w K)
    | false => False

/-- A box is read that no box of D is; those of D are still our own. -/
def locB (s : S) (D : List Nat) (o : Oper) : Bool :=
  match o.op with
  | .load _ a => (match ev s a with
    | some (.loc d' _) => (match find s.bx d' with
      | some ⟨_, _, .out⟩ => false
      | some _ => D.all fun d => match Nat.beq d d', find s.bx d with | false, some ⟨_, _, .rw⟩ => true | _, _ => false
      | none => false)
    | _ => false)
  | _ => false

/-- What was read, and may be read later as well. -/
inductive Gd where
  | mem (g : World → Prop)
  | box (d : Nat)
  | dead
/-- A load through a pointer (none), or of a box of our own. -/
def rdB (s : S) (o : Oper) : Option (Option Nat) :=
  match o.op with
  | .load _ a => (match ev s a with
    | some (.v (.pointer (some _))) => some none
    | some (.loc d _) => (match find s.bx d with | some ⟨_, _, .out⟩ => some none | some _ => some (some d) | none => none)
    | _ => none)
  | _ => none
def eqX (x y : X) : Prop := match x, y with | .v a, .v b => b = a | _, _ => False
/-- .. is as it was, for whoever does not lean upon who read it. -/
def guards (ms : List Nat) (i : Nat) (s : S) (w : World) : List (Nat × Gd) → Prop → Prop
  | [], K => (fun _ => K) hh160
  | (j, g) :: gs, K => match (ms.getD i 0).testBit j with
    | true => guards ms i s w gs K
    | false => match g with
      | .mem g => g w ∧ guards ms i s w gs K
      | .box d => (match find s.bx d with | some ⟨_, _, .out⟩ => FalseH | some _ => guards ms i s w gs K | none => FalseH)
      | .dead => FalseH
def freeG (d : Nat) : List (Nat × Gd) → Bool
  | [] => true
  | (_, .mem _) :: gs => freeG d gs
  | (_, .box d') :: gs => match Nat.beq d d' with | true => false | false => freeG d gs
  | (_, .dead) :: gs => freeG d gs
def killG (d : Nat) : List (Nat × Gd) → List (Nat × Gd)
  | [] => []
  | (j, .mem g) :: gs => (j, .mem g) :: killG d gs
  | (j, .box d') :: gs => match Nat.beq d d' with | true => (j, .dead) :: killG d gs | false => (j, .box d') :: killG d gs
  | (j, .dead) :: gs => (j, .dead) :: killG d gs

/-- make([]T, n, c) of known sizes. -/
def mksOf (cx : Cx) (s : S) (o : Oper) : Option (Nat × List Value × Int × Int) := match o.op with
  | .makeSlice t l c => (match elB cx.P t, ev s l, ev s c with
    | some (_, bytes, z), some (.v (.int _ n)), some (.v (.int _ m)) => some (bytes, z, n, m)
    | _, _, _ => none)
  | _ => none

/-- .. in a region that draws its order: the world is one that grew out of the known one. -/
def step1D (cx : Cx) (D : List Nat) (ms : List Nat) (i : Nat) (kd : Kd) (gs : List (Nat × Gd)) (Z : Nat → Prop) (s : S) (o : Oper) (w : World) (K : List (Nat × Gd) → (Nat → Prop) → S → World → Prop) : Prop :=
  match kd, sem1 cx s o with
  | .pure, .pure V => V fun x => K gs Z (s.putO o.dst x) w
  | .quiet, .read R => R w fun x => K gs Z (s.putO o.dst x) w
  | .quiet, .call f xs => cx.Q f cx.CV xs w fun x => K gs Z (s.putO o.dst (.v x)) w
  | .quiet, .callV v vs r => QuietV cx.CV v vs w fun x => exVs r fun us => x = tup us ∧ K gs Z (s.putO o.dst (.v (tup us))) w
  | .rd, .read R => (match rdB s o with
    | some none => R w fun x => K ((i, .mem (fun w' => R w' (eqX x))) :: gs) Z (s.putO o.dst x) w
    | some (some d) => R w fun x => K ((i, .box d) :: gs) Z (s.putO o.dst x) w
    | none => FalseH)
  | .loc, .read R => (match locB s D o with | true => R w fun x => K gs Z (s.putO o.dst x) w | false => False)
  | .lst, .lst d b cs => (match D.contains d && freeG d gs with | true => ∀ w1, Ext w w1 → ∀ w', Off b w1 w' → K gs (fun _ => False) ((s.setbox d ⟨b, cs, .rw⟩).putO o.dst (.v undef)) w' | false => False)
  | .new, .box cs => match o.dst with
    | some d => (match freeG d gs with | true => ∀ b w', Ext w w' → w.heap.size ≤ b → b < w'.heap.size → K gs (zX (zI Z w w') b) (s.newbox d b cs) w' | false => FalseH)
    | none => False
  | .alc, .box cs => match o.dst with
    | some d => (match freeG d gs with | true => ∀ b w', Ext w w' → (Z b ∨ w.heap.size ≤ b) → b < w'.heap.size → K gs (zX (zI Z w w') b) (s.newbox d b cs) w' | false => FalseH)
    | none => False
  | .new, .new N => ∀ w1, Ext w w1 → N w1 fun x w' => K gs (zI Z w w1) (s.putO o.dst x) w'
  | .alc, .new _ => (match mksOf cx s o with
    | some (bytes, z, n, c) => MkA bytes z n c Z w fun b w' => K gs (zX (zI Z w w') b) (s.putO o.dst (.v (.slice (some ⟨b, 0, none⟩) n.toNat c.toNat))) w'
    | none => FalseH)
  | .big, .big B => ∀ w1, Ext w w1 → B w1 fun x w' => keepP s w1 w' (guards ms i s w' gs (K gs (fun _ => False) (s.putO o.dst x) w'))
  | .big, .lst d b cs => ∀ w1, Ext w w1 → ∀ w', Off b w1 w' → guards ms i (s.setbox d ⟨b, cs, .rw⟩) w' (killG d gs) (K (killG d gs) (fun _ => False) ((s.setbox d ⟨b, cs, .rw⟩).putO o.dst (.v undef)) w')
  | .big, .call f xs => ∀ w1, Ext w w1 → cx.O f cx.CV xs (fun x w' => keepP s w1 w' (guards ms i s w' gs (K gs (fun _ => False) (s.putO o.dst (.v x)) w'))) w1
  | .big, .callV v vs r => ∀ w1, Ext w w1 → cx.CV v vs (fun x w' => exVs r fun us => x = tup us ∧ keepP s w1 w' (guards ms i s w' gs (K gs (fun _ => False) (s.putO o.dst (.v (tup us))) w'))) w1
  | .bigz, .call f xs => ∀ w1, Ext w w1 → cx.O f cx.CV xs (fun x w' => KeepZ (zI Z w w1) w1 w' ∧ keepP s w1 w' (guards ms i s w' gs (K gs (zI Z w w1) (s.putO o.dst (.v x)) w'))) w1
  | .bigz, .big B => ∀ w1, Ext w w1 → B w1 fun x w' => KeepZ (zI Z w w1) w1 w' ∧ keepP s w1 w' (guards ms i s w' gs (K gs (zI Z w w1) (s.putO o.dst x) w'))
  | _, _ => FalseH

def denDraw (cx : Cx) (n : Nat) (all : Array Oper) (ms : List Nat) (D : List Nat) (kd : List Kd) : List Nat → List (Nat × Gd) → (Nat → Prop) → S → World → (S → World → Prop) → Prop
  | [], _, _, s, w, K => ∀ w', Ext w w' → K s w'
  | i :: l, gs, Z, s, w, K =>
    match all[i]? with
    | some o => (match dstOk n o.dst with
      | true => guarded all s o
          (fun s => expose s w (escapes o.op) fun s => step1D cx D ms i (kd.getD i .big) gs Z s o w fun gs Z s' w' => denDraw cx n all ms D kd l gs Z s' w' K)
          (fun s => denDraw cx n all ms D kd l gs Z (s.putO o.dst (.v undef)) w K)
      | false => False)
    | none => False

/-! ### Code -/
inductive LV where
  | slot (t : Nat) (σ : Shp)
  | box (d : Nat) (σs : List Shp)
  | nbox (d : Nat) (σs : List Shp)

@[reducible] def ShpsT : List Shp → Type
  | [] => Unit
  | σ :: l => σ.T × ShpsT l
@[reducible] def LV.T : LV → Type
  | .slot _ σ => σ.T
  | .box _ σs => ShpsT σs
  | .nbox _ σs => Nat × ShpsT σs
@[reducible] def Tup : List LV → Type
  | [] => Unit
  | x :: l => x.T × Tup l

def encs : (l : List Shp) → ShpsT l → List Value
  | [], _ => []
  | σ :: l, x => σ.enc x.1 :: encs l x.2
def decs : (l : List Shp) → List Value → Option (ShpsT l)
  | [], [] => some ()
  | σ :: l, v :: vs => match σ.dec v, decs l vs with | some x, some xs => some (x, xs) | _, _ => none
  | _, _ => none

def app : (lv : List LV) → S → (Tup lv → Prop) → Prop
  | [], _, f => f ()
  | .slot t σ :: l, s, f => match find s.sl t with
    | some (.v v) => (match σ.dec v with | some x => app l s fun r => f (x, r) | none => False)
    | _ => False
  | .box d σs :: l, s, f => match find s.bx d with
    | some ⟨_, cs, .rw⟩ => (match decs σs cs with | some xs => app l s fun r => f (xs, r) | none => False)
    | _ => False
  | .nbox d σs :: l, s, f => match find s.sl d, find s.bx d with
    | some (.loc d' 0), some ⟨b, cs, .rw⟩ => (match Nat.beq d d', decs σs cs with | true, some xs => app l s fun r => f ((b, xs), r) | _, _ => False)
    | _, _ => False

def bindSl : (lv : List LV) → Tup lv → List (Nat × X)
  | [], _ => []
  | .slot t σ :: l, x => (t, .v (σ.enc x.1)) :: bindSl l x.2
  | .box _ _ :: l, x => bindSl l x.2
  | .nbox d _ :: l, x => (d, .loc d 0) :: bindSl l x.2
def bindBx (bx : List (Nat × Bx)) (wr : List Nat) : (lv : List LV) → Tup lv → List (Nat × Bx)
  | [], _ => []
  | .slot _ _ :: l, x => bindBx bx wr l x.2
  | .box d σs :: l, x => match wr.contains d, find bx d with
    | false, some ⟨b, _, _⟩ => (d, ⟨b, encs σs x.1, .rw⟩) :: bindBx bx wr l x.2
    | _, _ => bindBx bx wr l x.2
  | .nbox d σs :: l, x => (d, ⟨x.1.1, encs σs x.1.2, .rw⟩) :: bindBx bx wr l x.2
def inLV (lv : List LV) (d : Nat) : Bool := lv.any fun | .slot .. => false | .box d' _ => Nat.beq d d' | .nbox d' _ => Nat.beq d d'
def isN (lv : List LV) (d : Nat) : Bool := lv.any fun | .nbox d' _ => Nat.beq d d' | _ => false
def bind (lv : List LV) (t : Tup lv) (s : S) (wr dr : List Nat) : S :=
  { sl := bindSl lv t ++ kill (fun d => wr.contains d || dr.contains d || isN lv d) (s.sl.filter fun e => !(wr.contains e.1))
    bx := bindBx s.bx wr lv t ++ s.bx.filter fun e => !(wr.contains e.1) && !(dr.contains e.1) && !(inLV lv e.1)
    ro := s.ro
    df := s.df }

def dstsOf (ops : Array Oper) : List Nat := ops.toList.filterMap (·.dst)
def writes : Code → List Nat
  | .region _ ops _ => dstsOf ops
  | .seq a b => writes a ++ writes b
  | .cond _ a b => writes a ++ writes b
  | .block _ a => writes a
  | .loop a => writes a
  | .scope a => writes a
  | .rangeFunc _ ps a b => ps.toList ++ writes a ++ writes b
  | _ => []

inductive Ex where
  | nrm | exit (id : Nat) | goto (l : Nat) | ret
def Ex.code : Ex → Code
  | .nrm => .skip
  | .exit id => .exit id
  | .goto l => .goto l
  | .ret => .ret

inductive Plan where
  | o
  | draw (D : List Nat) (kd : List Kd) (ord : List Nat)
  | seq (a b : Plan)
  | join (lv : List LV) (dr : List Nat) (a b : Plan)
  | cond (a b : Plan)
  | block (a : Plan)
  | loop (lv : List LV) (dr : List Nat) (a : Plan)
  | exp (ds : List Nat) (a : Plan)
  | scope (a : Plan)
  | rng (ds : List Nat) (es : List Ex) (a b : Plan)

def roIds (lv : List LV) (dr : List Nat) : List Nat → List (Nat × Bx) → List Nat
  | _, [] => []
  | seen, (d, ⟨b, _, m⟩) :: l =>
    match seen.contains d || inLV lv d || dr.contains d, m with
    | false, .rw => b :: roIds lv dr (d :: seen) l
    | _, _ => roIds lv dr (d :: seen) l
def innM (m : BM) (free : Bool) : BM := match free, m with | false, .rw => .ro | _, m => m
/-- Inside: boxes that are neither told anew nor forgotten are only read. -/
def S.inner (s : S) (lv : List LV) (dr : List Nat) : S :=
  { s with bx := s.bx.map (fun e => (e.1, { e.2 with m := innM e.2.m (inLV lv e.1 || dr.contains e.1) })), ro := roIds lv dr [] s.bx ++ s.ro }

def restM (m : BM) (wr : Bool) (o : Option Bx) : BM :=
  match m, wr, o with
  | .ro, false, some ⟨_, _, .rw⟩ => .rw
  | .ro, false, some ⟨_, _, .ro⟩ => .ro
  | .ro, _, _ => .out
  | m, _, _ => m
/-- Behind it: as they were ahead. -/
def S.restore (s : S) (wr : List Nat) (s' : S) : S :=
  { s' with bx := s'.bx.map (fun e => (e.1, { e.2 with m := restM e.2.m (wr.contains e.1) (find s.bx e.1) })), ro := s.ro }

/-- As many marks as ahead. -/
def dfOk (s s' : S) (p : Prop) : Prop := match Nat.beq s'.df.length s.df.length with | true => p | false => False

/-- Boxes that have been given out are pointers. -/
def ptrs (bx : List (Nat × Bx)) : List (Nat × X) → List (Nat × X)
  | [] => []
  | (t, x) :: l => match x with
    | .loc d off => (match find bx d with
      | some ⟨b, _, .out⟩ => (t, .v (.pointer (some ⟨b, off, none⟩))) :: ptrs bx l
      | _ => (t, .bad) :: ptrs bx l)
    | x => (t, x) :: ptrs bx l
def bindPs : List Nat → List Value → List (Nat × X) → Option (List (Nat × X))
  | [], [], sl => some sl
  | p :: ps, v :: vs, sl => bindPs ps vs ((p, .v v) :: sl)
  | _, _, _ => none
def orE (f : Ex → Prop) : List Ex → Prop
  | [] => False
  | [e] => f e
  | e :: l => f e ∨ orE f l
/-- How a loop over a function is left. -/
def afterR (es : List Ex) (l : Nat) (w1 w7 : World) (K : Ex → World → Prop) : Prop :=
  (w7.heap[l]? = w1.heap[l]? ∧ ∀ w8, Off l w7 w8 → K .nrm w8) ∨ orE (fun e => Pend l e.code w1 w7 ∧ ∀ w8, Off l w7 w8 → K e w8) es
def notNrm : Ex → Bool | .nrm => false | _ => true
def okPs (n : Nat) (ps : List Nat) : Bool := ps.all fun p => Nat.blt p n

def den (cx : Cx) (n : Nat) : Plan → Code → S → World → (Ex → S → World → Prop) → Prop
  | .exp ds p, c, s, w, K => expose s w (ds.map .tmp) fun s => den cx n p c s w K
  | .o, .region _ ops false, s, w, K => denOps cx n ops ops.toList s w (K .nrm)
  | .o, .skip, s, w, K => K .nrm s w
  | .o, .label _, s, w, K => K .nrm s w
  | .o, .exit id, s, w, K => K (.exit id) s w
  | .o, .goto l, s, w, K => K (.goto l) s w
  | .o, .ret, s, w, K => K .ret s w
  | .draw D kd ord, .region _ ops true, s, w, K =>
    (match okB ops (fun i => kd.getD i .big) ord && Nat.beq ord.length ops.size && D.all (fun d => !(dstsOf ops).contains d) with | true => denDraw cx n ops (masksFrom ops.toList []) D kd ord [] (fun _ => False) s w (K .nrm) | false => False)
  | .seq p q, .seq a b, s, w, K => den cx n p a s w fun e s' w' => match e with | .nrm => den cx n q b s' w' K | e => K e s' w'
  | .join lv dr p q, .seq a b, s, w, K =>
    Join (Tup lv) (fun J => den cx n p a (s.inner lv dr) w fun e s' w' => dfOk s s' (match e with | .nrm => app lv s' fun t => J t w' | e => K e (s.restore (writes a) s') w'))
      (fun t w' => den cx n q b (bind lv t s (writes a) dr) w' K)
  | .cond p q, .cond c a b, s, w, K => (match ev s c with | some (.v (.bool t)) => (match t with | true => den cx n p a s w K | false => den cx n q b s w K) | _ => False)
  | .scope p, .scope a, s, w, K => (match cx.top with | true => den cx n p a s w fun e s' w' => (match e with | .goto _ => False | e => K e s' w') | false => False)
  | .block p, .block id a, s, w, K => den cx n p a s w fun e s' w' => match e with
    | .exit j => (match Nat.beq j id with | true => K .nrm s' w' | false => K (.exit j) s' w')
    | e => K e s' w'
  | .loop lv dr p, .loop a, s, w, K =>
    app lv (s.inner lv dr) fun t0 => LoopT (Tup lv) (fun t again w' => den cx n p a (bind lv t (s.inner lv dr) (writes a) dr) w' fun e s' w'' => dfOk s s' (match e with
        | .nrm => app lv s' fun t' => again t' w''
        | e => K e (s.restore (writes a) s') w'')) t0 w
  | .rng ds es p q, .rangeFunc g ps assign body, s, w, K => (match cx.top && es.all notNrm && okPs n ps.toList, ev s g with
    | true, some (.v (.func (.func gf) first cap)) => (match first.toList, noBodyB cx.P gf with
      | [], true => expose s w (ds.map .tmp) fun s1 => ∀ D l w1, Ext w w1 → w.heap.size ≤ D → D < l → l < w1.heap.size →
        cx.O gf cx.CV (.yl (.func (.yield l) #[] #[]) (fun vs Ky w2 => w2.heap[l]? = w1.heap[l]? ∧ match bindPs ps.toList vs (ptrs s1.bx s1.sl) with
            | some sl => den { cx with top := false } n p assign ⟨sl, [], [l], []⟩ w2 fun e s3 w3 => (match e with
              | .nrm => dfOk ⟨sl, [], [l], []⟩ s3 (∀ w4, Off l w3 w4 → den { cx with top := false } n q body ⟨kill (fun _ => true) s3.sl, [], [l], []⟩ w4 fun e _ w5 => ∀ w6, Off l w5 w6 → (match e with
                | .nrm => w6.heap[l]? = w1.heap[l]? → Ky true w6
                | e => Pend l e.code w1 w6 → Ky false w6))
              | _ => False)
            | none => False) :: cap.toList.map .v)
          (fun _ w7 => Keeps (D :: s1.ro) w1 w7 ∧ afterR es l w1 w7 fun e w8 => K e ⟨ptrs s1.bx s1.sl, [], D :: s1.ro, D :: s1.df⟩ w8) w1
      | _, _ => False)
    | _, _ => False)
  | _, _, _, _, _ => False

/-! ### A function -/
def rets (cx : Cx) (s : S) (w : World) : List ResultVar → (List Value → Prop) → Prop
  | [], K => K []
  | .tmp t :: l, K => (match evv s (.tmp t) with | some v => rets cx s w l fun vs => K (v :: vs) | none => False)
  | .cell a t :: l, K => (match sem1 cx s { dst := none, op := .load t (.tmp a), type := t, pos := "", after := #[], guard := none } with
    | .read R => R w fun x => (match valOf x with | some v => rets cx s w l fun vs => K (v :: vs) | none => False)
    | _ => False)
def resOps : List ResultVar → List Operand
  | [] => []
  | .tmp t :: l => .tmp t :: resOps l
  | .cell _ _ :: l => resOps l
def argSlX : Nat → List X → List (Nat × X)
  | _, [] => []
  | i, v :: l => (i, v) :: argSlX (i + 1) l
/-- The marks are taken off. -/
def offs : List Nat → World → (World → Prop) → Prop
  | [], w, K => K w
  | D :: l, w, K => ∀ w', Off D w w' → offs l w' K
def denF (cx : Cx) (fn : Func) (plan : Plan) (args : List X) (w : World) (R : Value → World → Prop) : Prop :=
  match fn.body with
  | some c => den cx fn.ntmps plan c ⟨argSlX 0 args, [], [], []⟩ w fun e s w' =>
    match e with
    | .nrm => expose s w' (resOps fn.results.toList) fun s => offs s.df w' fun w' => rets cx ⟨s.sl, s.bx, s.ro, []⟩ w' fn.results.toList fun vs => R (tup vs) w'
    | .ret => expose s w' (resOps fn.results.toList) fun s => offs s.df w' fun w' => rets cx ⟨s.sl, s.bx, s.ro, []⟩ w' fn.results.toList fun vs => R (tup vs) w'
    | _ => False
  | none => False
end Go.Sh
