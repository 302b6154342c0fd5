/- Shallow definitions, printed by gen.py of these sessions. -/
import Derived.Test.YthpbelgmppaafaaPrim
set_option maxRecDepth 100000
set_option linter.unusedVariables false
namespace Go.Sh
def fn_cmp_isNaN_int : FuncId := 74
/-- cmp.isNaN[int] -/
def sh_cmp_isNaN_int (x0 : Int) (K : Bool → World → Prop) (w : World) : Prop :=
  (K (x0 != x0) w)

def fn_cmp_Compare_int : FuncId := 73
/-- cmp.Compare[int] -/
def sh_cmp_Compare_int (x0 : Int) (y0 : Int) (K : Int → World → Prop) (w : World) : Prop :=
  (sh_cmp_isNaN_int x0 (fun t1 w2 =>
  (sh_cmp_isNaN_int y0 (fun t3 w4 =>
  (cond t1 (cond t3 (K (0 : Int) w4) (K (-1 : Int) w4)) (cond t3 (K (1 : Int) w4) (cond (decide (x0 < y0)) (K (-1 : Int) w4) (cond (decide (x0 > y0)) (K (1 : Int) w4) (K (0 : Int) w4)))))) w2)) w)

def fn_cmp_Or_int : FuncId := 72
/-- cmp.Or[int] -/
def sh_cmp_Or_int (vals0 : SV) (K : Int → World → Prop) (w : World) : Prop :=
  (LoopT (Int × Unit) (fun t2 again1 w3 =>
  (cond (decide (t2.1 < (vals0.len : Int))) (Idx vals0.a vals0.len t2.1 1 (fun a4 =>
  (∃ x5 : Int, w3.cell? a4 = some (.int .i64 x5) ∧
  (cond (x5 != (0 : Int)) (K x5 w3) (again1 ((IntKind.i64.wrap (t2.1 + (1 : Int))), ()) w3))))) (K (0 : Int) w3))) ((0 : Int), ()) w)

def fn_heap_entry_before : FuncId := 71
/-- (postroad/heap.entry[int]).before -/
def sh_heap_entry_before (e0_id : Int) (e0_key : Int) (f0_id : Int) (f0_key : Int) (K : Bool → World → Prop) (w : World) : Prop :=
  (∀ b1 w2, Ext w w2 → w.heap.size ≤ b1 → b1 < w2.heap.size →
  (∀ b3 w4, Ext w2 w4 → w2.heap.size ≤ b3 → b3 < w4.heap.size →
  (Quiet (Int) (fun r6 =>
  (.int .i64 r6)) (fun K7 w8' => sh_cmp_Compare_int e0_key f0_key (fun x5 w8 => K7 x5 w8) w8') w4 (fun r6 =>
  (Quiet (Int) (fun r10 =>
  (.int .i64 r10)) (fun K11 w12' => sh_cmp_Compare_int e0_id f0_id (fun x9 w12 => K11 x9 w12) w12') w4 (fun r10 =>
  (∀ w13, Ext w4 w13 →
  (NewB [(.int .i64 r6), (.int .i64 r10)] w13 (fun b14 w15 =>
  (Quiet (Int) (fun r17 =>
  (.int .i64 r17)) (fun K18 w19' => sh_cmp_Or_int (⟨(some ⟨b14, 0, none⟩), 2, 2⟩) (fun x16 w19 => K18 x16 w19) w19') w15 (fun r17 =>
  (∀ w20, Ext w15 w20 →
  (K (decide (r17 < (0 : Int))) w20)))))))))))))

def fn_heap_queue_lay : FuncId := 68
/-- (*postroad/heap.queue[int]).lay -/
def sh_heap_queue_lay (q0 : Option Addr) (i0 : Int) (e0_id : Int) (e0_key : Int) (K : World → Prop) (w : World) : Prop :=
  (∀ b1 w2, Ext w w2 → w.heap.size ≤ b1 → b1 < w2.heap.size →
  (Nn q0 (fun a3 =>
  (∃ s4 : SV, w2.cell? (a3.add 0) = some (.slice s4.a s4.len s4.cap) ∧
  (Idx s4.a s4.len i0 2 (fun a5 =>
  (∀ w6, Ext w2 w6 →
  (stL w6 a5 [(.int .i64 e0_id), (.int .i64 e0_key)] 0 (fun w7 =>
  (Keeps [b1] w6 w7 ∧
  (∀ w8, Ext w7 w8 →
  (Nn q0 (fun a9 =>
  (∃ s10 : SV, w8.cell? (a9.add 1) = some (.slice s10.a s10.len s10.cap) ∧
  (Idx s10.a s10.len e0_id 1 (fun a11 =>
  (∀ w12, Ext w8 w12 →
  (stL w12 a11 [(.int .i64 (IntKind.i64.wrap (i0 + (1 : Int))))] 0 (fun w13 =>
  (Keeps [b1] w12 w13 ∧
  (∀ w14, Ext w13 w14 →
  (K w14))))))))))))))))))))))

def fn_heap_queue_rise : FuncId := 70
/-- (*postroad/heap.queue[int]).rise -/
def sh_heap_queue_rise (q0 : Option Addr) (i0 : Int) (K : World → Prop) (w : World) : Prop :=
  (Nn q0 (fun a1 =>
  (∃ s2 : SV, w.cell? (a1.add 0) = some (.slice s2.a s2.len s2.cap) ∧
  (Idx s2.a s2.len i0 2 (fun a3 =>
  (∃ x4 : Int, w.cell? (a3.add 0) = some (.int .i64 x4) ∧ ∃ x5 : Int, w.cell? (a3.add 1) = some (.int .i64 x5) ∧
  (∀ b6 w7, Ext w w7 → w.heap.size ≤ b6 → b6 < w7.heap.size →
  (∀ w8, Off b6 w7 w8 →
  (Join (Int × Unit) (fun J9 =>
  (LoopT (Int × Unit) (fun t11 again10 w12 =>
  (cond (decide (t11.1 > (0 : Int))) (Nn q0 (fun a13 =>
  (∃ s14 : SV, w12.cell? (a13.add 0) = some (.slice s14.a s14.len s14.cap) ∧
  (Idx s14.a s14.len (IntKind.i64.wrap ((IntKind.i64.wrap (t11.1 - (1 : Int))).tdiv (2 : Int))) 2 (fun a15 =>
  (∃ x16 : Int, w12.cell? (a15.add 0) = some (.int .i64 x16) ∧ ∃ x17 : Int, w12.cell? (a15.add 1) = some (.int .i64 x17) ∧
  (Quiet (Bool) (fun r19 =>
  (.bool r19)) (fun K20 w21' => sh_heap_entry_before x4 x5 x16 x17 (fun t18 w21 => K20 t18 w21) w21') w12 (fun r19 =>
  (∀ w22, Ext w12 w22 →
  (cond r19 (Nn q0 (fun a23 =>
  (∃ s24 : SV, w22.cell? (a23.add 0) = some (.slice s24.a s24.len s24.cap) ∧
  (Idx s24.a s24.len (IntKind.i64.wrap ((IntKind.i64.wrap (t11.1 - (1 : Int))).tdiv (2 : Int))) 2 (fun a25 =>
  (∃ x26 : Int, w22.cell? (a25.add 0) = some (.int .i64 x26) ∧ ∃ x27 : Int, w22.cell? (a25.add 1) = some (.int .i64 x27) ∧
  (sh_heap_queue_lay q0 t11.1 x26 x27 (fun w28 =>
  (Keeps [b6] w22 w28 ∧
  (again10 ((IntKind.i64.wrap ((IntKind.i64.wrap (t11.1 - (1 : Int))).tdiv (2 : Int))), ()) w28))) w22))))))) (J9 (t11.1, ()) w22))))))))))) (∀ w29, Ext w12 w29 →
  (J9 (t11.1, ()) w29)))) (i0, ()) w8))
  (fun t30 w31 =>
  (sh_heap_queue_lay q0 t30.1 x4 x5 (fun w32 =>
  (Keeps [b6] w31 w32 ∧
  (K w32))) w31)))))))))))

def fn_heap_queue_sink : FuncId := 69
/-- (*postroad/heap.queue[int]).sink -/
def sh_heap_queue_sink (q0 : Option Addr) (i0 : Int) (K : World → Prop) (w : World) : Prop :=
  (Nn q0 (fun a1 =>
  (∃ s2 : SV, w.cell? (a1.add 0) = some (.slice s2.a s2.len s2.cap) ∧
  (Idx s2.a s2.len i0 2 (fun a3 =>
  (∃ x4 : Int, w.cell? (a3.add 0) = some (.int .i64 x4) ∧ ∃ x5 : Int, w.cell? (a3.add 1) = some (.int .i64 x5) ∧
  (∀ b6 w7, Ext w w7 → w.heap.size ≤ b6 → b6 < w7.heap.size →
  (∀ w8, Off b6 w7 w8 →
  (Join (Int × Unit) (fun J9 =>
  (LoopT (Int × Unit) (fun t11 again10 w12 =>
  (Join (Int × Unit) (fun J13 =>
  (Nn q0 (fun a14 =>
  (∃ s15 : SV, w12.cell? (a14.add 0) = some (.slice s15.a s15.len s15.cap) ∧
  (cond (decide ((IntKind.i64.wrap ((IntKind.i64.wrap ((IntKind.i64.wrap ((2 : Int) * t11.1)) + (1 : Int))) + (1 : Int))) < (s15.len : Int))) (Nn q0 (fun a16 =>
  (∃ s17 : SV, w12.cell? (a16.add 0) = some (.slice s17.a s17.len s17.cap) ∧
  (Idx s17.a s17.len (IntKind.i64.wrap ((IntKind.i64.wrap ((IntKind.i64.wrap ((2 : Int) * t11.1)) + (1 : Int))) + (1 : Int))) 2 (fun a18 =>
  (∃ x19 : Int, w12.cell? (a18.add 0) = some (.int .i64 x19) ∧ ∃ x20 : Int, w12.cell? (a18.add 1) = some (.int .i64 x20) ∧
  (Nn q0 (fun a21 =>
  (∃ s22 : SV, w12.cell? (a21.add 0) = some (.slice s22.a s22.len s22.cap) ∧
  (Idx s22.a s22.len (IntKind.i64.wrap ((IntKind.i64.wrap ((2 : Int) * t11.1)) + (1 : Int))) 2 (fun a23 =>
  (∃ x24 : Int, w12.cell? (a23.add 0) = some (.int .i64 x24) ∧ ∃ x25 : Int, w12.cell? (a23.add 1) = some (.int .i64 x25) ∧
  (Quiet (Bool) (fun r27 =>
  (.bool r27)) (fun K28 w29' => sh_heap_entry_before x19 x20 x24 x25 (fun t26 w29 => K28 t26 w29) w29') w12 (fun r27 =>
  (∀ w30, Ext w12 w30 →
  (cond r27 (J13 ((IntKind.i64.wrap ((IntKind.i64.wrap ((IntKind.i64.wrap ((2 : Int) * t11.1)) + (1 : Int))) + (1 : Int))), ()) w30) (J13 ((IntKind.i64.wrap ((IntKind.i64.wrap ((2 : Int) * t11.1)) + (1 : Int))), ()) w30))))))))))))))))) (∀ w31, Ext w12 w31 →
  (J13 ((IntKind.i64.wrap ((IntKind.i64.wrap ((2 : Int) * t11.1)) + (1 : Int))), ()) w31)))))))
  (fun t32 w33 =>
  (Nn q0 (fun a34 =>
  (∃ s35 : SV, w33.cell? (a34.add 0) = some (.slice s35.a s35.len s35.cap) ∧
  (cond (decide (t32.1 ≥ (s35.len : Int))) (∀ w36, Ext w33 w36 →
  (J9 (t11.1, ()) w36)) (Nn q0 (fun a37 =>
  (∃ s38 : SV, w33.cell? (a37.add 0) = some (.slice s38.a s38.len s38.cap) ∧
  (Idx s38.a s38.len t32.1 2 (fun a39 =>
  (∃ x40 : Int, w33.cell? (a39.add 0) = some (.int .i64 x40) ∧ ∃ x41 : Int, w33.cell? (a39.add 1) = some (.int .i64 x41) ∧
  (Quiet (Bool) (fun r43 =>
  (.bool r43)) (fun K44 w45' => sh_heap_entry_before x4 x5 x40 x41 (fun t42 w45 => K44 t42 w45) w45') w33 (fun r43 =>
  (∀ w46, Ext w33 w46 →
  (cond r43 (J9 (t11.1, ()) w46) (Nn q0 (fun a47 =>
  (∃ s48 : SV, w46.cell? (a47.add 0) = some (.slice s48.a s48.len s48.cap) ∧
  (Idx s48.a s48.len t32.1 2 (fun a49 =>
  (∃ x50 : Int, w46.cell? (a49.add 0) = some (.int .i64 x50) ∧ ∃ x51 : Int, w46.cell? (a49.add 1) = some (.int .i64 x51) ∧
  (sh_heap_queue_lay q0 t11.1 x50 x51 (fun w52 =>
  (Keeps [b6] w46 w52 ∧
  (again10 (t32.1, ()) w52))) w46)))))))))))))))))))))))) (i0, ()) w8))
  (fun t53 w54 =>
  (sh_heap_queue_lay q0 t53.1 x4 x5 (fun w55 =>
  (Keeps [b6] w54 w55 ∧
  (K w55))) w54)))))))))))

def fn_heap_queue_put : FuncId := 59
/-- (*postroad/heap.queue[int]).put -/
def sh_heap_queue_put (q0 : Option Addr) (id0 : Int) (key0 : Int) (K : World → Prop) (w : World) : Prop :=
  (Nn q0 (fun a1 =>
  (∃ s2 : SV, w.cell? (a1.add 1) = some (.slice s2.a s2.len s2.cap) ∧
  (Idx s2.a s2.len id0 1 (fun a3 =>
  (∃ x4 : Int, w.cell? a3 = some (.int .i64 x4) ∧
  (Join (Int × Unit) (fun J5 =>
  (cond (decide ((IntKind.i64.wrap (x4 - (1 : Int))) < (0 : Int))) (Nn q0 (fun a6 =>
  (∃ s7 : SV, w.cell? (a6.add 0) = some (.slice s7.a s7.len s7.cap) ∧
  (Nn q0 (fun a8 =>
  (∃ s9 : SV, w.cell? (a8.add 0) = some (.slice s9.a s9.len s9.cap) ∧
  (NewB [(.int .i64 (0 : Int)), (.int .i64 (0 : Int))] w (fun b10 w11 =>
  (App 16 [(.int .i64 (0 : Int)), (.int .i64 (0 : Int))] s9 ⟨(some ⟨b10, 0, none⟩), 1, 1⟩ w11 (fun s12 w13 =>
  (Nn q0 (fun a14 =>
  (stL w13 (a14.add 0) [(.slice s12.a s12.len s12.cap)] 0 (fun w15 =>
  (J5 ((s7.len : Int), ()) w15))))))))))))))) (J5 ((IntKind.i64.wrap (x4 - (1 : Int))), ()) w)))
  (fun t16 w17 =>
  (sh_heap_queue_lay q0 t16.1 id0 key0 (fun w18 =>
  (sh_heap_queue_sink q0 t16.1 (fun w19 =>
  (Nn q0 (fun a20 =>
  (∃ s21 : SV, w19.cell? (a20.add 1) = some (.slice s21.a s21.len s21.cap) ∧
  (Idx s21.a s21.len id0 1 (fun a22 =>
  (∃ x23 : Int, w19.cell? a22 = some (.int .i64 x23) ∧
  (sh_heap_queue_rise q0 (IntKind.i64.wrap (x23 - (1 : Int))) (fun w24 =>
  (K w24)) w19)))))))) w18)) w17)))))))))

def fn_heap_queue_drop : FuncId := 60
/-- (*postroad/heap.queue[int]).drop -/
def sh_heap_queue_drop (q0 : Option Addr) (id0 : Int) (K : World → Prop) (w : World) : Prop :=
  (Nn q0 (fun a1 =>
  (∃ s2 : SV, w.cell? (a1.add 1) = some (.slice s2.a s2.len s2.cap) ∧
  (Idx s2.a s2.len id0 1 (fun a3 =>
  (∃ x4 : Int, w.cell? a3 = some (.int .i64 x4) ∧
  (Nn q0 (fun a5 =>
  (∃ s6 : SV, w.cell? (a5.add 0) = some (.slice s6.a s6.len s6.cap) ∧
  (∀ w7, Ext w w7 →
  (Nn q0 (fun a8 =>
  (∃ s9 : SV, w7.cell? (a8.add 0) = some (.slice s9.a s9.len s9.cap) ∧
  (Idx s9.a s9.len (IntKind.i64.wrap ((s6.len : Int) - (1 : Int))) 2 (fun a10 =>
  (∃ x11 : Int, w7.cell? (a10.add 0) = some (.int .i64 x11) ∧ ∃ x12 : Int, w7.cell? (a10.add 1) = some (.int .i64 x12) ∧
  (∀ b13 w14, Ext w7 w14 → w7.heap.size ≤ b13 → b13 < w14.heap.size →
  (∀ w15, Off b13 w14 w15 →
  (Nn q0 (fun a16 =>
  (∃ s17 : SV, w15.cell? (a16.add 1) = some (.slice s17.a s17.len s17.cap) ∧
  (Nn q0 (fun a18 =>
  (∃ s19 : SV, w15.cell? (a18.add 0) = some (.slice s19.a s19.len s19.cap) ∧
  (semSlice 2 s19.a s19.len s19.cap none (some (IntKind.i64.wrap ((s6.len : Int) - (1 : Int)))) (fun s20 =>
  (Nn q0 (fun a21 =>
  (∀ w22, Ext w15 w22 →
  (stL w22 (a21.add 0) [(.slice s20.a s20.len s20.cap)] 0 (fun w23 =>
  (Keeps [b13] w22 w23 ∧
  (Idx s17.a s17.len id0 1 (fun a24 =>
  (∀ w25, Ext w23 w25 →
  (stL w25 a24 [(.int .i64 (0 : Int))] 0 (fun w26 =>
  (Keeps [b13] w25 w26 ∧
  (∀ w27, Ext w26 w27 →
  (cond (x11 == id0) (K w27) (sh_heap_queue_lay q0 (IntKind.i64.wrap (x4 - (1 : Int))) x11 x12 (fun w28 =>
  (Keeps [b13] w27 w28 ∧
  (sh_heap_queue_sink q0 (IntKind.i64.wrap (x4 - (1 : Int))) (fun w29 =>
  (Keeps [b13] w28 w29 ∧
  (Nn q0 (fun a30 =>
  (∃ s31 : SV, w29.cell? (a30.add 1) = some (.slice s31.a s31.len s31.cap) ∧
  (Idx s31.a s31.len x11 1 (fun a32 =>
  (∃ x33 : Int, w29.cell? a32 = some (.int .i64 x33) ∧
  (∀ w34, Ext w29 w34 →
  (sh_heap_queue_rise q0 (IntKind.i64.wrap (x33 - (1 : Int))) (fun w35 =>
  (Keeps [b13] w34 w35 ∧
  (∀ w36, Ext w35 w36 →
  (K w36)))) w34)))))))))) w28))) w27)))))))))))))))))))))))))))))))))))))))))

def fn_heap_New : FuncId := 28
/-- postroad/heap.New -/
def sh_heap_New (n0 : Int) (K : Option Addr → World → Prop) (w : World) : Prop :=
  (cond (decide (n0 < (0 : Int))) (K none w) (cond (decide (n0 > (16777216 : Int))) (K none w) (MkS 8 [(.int .i64 (0 : Int))] n0 n0 w (fun s1 w2 =>
  (∀ b3 w4, Ext w2 w4 → w2.heap.size ≤ b3 → b3 < w4.heap.size →
  (Blk w4 b3 [(.slice none 0 0), (.slice s1.a s1.len s1.cap)] →
  (K (some ⟨b3, 0, none⟩) w4)))))))

def fn_heap_Heap_may : FuncId := 58
/-- (*postroad/heap.Heap).may -/
def sh_heap_Heap_may (h0 : Option Addr) (id0 : Int) (K : Bool → World → Prop) (w : World) : Prop :=
  (cond (!h0.isNone) (cond (decide (id0 ≥ (0 : Int))) (Nn h0 (fun a1 =>
  (∃ s2 : SV, w.cell? ((a1.add 0).add 1) = some (.slice s2.a s2.len s2.cap) ∧
  (K (decide (id0 < (s2.len : Int))) w)))) (K false w)) (K false w))

def fn_heap_Heap_Set : FuncId := 29
/-- (*postroad/heap.Heap).Set -/
def sh_heap_Heap_Set (h0 : Option Addr) (id0 : Int) (key0 : Int) (K : Bool → World → Prop) (w : World) : Prop :=
  (sh_heap_Heap_may h0 id0 (fun t1 w2 => (cond (!t1) (K false w2) (Nn h0 (fun a3 => (sh_heap_queue_put (some (a3.add 0)) id0 key0 (fun w4 => (K true w4)) w2))))) w)

def fn_heap_Heap_Len : FuncId := 31
/-- (*postroad/heap.Heap).Len -/
def sh_heap_Heap_Len (h0 : Option Addr) (K : Int → World → Prop) (w : World) : Prop :=
  (cond h0.isNone (K (0 : Int) w) (Nn h0 (fun a1 => (∃ s2 : SV, w.cell? ((a1.add 0).add 0) = some (.slice s2.a s2.len s2.cap) ∧ (K (s2.len : Int) w)))))

def fn_heap_Heap_First : FuncId := 36
/-- (*postroad/heap.Heap).First -/
def sh_heap_Heap_First (h0 : Option Addr) (K : Int → Int → Bool → World → Prop) (w : World) : Prop :=
  (sh_heap_Heap_Len h0 (fun x1 w2 =>
  (cond (x1 == (0 : Int)) (K (0 : Int) (0 : Int) false w2) (Nn h0 (fun a3 =>
  (∃ s4 : SV, w2.cell? ((a3.add 0).add 0) = some (.slice s4.a s4.len s4.cap) ∧
  (Idx s4.a s4.len (0 : Int) 2 (fun a5 =>
  (∃ x6 : Int, w2.cell? (a5.add 0) = some (.int .i64 x6) ∧
  (Nn h0 (fun a7 =>
  (∃ s8 : SV, w2.cell? ((a7.add 0).add 0) = some (.slice s8.a s8.len s8.cap) ∧
  (Idx s8.a s8.len (0 : Int) 2 (fun a9 =>
  (∃ x10 : Int, w2.cell? (a9.add 1) = some (.int .i64 x10) ∧
  (∀ w11, Ext w2 w11 →
  (K x6 x10 true w11)))))))))))))))) w)

def fn_heap_Heap_Pop : FuncId := 30
/-- (*postroad/heap.Heap).Pop -/
def sh_heap_Heap_Pop (h0 : Option Addr) (K : Int → Int → Bool → World → Prop) (w : World) : Prop :=
  (sh_heap_Heap_First h0 (fun x1 x2 t3 w4 =>
  (Join (Unit) (fun J5 =>
  (cond t3 (Nn h0 (fun a6 =>
  (sh_heap_queue_drop (some (a6.add 0)) x1 (fun w7 =>
  (J5 () w7)) w4))) (J5 () w4)))
  (fun t8 w9 =>
  (K x1 x2 t3 w9)))) w)

def fn_heap_Heap_Key : FuncId := 35
/-- (*postroad/heap.Heap).Key -/
def sh_heap_Heap_Key (h0 : Option Addr) (id0 : Int) (K : Int → Bool → World → Prop) (w : World) : Prop :=
  (sh_heap_Heap_may h0 id0 (fun t1 w2 =>
  (cond (!t1) (K (0 : Int) false w2) (Nn h0 (fun a3 =>
  (∃ s4 : SV, w2.cell? ((a3.add 0).add 1) = some (.slice s4.a s4.len s4.cap) ∧
  (Idx s4.a s4.len id0 1 (fun a5 =>
  (∃ x6 : Int, w2.cell? a5 = some (.int .i64 x6) ∧
  (cond (x6 == (0 : Int)) (K (0 : Int) false w2) (Nn h0 (fun a7 =>
  (∃ s8 : SV, w2.cell? ((a7.add 0).add 0) = some (.slice s8.a s8.len s8.cap) ∧
  (Nn h0 (fun a9 =>
  (∃ s10 : SV, w2.cell? ((a9.add 0).add 1) = some (.slice s10.a s10.len s10.cap) ∧
  (Idx s10.a s10.len id0 1 (fun a11 =>
  (∃ x12 : Int, w2.cell? a11 = some (.int .i64 x12) ∧
  (Idx s8.a s8.len (IntKind.i64.wrap (x12 - (1 : Int))) 2 (fun a13 =>
  (∃ x14 : Int, w2.cell? (a13.add 1) = some (.int .i64 x14) ∧
  (∀ w15, Ext w2 w15 →
  (K x14 true w15))))))))))))))))))))))) w)

def fn_heap_Heap_Drop : FuncId := 34
/-- (*postroad/heap.Heap).Drop -/
def sh_heap_Heap_Drop (h0 : Option Addr) (id0 : Int) (K : Bool → World → Prop) (w : World) : Prop :=
  (sh_heap_Heap_Key h0 id0 (fun x1 t2 w3 => (cond (!t2) (K false w3) (Nn h0 (fun a4 => (sh_heap_queue_drop (some (a4.add 0)) id0 (fun w5 => (K true w5)) w3))))) w)

def fn_heap_Heap_Clear : FuncId := 42
/-- (*postroad/heap.Heap).Clear -/
def sh_heap_Heap_Clear (h0 : Option Addr) (K : World → Prop) (w : World) : Prop :=
  (LoopT (Unit) (fun t2 again1 w3 =>
  (sh_heap_Heap_Len h0 (fun x4 w5 =>
  (cond (decide (x4 > (0 : Int))) (Nn h0 (fun a6 =>
  (Nn h0 (fun a7 =>
  (∃ s8 : SV, w5.cell? ((a7.add 0).add 0) = some (.slice s8.a s8.len s8.cap) ∧
  (Quiet (Int) (fun r10 =>
  (.int .i64 r10)) (fun K11 w12' => sh_heap_Heap_Len h0 (fun x9 w12 => K11 x9 w12) w12') w5 (fun r10 =>
  (Idx s8.a s8.len (IntKind.i64.wrap (r10 - (1 : Int))) 2 (fun a13 =>
  (∃ x14 : Int, w5.cell? (a13.add 0) = some (.int .i64 x14) ∧
  (∀ w15, Ext w5 w15 →
  (sh_heap_queue_drop (some (a6.add 0)) x14 (fun w16 =>
  (∀ w17, Ext w16 w17 →
  (again1 () w17))) w15)))))))))))) (K w5))) w3)) () w)
end Go.Sh
