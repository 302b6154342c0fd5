/- Shallow definitions, printed by gen.py of these sessions. -/
import Derived.Test.YthpbelgmppaafaaHeapDef
set_option maxRecDepth 100000
set_option linter.unusedVariables false
namespace Go.Sh
def fn_postroadref03_New : FuncId := 37
/-- postroad/postroadref03.New -/
def sh_postroadref03_New (n0 : Int) (K : Int → SV → Bool → World → Prop) (w : World) : Prop :=
  (∀ b1 w2, Ext w w2 → w.heap.size ≤ b1 → b1 < w2.heap.size →
  (cond (decide (n0 ≥ (0 : Int))) (∀ w3, Off b1 w2 w3 →
  (K n0 ⟨none, 0, 0⟩ (decide (n0 ≤ (16777216 : Int))) w3)) (∀ w4, Off b1 w2 w4 →
  (K n0 ⟨none, 0, 0⟩ false w4))))

def fn_postroadref03_First : FuncId := 40
/-- postroad/postroadref03.First -/
def sh_postroadref03_First (t0_N : Int) (t0_L : SV) (K : Int → Int → Bool → World → Prop) (w : World) : Prop :=
  (∀ b1 w2, Ext w w2 → w.heap.size ≤ b1 → b1 < w2.heap.size →
  (∀ b3 w4, Ext w2 w4 → w2.heap.size ≤ b3 → b3 < w4.heap.size →
  (∀ b5 w6, Ext w4 w6 → w4.heap.size ≤ b5 → b5 < w6.heap.size →
  (∀ w7, Off b5 w6 w7 →
  (Join ((Int × Int × Unit) × Unit) (fun J8 =>
  (LoopT (Int × (Int × Int × Unit) × Unit) (fun t10 again9 w11 =>
  (cond (decide (t10.1 < (t0_L.len : Int))) (Join ((Int × Int × Unit) × Unit) (fun J12 =>
  (Idx t0_L.a t0_L.len t10.1 2 (fun a13 =>
  (∃ x14 : Int, w11.cell? (a13.add 0) = some (.int .i64 x14) ∧ ∃ x15 : Int, w11.cell? (a13.add 1) = some (.int .i64 x15) ∧
  (∀ b16 w17, Ext w11 w17 → w11.heap.size ≤ b16 → b16 < w17.heap.size →
  (∀ w18, Off b16 w17 w18 →
  (cond (t10.1 == (0 : Int)) (∀ w19, Off b5 w18 w19 →
  (J12 ((x14, x15, ()), ()) w19)) (cond (decide (x15 < t10.2.1.2.1)) (∀ w20, Off b5 w18 w20 →
  (J12 ((x14, x15, ()), ()) w20)) (cond (x15 == t10.2.1.2.1) (cond (decide (x14 < t10.2.1.1)) (∀ w21, Off b5 w18 w21 →
  (J12 ((x14, x15, ()), ()) w21)) (J12 ((t10.2.1.1, t10.2.1.2.1, ()), ()) w18)) (J12 ((t10.2.1.1, t10.2.1.2.1, ()), ()) w18))))))))))
  (fun t22 w23 =>
  (again9 ((IntKind.i64.wrap (t10.1 + (1 : Int))), (t22.1.1, t22.1.2.1, ()), ()) w23))) (J8 ((t10.2.1.1, t10.2.1.2.1, ()), ()) w11))) ((0 : Int), ((0 : Int), (0 : Int), ()), ()) w7))
  (fun t24 w25 =>
  (∀ w26, Ext w25 w26 →
  (∀ w27, Off b3 w26 w27 →
  (∀ w28, Ext w27 w28 →
  (K t24.1.1 t24.1.2.1 (decide ((t0_L.len : Int) > (0 : Int))) w28))))))))))

def fn_postroadref03_Key : FuncId := 41
/-- postroad/postroadref03.Key -/
def sh_postroadref03_Key (t0_N : Int) (t0_L : SV) (id0 : Int) (K : Int → Bool → World → Prop) (w : World) : Prop :=
  (∀ b1 w2, Ext w w2 → w.heap.size ≤ b1 → b1 < w2.heap.size →
  (LoopT (Int × Unit) (fun t4 again3 w5 =>
  (cond (decide (t4.1 < (t0_L.len : Int))) (Idx t0_L.a t0_L.len t4.1 2 (fun a6 =>
  (∃ x7 : Int, w5.cell? (a6.add 0) = some (.int .i64 x7) ∧
  (cond (x7 == id0) (Idx t0_L.a t0_L.len t4.1 2 (fun a8 =>
  (∃ x9 : Int, w5.cell? (a8.add 1) = some (.int .i64 x9) ∧
  (K x9 true w5)))) (again3 ((IntKind.i64.wrap (t4.1 + (1 : Int))), ()) w5))))) (K (0 : Int) false w5))) ((0 : Int), ()) w2))

def fn_postroadref03_Drop : FuncId := 64
/-- postroad/postroadref03.Drop -/
def sh_postroadref03_Drop (t0_N : Int) (t0_L : SV) (id0 : Int) (K : Int → SV → Bool → World → Prop) (w : World) : Prop :=
  (∀ b1 w2, Ext w w2 → w.heap.size ≤ b1 → b1 < w2.heap.size →
  (∀ b3 w4, Ext w2 w4 → w2.heap.size ≤ b3 → b3 < w4.heap.size →
  (∀ b5 w6, Ext w4 w6 → w4.heap.size ≤ b5 → b5 < w6.heap.size →
  (∀ w7, Off b5 w6 w7 →
  (Join ((Int × SV × Unit) × Unit) (fun J8 =>
  (LoopT (Int × (Int × SV × Unit) × Unit) (fun t10 again9 w11 =>
  (cond (decide (t10.1 < (t0_L.len : Int))) (Join ((Int × SV × Unit) × Unit) (fun J12 =>
  (Idx t0_L.a t0_L.len t10.1 2 (fun a13 =>
  (∃ x14 : Int, w11.cell? (a13.add 0) = some (.int .i64 x14) ∧
  (cond (x14 != id0) (Idx t0_L.a t0_L.len t10.1 2 (fun a15 =>
  (∃ x16 : Int, w11.cell? (a15.add 0) = some (.int .i64 x16) ∧ ∃ x17 : Int, w11.cell? (a15.add 1) = some (.int .i64 x17) ∧
  (∀ w18, Ext w11 w18 →
  (NewB [(.int .i64 x16), (.int .i64 x17)] w18 (fun b19 w20 =>
  (∀ w21, Ext w20 w21 →
  (App 16 [(.int .i64 (0 : Int)), (.int .i64 (0 : Int))] t10.2.1.2.1 ⟨(some ⟨b19, 0, none⟩), 1, 1⟩ w21 (fun s22 w23 =>
  (Keeps [b5, b3, b1] w21 w23 ∧
  (∀ w24, Ext w23 w24 →
  (∀ w25, Off b5 w24 w25 →
  (∀ w26, Ext w25 w26 →
  (J12 ((t10.2.1.1, s22, ()), ()) w26)))))))))))))) (J12 ((t10.2.1.1, t10.2.1.2.1, ()), ()) w11))))))
  (fun t27 w28 =>
  (again9 ((IntKind.i64.wrap (t10.1 + (1 : Int))), (t27.1.1, t27.1.2.1, ()), ()) w28))) (J8 ((t10.2.1.1, t10.2.1.2.1, ()), ()) w11))) ((0 : Int), (t0_N, ⟨none, 0, 0⟩, ()), ()) w7))
  (fun t29 w30 =>
  (∀ w31, Ext w30 w31 →
  (∀ w32, Off b3 w31 w32 →
  (∀ w33, Ext w32 w33 →
  (K t29.1.1 t29.1.2.1 (decide ((t29.1.2.1.len : Int) < (t0_L.len : Int))) w33))))))))))

def fn_postroadref03_Set : FuncId := 63
/-- postroad/postroadref03.Set -/
def sh_postroadref03_Set (t0_N : Int) (t0_L : SV) (id0 : Int) (key0 : Int) (K : Int → SV → Bool → World → Prop) (w : World) : Prop :=
  (∀ b1 w2, Ext w w2 → w.heap.size ≤ b1 → b1 < w2.heap.size →
  (∀ b3 w4, Ext w2 w4 → w2.heap.size ≤ b3 → b3 < w4.heap.size →
  (cond (decide (id0 < (0 : Int))) (∀ w5, Off b3 w4 w5 →
  (K t0_N t0_L false w5)) (cond (decide (id0 ≥ t0_N)) (∀ w6, Off b3 w4 w6 →
  (K t0_N t0_L false w6)) (sh_postroadref03_Drop t0_N t0_L id0 (fun x7 s8 t9 w10 =>
  (Keeps [b3, b1] w4 w10 ∧
  (∀ b11 w12, Ext w10 w12 → w10.heap.size ≤ b11 → b11 < w12.heap.size →
  (∀ w13, Off b11 w12 w13 →
  (NewB [(.int .i64 id0), (.int .i64 key0)] w13 (fun b14 w15 =>
  (App 16 [(.int .i64 (0 : Int)), (.int .i64 (0 : Int))] s8 ⟨(some ⟨b14, 0, none⟩), 1, 1⟩ w15 (fun s16 w17 =>
  (Keeps [b11, b3, b1] w15 w17 ∧
  (∀ w18, Off b11 w17 w18 →
  (∀ w19, Off b3 w18 w19 →
  (K x7 s16 true w19)))))))))))) w4)))))

def fn_postroadref03_Step : FuncId := 38
/-- postroad/postroadref03.Step -/
def sh_postroadref03_Step (t0_N : Int) (t0_L : SV) (d0_Kind : Int) (d0_ID : Int) (d0_Key : Int) (K : Int → SV → Int → Int → Bool → World → Prop) (w : World) : Prop :=
  (∀ b1 w2, Ext w w2 → w.heap.size ≤ b1 → b1 < w2.heap.size →
  (∀ b3 w4, Ext w2 w4 → w2.heap.size ≤ b3 → b3 < w4.heap.size →
  (∀ b5 w6, Ext w4 w6 → w4.heap.size ≤ b5 → b5 < w6.heap.size →
  (∀ b7 w8, Ext w6 w8 → w6.heap.size ≤ b7 → b7 < w8.heap.size →
  (cond (d0_Kind == (1 : Int)) (sh_postroadref03_Set t0_N t0_L d0_ID d0_Key (fun x9 s10 t11 w12 =>
  (Keeps [b7, b5, b3, b1] w8 w12 ∧
  (∀ b13 w14, Ext w12 w14 → w12.heap.size ≤ b13 → b13 < w14.heap.size →
  (∀ w15, Off b13 w14 w15 →
  (∀ w16, Off b5 w15 w16 →
  (∀ w17, Off b7 w16 w17 →
  (K x9 s10 (0 : Int) (0 : Int) t11 w17))))))) w8) (cond (d0_Kind == (2 : Int)) (sh_postroadref03_First t0_N t0_L (fun x18 x19 t20 w21 =>
  (Keeps [b7, b5, b3, b1] w8 w21 ∧
  (∀ b22 w23, Ext w21 w23 → w21.heap.size ≤ b22 → b22 < w23.heap.size →
  (∀ w24, Off b22 w23 w24 →
  (cond (!t20) (∀ w25, Ext w24 w25 →
  (∀ w26, Off b5 w25 w26 →
  (∀ w27, Ext w26 w27 →
  (∀ w28, Off b7 w27 w28 →
  (∀ w29, Ext w28 w29 →
  (K t0_N t0_L x18 x19 false w29)))))) (sh_postroadref03_Drop t0_N t0_L x18 (fun x30 s31 t32 w33 =>
  (Keeps [b22, b7, b5, b3, b1] w24 w33 ∧
  (∀ b34 w35, Ext w33 w35 → w33.heap.size ≤ b34 → b34 < w35.heap.size →
  (∀ w36, Off b34 w35 w36 →
  (∀ w37, Ext w36 w37 →
  (∀ w38, Off b5 w37 w38 →
  (∀ w39, Ext w38 w39 →
  (∀ w40, Off b7 w39 w40 →
  (∀ w41, Ext w40 w41 →
  (K x30 s31 x18 x19 true w41)))))))))) w24)))))) w8) (cond (d0_Kind == (3 : Int)) (sh_postroadref03_Drop t0_N t0_L d0_ID (fun x42 s43 t44 w45 =>
  (Keeps [b7, b5, b3, b1] w8 w45 ∧
  (∀ b46 w47, Ext w45 w47 → w45.heap.size ≤ b46 → b46 < w47.heap.size →
  (∀ w48, Off b46 w47 w48 →
  (∀ w49, Off b5 w48 w49 →
  (∀ w50, Off b7 w49 w50 →
  (K x42 s43 (0 : Int) (0 : Int) t44 w50))))))) w8) (cond (d0_Kind == (4 : Int)) (∀ w51, Off b5 w8 w51 →
  (∀ w52, Off b7 w51 w52 →
  (K t0_N ⟨none, 0, 0⟩ (0 : Int) (0 : Int) false w52))) (∀ w53, Off b5 w8 w53 →
  (∀ w54, Off b7 w53 w54 →
  (K t0_N t0_L (0 : Int) (0 : Int) false w54)))))))))))

def fn_postroadlaw03_did : FuncId := 39
/-- postroad/postroadlaw03.did -/
def sh_postroadlaw03_did (h0 : Option Addr) (d0_Kind : Int) (d0_ID : Int) (d0_Key : Int) (K : Int → Int → Bool → World → Prop) (w : World) : Prop :=
  (∀ b1 w2, Ext w w2 → w.heap.size ≤ b1 → b1 < w2.heap.size →
  (Join (Unit) (fun J3 =>
  (cond (d0_Kind == (1 : Int)) (sh_heap_Heap_Set h0 d0_ID d0_Key (fun t4 w5 =>
  (Keeps [b1] w2 w5 ∧
  (K (0 : Int) (0 : Int) t4 w5))) w2) (cond (d0_Kind == (2 : Int)) (sh_heap_Heap_Pop h0 (fun x6 x7 t8 w9 =>
  (Keeps [b1] w2 w9 ∧
  (K x6 x7 t8 w9))) w2) (cond (d0_Kind == (3 : Int)) (sh_heap_Heap_Drop h0 d0_ID (fun t10 w11 =>
  (Keeps [b1] w2 w11 ∧
  (K (0 : Int) (0 : Int) t10 w11))) w2) (cond (d0_Kind == (4 : Int)) (sh_heap_Heap_Clear h0 (fun w12 =>
  (Keeps [b1] w2 w12 ∧
  (J3 () w12))) w2) (J3 () w2))))))
  (fun t13 w14 =>
  (K (0 : Int) (0 : Int) false w14))))

def fn_postroadlaw03_known : FuncId := 27
/-- postroad/postroadlaw03.known -/
def sh_postroadlaw03_known  (K : Bool → World → Prop) (w : World) : Prop :=
  (sh_heap_New (5 : Int) (fun p1 w2 =>
  (sh_heap_Heap_Set p1 (4 : Int) (9 : Int) (fun t3 w4 =>
  (sh_heap_Heap_Set p1 (2 : Int) (7 : Int) (fun t5 w6 =>
  (sh_heap_Heap_Set p1 (3 : Int) (7 : Int) (fun t7 w8 =>
  (sh_heap_Heap_Pop p1 (fun x9 x10 t11 w12 =>
  (cond (x9 == (2 : Int)) (cond (x10 == (7 : Int)) (cond t11 (sh_heap_Heap_Len none (fun x13 w14 =>
  (K (x13 == (0 : Int)) w14)) w12) (K false w12)) (K false w12)) (K false w12))) w8)) w6)) w4)) w2)) w)

def fn_postroadlaw03_HeapSorts : FuncId := 7
/-- postroad/postroadlaw03.HeapSorts -/
def sh_postroadlaw03_HeapSorts (keys0 : SV) (K : Bool → World → Prop) (w : World) : Prop :=
  (cond (decide ((keys0.len : Int) > (200 : Int))) (sh_postroadlaw03_known  (fun t1 w2 =>
  (K t1 w2)) w) (sh_heap_New (keys0.len : Int) (fun p3 w4 =>
  (Join (Unit) (fun J5 =>
  (LoopT (Int × Unit) (fun t7 again6 w8 =>
  (cond (decide (t7.1 < (keys0.len : Int))) (Idx keys0.a keys0.len (IntKind.i64.wrap ((IntKind.i64.wrap ((keys0.len : Int) - (1 : Int))) - t7.1)) 1 (fun a9 =>
  (∃ x10 : Int, w8.cell? a9 = some (.int .i64 x10) ∧
  (sh_heap_Heap_Set p3 t7.1 (IntKind.i64.wrap ((IntKind.i64.wrap (0 - x10)).tdiv (2 : Int))) (fun t11 w12 =>
  (Idx keys0.a keys0.len t7.1 1 (fun a13 =>
  (∃ x14 : Int, w12.cell? a13 = some (.int .i64 x14) ∧
  (sh_heap_Heap_Set p3 t7.1 x14 (fun t15 w16 =>
  (again6 ((IntKind.i64.wrap (t7.1 + (1 : Int))), ()) w16)) w12))))) w8)))) (J5 () w8))) ((0 : Int), ()) w4))
  (fun t17 w18 =>
  (MkS 8 [(.int .i64 (0 : Int))] (keys0.len : Int) (keys0.len : Int) w18 (fun s19 w20 =>
  (Join (Unit) (fun J21 =>
  (LoopT (Int × Int × Unit) (fun t23 again22 w24 =>
  (cond (decide (t23.2.1 < (keys0.len : Int))) (sh_heap_Heap_Pop p3 (fun x25 x26 t27 w28 =>
  (Join (Unit) (fun J29 =>
  (cond (!t27) (K false w28) (cond (decide (x25 < (0 : Int))) (K false w28) (cond (decide (x25 ≥ (keys0.len : Int))) (K false w28) (Idx s19.a s19.len x25 1 (fun a30 =>
  (∃ x31 : Int, w28.cell? a30 = some (.int .i64 x31) ∧
  (cond (decide (x31 > (0 : Int))) (K false w28) (Idx keys0.a keys0.len x25 1 (fun a32 =>
  (∃ x33 : Int, w28.cell? a32 = some (.int .i64 x33) ∧
  (cond (x26 != x33) (K false w28) (cond (decide (t23.1 ≥ (0 : Int))) (Idx keys0.a keys0.len t23.1 1 (fun a34 =>
  (∃ x35 : Int, w28.cell? a34 = some (.int .i64 x35) ∧
  (cond (decide (x26 < x35)) (K false w28) (Idx keys0.a keys0.len t23.1 1 (fun a36 =>
  (∃ x37 : Int, w28.cell? a36 = some (.int .i64 x37) ∧
  (cond (x26 == x37) (cond (decide (x25 < t23.1)) (K false w28) (J29 () w28)) (J29 () w28))))))))) (J29 () w28))))))))))))))
  (fun t38 w39 =>
  (Idx s19.a s19.len x25 1 (fun a40 =>
  (stL w39 a40 [(.int .i64 (1 : Int))] 0 (fun w41 =>
  (again22 (x25, (IntKind.i64.wrap (t23.2.1 + (1 : Int))), ()) w41)))))))) w24) (J21 () w24))) ((-1 : Int), (0 : Int), ()) w20))
  (fun t42 w43 =>
  (sh_heap_Heap_Pop p3 (fun x44 x45 t46 w47 =>
  (cond (!t46) (sh_heap_Heap_Len p3 (fun x48 w49 =>
  (cond (x48 == (0 : Int)) (sh_postroadlaw03_known  (fun t50 w51 =>
  (K t50 w51)) w49) (K false w49))) w47) (K false w47))) w43)))))))) w))

def fn_postroadlaw03_HeapKeys : FuncId := 10
/-- postroad/postroadlaw03.HeapKeys -/
def sh_postroadlaw03_HeapKeys (l0 : SV) (K : Bool → World → Prop) (w : World) : Prop :=
  (cond (decide ((l0.len : Int) > (60 : Int))) (sh_postroadlaw03_known  (fun t1 w2 =>
  (K t1 w2)) w) (sh_heap_New (8 : Int) (fun p3 w4 =>
  (MkS 8 [(.int .i64 (0 : Int))] (8 : Int) (8 : Int) w4 (fun s5 w6 =>
  (MkS 8 [(.int .i64 (0 : Int))] (8 : Int) (8 : Int) w6 (fun s7 w8 =>
  (Join (Unit) (fun J9 =>
  (LoopT (Int × Unit) (fun t11 again10 w12 =>
  (cond (decide (t11.1 < (l0.len : Int))) (Join (Unit) (fun J13 =>
  (Idx l0.a l0.len t11.1 3 (fun a14 =>
  (∃ x15 : Int, w12.cell? (a14.add 0) = some (.int .i64 x15) ∧ ∃ x16 : Int, w12.cell? (a14.add 1) = some (.int .i64 x16) ∧ ∃ x17 : Int, w12.cell? (a14.add 2) = some (.int .i64 x17) ∧
  (∀ b18 w19, Ext w12 w19 → w12.heap.size ≤ b18 → b18 < w19.heap.size →
  (∀ w20, Off b18 w19 w20 →
  (cond (decide (x16 < (0 : Int))) (sh_heap_Heap_Set p3 x16 x17 (fun t21 w22 =>
  (Keeps [b18] w20 w22 ∧
  (cond t21 (K false w22) (sh_heap_Heap_Drop p3 x16 (fun t23 w24 =>
  (Keeps [b18] w22 w24 ∧
  (cond t23 (K false w24) (J13 () w24)))) w22)))) w20) (cond (decide (x16 > (7 : Int))) (sh_heap_Heap_Set p3 x16 x17 (fun t25 w26 =>
  (Keeps [b18] w20 w26 ∧
  (cond t25 (K false w26) (sh_heap_Heap_Drop p3 x16 (fun t27 w28 =>
  (Keeps [b18] w26 w28 ∧
  (cond t27 (K false w28) (J13 () w28)))) w26)))) w20) (cond (x15 == (3 : Int)) (Idx s7.a s7.len x16 1 (fun a29 =>
  (∃ x30 : Int, w20.cell? a29 = some (.int .i64 x30) ∧
  (∀ w33, Ext w20 w33 →
  (sh_heap_Heap_Drop p3 x16 (fun t32 w34 =>
  (Keeps [b18] w33 w34 ∧
  ((∃ y31 : Int, w34.cell? a29 = some (.int .i64 y31) ∧
  ((.int .i64 y31) : Value) = (.int .i64 x30)) ∧
  (∀ w35, Ext w34 w35 →
  (cond (!(t32 == (x30 == (1 : Int)))) (K false w35) (Idx s7.a s7.len x16 1 (fun a36 =>
  (stL w35 a36 [(.int .i64 (0 : Int))] 0 (fun w37 =>
  (Keeps [b18] w35 w37 ∧
  (J13 () w37))))))))))) w33))))) (sh_heap_Heap_Set p3 x16 x17 (fun t38 w39 =>
  (Keeps [b18] w20 w39 ∧
  (cond (!t38) (K false w39) (Idx s7.a s7.len x16 1 (fun a40 =>
  (stL w39 a40 [(.int .i64 (1 : Int))] 0 (fun w41 =>
  (Keeps [b18] w39 w41 ∧
  (Idx s5.a s5.len x16 1 (fun a42 =>
  (stL w41 a42 [(.int .i64 x17)] 0 (fun w43 =>
  (Keeps [b18] w41 w43 ∧
  (J13 () w43)))))))))))))) w20))))))))))
  (fun t44 w45 =>
  (again10 ((IntKind.i64.wrap (t11.1 + (1 : Int))), ()) w45))) (J9 () w12))) ((0 : Int), ()) w8))
  (fun t46 w47 =>
  (Join (Int × Int × Unit) (fun J48 =>
  (LoopT (Int × Int × Int × Unit) (fun t50 again49 w51 =>
  (cond (decide (t50.2.2.1 < (8 : Int))) (Join (Int × Int × Unit) (fun J52 =>
  (sh_heap_Heap_Key p3 t50.2.2.1 (fun x53 t54 w55 =>
  (Join (Unit) (fun J56 =>
  (Idx s7.a s7.len t50.2.2.1 1 (fun a57 =>
  (∃ x58 : Int, w55.cell? a57 = some (.int .i64 x58) ∧
  (cond (!(t54 == (x58 == (1 : Int)))) (K false w55) (cond t54 (Idx s5.a s5.len t50.2.2.1 1 (fun a59 =>
  (∃ x60 : Int, w55.cell? a59 = some (.int .i64 x60) ∧
  (cond (x53 != x60) (K false w55) (J56 () w55))))) (J56 () w55)))))))
  (fun t61 w62 =>
  (Idx s7.a s7.len t50.2.2.1 1 (fun a63 =>
  (∃ x64 : Int, w62.cell? a63 = some (.int .i64 x64) ∧
  (cond t54 (cond (decide (t50.1 < (0 : Int))) (J52 (t50.2.2.1, (IntKind.i64.wrap (t50.2.1 + x64)), ()) w62) (Idx s5.a s5.len t50.1 1 (fun a65 =>
  (∃ x66 : Int, w62.cell? a65 = some (.int .i64 x66) ∧
  (cond (decide (x53 < x66)) (J52 (t50.2.2.1, (IntKind.i64.wrap (t50.2.1 + x64)), ()) w62) (J52 (t50.1, (IntKind.i64.wrap (t50.2.1 + x64)), ()) w62)))))) (J52 (t50.1, (IntKind.i64.wrap (t50.2.1 + x64)), ()) w62)))))))) w51))
  (fun t67 w68 =>
  (again49 (t67.1, t67.2.1, (IntKind.i64.wrap (t50.2.2.1 + (1 : Int))), ()) w68))) (J48 (t50.1, t50.2.1, ()) w51))) ((-1 : Int), (0 : Int), (0 : Int), ()) w47))
  (fun t69 w70 =>
  (sh_heap_Heap_First p3 (fun x71 x72 t73 w74 =>
  (sh_heap_Heap_Len p3 (fun x75 w76 =>
  (cond (x75 == t69.2.1) (cond (t73 == (decide (t69.1 ≥ (0 : Int)))) (cond (decide (t69.1 < (0 : Int))) (sh_postroadlaw03_known  (fun t77 w78 =>
  (K t77 w78)) w76) (cond (x71 == t69.1) (Idx s5.a s5.len t69.1 1 (fun a79 =>
  (∃ x80 : Int, w76.cell? a79 = some (.int .i64 x80) ∧
  (cond (x72 == x80) (sh_postroadlaw03_known  (fun t81 w82 =>
  (K t81 w82)) w76) (K false w76))))) (K false w76))) (K false w76)) (K false w76))) w74)) w70)))))))))) w))

def fn_postroadlaw03_HeapSteps : FuncId := 11
/-- postroad/postroadlaw03.HeapSteps -/
def sh_postroadlaw03_HeapSteps (n0 : Int) (l0 : SV) (id0 : Int) (K : Bool → World → Prop) (w : World) : Prop :=
  (Join (Unit) (fun J1 =>
  (cond (decide (n0 > (100 : Int))) (cond (decide (n0 ≤ (16777216 : Int))) (sh_postroadlaw03_known  (fun t2 w3 =>
  (K t2 w3)) w) (cond (decide ((l0.len : Int) > (60 : Int))) (sh_postroadlaw03_known  (fun t4 w5 =>
  (K t4 w5)) w) (J1 () w))) (cond (decide ((l0.len : Int) > (60 : Int))) (sh_postroadlaw03_known  (fun t6 w7 =>
  (K t6 w7)) w) (J1 () w))))
  (fun t8 w9 =>
  (sh_postroadref03_New n0 (fun x10 s11 t12 w13 =>
  (∀ b14 w15, Ext w13 w15 → w13.heap.size ≤ b14 → b14 < w15.heap.size →
  (∀ w16, Off b14 w15 w16 →
  (sh_heap_New n0 (fun p17 w18 =>
  (Keeps [b14] w16 w18 ∧
  (cond (!((!p17.isNone) == t12)) (K false w18) (cond (!t12) (sh_heap_Heap_Set p17 (0 : Int) (0 : Int) (fun t19 w20 =>
  (Keeps [b14] w18 w20 ∧
  (cond (!t19) (sh_postroadlaw03_known  (fun t21 w22 =>
  (Keeps [b14] w20 w22 ∧
  (K t21 w22))) w20) (K false w20)))) w18) (Join (Unit) (fun J23 =>
  (LoopT (Int × (Int × SV × Unit) × Unit) (fun t25 again24 w26 =>
  (cond (decide (t25.1 < (l0.len : Int))) (Idx l0.a l0.len t25.1 3 (fun a27 =>
  (∃ x28 : Int, w26.cell? (a27.add 0) = some (.int .i64 x28) ∧ ∃ x29 : Int, w26.cell? (a27.add 1) = some (.int .i64 x29) ∧ ∃ x30 : Int, w26.cell? (a27.add 2) = some (.int .i64 x30) ∧
  (∀ w36, Ext w26 w36 →
  (sh_postroadref03_Step t25.2.1.1 t25.2.1.2.1 x28 x29 x30 (fun x31 s32 x33 x34 t35 w37 =>
  (KeepZ (zI (fun _ => False) w26 w36) w36 w37 ∧
  (Keeps [b14] w36 w37 ∧
  (∀ b38 w39, Ext w37 w39 →
  ((zI (fun _ => False) w26 w36) b38 ∨ w37.heap.size ≤ b38) → b38 < w39.heap.size →
  (∀ b40 w41, Ext w39 w41 →
  ((zX (zI (zI (fun _ => False) w26 w36) w37 w39) b38) b40 ∨ w39.heap.size ≤ b40) → b40 < w41.heap.size →
  (∀ w42, Ext w41 w42 →
  (∀ w43, Off b38 w42 w43 →
  (∀ w44, Ext w43 w44 →
  (∀ w45, Off b40 w44 w45 →
  (∀ w46, Ext w45 w46 →
  (∀ w47, Off b14 w46 w47 →
  (Idx l0.a l0.len t25.1 3 (fun a48 =>
  (∃ x49 : Int, w47.cell? (a48.add 0) = some (.int .i64 x49) ∧ ∃ x50 : Int, w47.cell? (a48.add 1) = some (.int .i64 x50) ∧ ∃ x51 : Int, w47.cell? (a48.add 2) = some (.int .i64 x51) ∧
  (sh_postroadlaw03_did p17 x49 x50 x51 (fun x52 x53 t54 w55 =>
  (Keeps [b14, b40, b38] w47 w55 ∧
  (sh_postroadref03_First x31 s32 (fun x56 x57 t58 w59 =>
  (Keeps [b14, b40, b38] w55 w59 ∧
  (∀ b60 w61, Ext w59 w61 → w59.heap.size ≤ b60 → b60 < w61.heap.size →
  (∀ w62, Off b60 w61 w62 →
  (sh_heap_Heap_First p17 (fun x63 x64 t65 w66 =>
  (Keeps [b60, b14, b40, b38] w62 w66 ∧
  (sh_postroadref03_Key x31 s32 id0 (fun x67 t68 w69 =>
  (Keeps [b60, b14, b40, b38] w66 w69 ∧
  (sh_heap_Heap_Key p17 id0 (fun x70 t71 w72 =>
  (Keeps [b60, b14, b40, b38] w69 w72 ∧
  (cond (x52 != x33) (∀ w73, Ext w72 w73 →
  (K false w73)) (cond (x53 != x34) (∀ w74, Ext w72 w74 →
  (K false w74)) (cond (!(t54 == t35)) (∀ w75, Ext w72 w75 →
  (K false w75)) (cond (x63 != x56) (∀ w76, Ext w72 w76 →
  (K false w76)) (cond (x64 != x57) (∀ w77, Ext w72 w77 →
  (K false w77)) (cond (!(t65 == t58)) (∀ w78, Ext w72 w78 →
  (K false w78)) (cond (x67 != x70) (∀ w79, Ext w72 w79 →
  (K false w79)) (cond (!(t68 == t71)) (∀ w80, Ext w72 w80 →
  (K false w80)) (Quiet (Int) (fun r82 =>
  (.int .i64 r82)) (fun K83 w84' => sh_heap_Heap_Len p17 (fun x81 w84 => K83 x81 w84) w84') w72 (fun r82 =>
  (∀ w85, Ext w72 w85 →
  (cond (r82 != (s32.len : Int)) (K false w85) (again24 ((IntKind.i64.wrap (t25.1 + (1 : Int))), (x31, s32, ()), ()) w85))))))))))))))) w69))) w66))) w62))))) w55))) w47))))))))))))))) w36))))) (J23 () w26))) ((0 : Int), (x10, s11, ()), ()) w18))
  (fun t86 w87 =>
  (sh_postroadlaw03_known  (fun t88 w89 =>
  (K t88 w89)) w87))))))) w16)))) w9)))

def fn_postroadlaw03_HeapClears : FuncId := 12
/-- postroad/postroadlaw03.HeapClears -/
def sh_postroadlaw03_HeapClears (keys0 : SV) (out0 : Int) (K : Bool → World → Prop) (w : World) : Prop :=
  (cond (decide ((keys0.len : Int) > (100 : Int))) (sh_postroadlaw03_known  (fun t1 w2 =>
  (K t1 w2)) w) (cond ((keys0.len : Int) == (0 : Int)) (sh_postroadlaw03_known  (fun t3 w4 =>
  (K t3 w4)) w) (sh_heap_New (keys0.len : Int) (fun p5 w6 =>
  (sh_heap_New (keys0.len : Int) (fun p7 w8 =>
  (Join (Unit) (fun J9 =>
  (LoopT (Int × Unit) (fun t11 again10 w12 =>
  (cond (decide (t11.1 < (keys0.len : Int))) (sh_heap_Heap_Set p5 (IntKind.i64.wrap ((IntKind.i64.wrap ((keys0.len : Int) - (1 : Int))) - t11.1)) (5 : Int) (fun t13 w14 =>
  (again10 ((IntKind.i64.wrap (t11.1 + (1 : Int))), ()) w14)) w12) (J9 () w12))) ((0 : Int), ()) w8))
  (fun t15 w16 =>
  (sh_heap_Heap_Clear p5 (fun w17 =>
  (if (keys0.len : Int) = 0 then False else (Join (Unit) (fun J18 =>
  (LoopT (Int × Unit) (fun t20 again19 w21 =>
  (cond (decide (t20.1 < (keys0.len : Int))) (Join (Unit) (fun J22 =>
  (Idx keys0.a keys0.len t20.1 1 (fun a23 =>
  (∃ x24 : Int, w21.cell? a23 = some (.int .i64 x24) ∧
  (sh_heap_Heap_Set p5 t20.1 x24 (fun t25 w26 =>
  (cond (t20.1 != ((IntKind.i64.wrap (out0)).tmod (keys0.len : Int))) (Idx keys0.a keys0.len t20.1 1 (fun a27 =>
  (∃ x28 : Int, w26.cell? a27 = some (.int .i64 x28) ∧
  (sh_heap_Heap_Set p7 t20.1 x28 (fun t29 w30 =>
  (J22 () w30)) w26)))) (J22 () w26))) w21)))))
  (fun t31 w32 =>
  (again19 ((IntKind.i64.wrap (t20.1 + (1 : Int))), ()) w32))) (J18 () w21))) ((0 : Int), ()) w17))
  (fun t33 w34 =>
  (sh_heap_Heap_Len p5 (fun x35 w36 =>
  (cond (x35 != (keys0.len : Int)) (K false w36) (sh_heap_Heap_Drop p5 ((IntKind.i64.wrap (out0)).tmod (keys0.len : Int)) (fun t37 w38 =>
  (cond (!t37) (K false w38) (sh_heap_Heap_Drop p5 ((IntKind.i64.wrap (out0)).tmod (keys0.len : Int)) (fun t39 w40 =>
  (cond t39 (K false w40) (Join (Unit) (fun J41 =>
  (LoopT (Unit) (fun t43 again42 w44 =>
  (sh_heap_Heap_Len p7 (fun x45 w46 =>
  (cond (decide (x45 > (0 : Int))) (sh_heap_Heap_Pop p5 (fun x47 x48 t49 w50 =>
  (sh_heap_Heap_Pop p7 (fun x51 x52 t53 w54 =>
  (cond (x47 != x51) (K false w54) (cond (x48 != x52) (K false w54) (cond (!(t49 == t53)) (K false w54) (cond (!t49) (K false w54) (again42 () w54)))))) w50)) w46) (J41 () w46))) w44)) () w40))
  (fun t55 w56 =>
  (sh_heap_Heap_Len p5 (fun x57 w58 =>
  (cond (x57 == (0 : Int)) (sh_postroadlaw03_known  (fun t59 w60 =>
  (K t59 w60)) w58) (K false w58))) w56))))) w38))) w36))) w34))))) w16)))) w6)) w)))

def fn_postroadlaw03_HeapTwo : FuncId := 13
/-- postroad/postroadlaw03.HeapTwo -/
def sh_postroadlaw03_HeapTwo (a0 : SV) (b0 : SV) (K : Bool → World → Prop) (w : World) : Prop :=
  (cond (decide ((a0.len : Int) > (40 : Int))) (sh_postroadlaw03_known  (fun t1 w2 =>
  (K t1 w2)) w) (cond (decide ((b0.len : Int) > (40 : Int))) (sh_postroadlaw03_known  (fun t3 w4 =>
  (K t3 w4)) w) (sh_heap_New (9 : Int) (fun p5 w6 =>
  (sh_heap_New (9 : Int) (fun p7 w8 =>
  (sh_heap_New (9 : Int) (fun p9 w10 =>
  (Join (Unit) (fun J11 =>
  (LoopT (Int × Unit) (fun t13 again12 w14 =>
  (Join (Unit) (fun J15 =>
  (cond (decide (t13.1 < (a0.len : Int))) (J15 () w14) (cond (decide (t13.1 < (b0.len : Int))) (J15 () w14) (J11 () w14))))
  (fun t16 w17 =>
  (Join (Unit) (fun J18 =>
  (Join (Unit) (fun J19 =>
  (cond (decide (t13.1 < (b0.len : Int))) (Idx b0.a b0.len t13.1 3 (fun a20 =>
  (∃ x21 : Int, w17.cell? (a20.add 0) = some (.int .i64 x21) ∧ ∃ x22 : Int, w17.cell? (a20.add 1) = some (.int .i64 x22) ∧ ∃ x23 : Int, w17.cell? (a20.add 2) = some (.int .i64 x23) ∧
  (sh_postroadlaw03_did p9 x21 x22 x23 (fun x24 x25 t26 w27 =>
  (J19 () w27)) w17)))) (J19 () w17)))
  (fun t28 w29 =>
  (cond (decide (t13.1 ≥ (a0.len : Int))) (J18 () w29) (Idx a0.a a0.len t13.1 3 (fun a30 =>
  (∃ x31 : Int, w29.cell? (a30.add 0) = some (.int .i64 x31) ∧ ∃ x32 : Int, w29.cell? (a30.add 1) = some (.int .i64 x32) ∧ ∃ x33 : Int, w29.cell? (a30.add 2) = some (.int .i64 x33) ∧
  (sh_postroadlaw03_did p5 x31 x32 x33 (fun x34 x35 t36 w37 =>
  (Idx a0.a a0.len t13.1 3 (fun a38 =>
  (∃ x39 : Int, w37.cell? (a38.add 0) = some (.int .i64 x39) ∧ ∃ x40 : Int, w37.cell? (a38.add 1) = some (.int .i64 x40) ∧ ∃ x41 : Int, w37.cell? (a38.add 2) = some (.int .i64 x41) ∧
  (sh_postroadlaw03_did p7 x39 x40 x41 (fun x42 x43 t44 w45 =>
  (cond (x34 != x42) (K false w45) (cond (x35 != x43) (K false w45) (cond (!(t36 == t44)) (K false w45) (sh_heap_Heap_Len p5 (fun x46 w47 =>
  (sh_heap_Heap_Len p7 (fun x48 w49 =>
  (cond (x46 != x48) (K false w49) (J18 () w49))) w47)) w45))))) w37))))) w29))))))))
  (fun t50 w51 =>
  (again12 ((IntKind.i64.wrap (t13.1 + (1 : Int))), ()) w51)))))) ((0 : Int), ()) w10))
  (fun t52 w53 =>
  (sh_postroadlaw03_known  (fun t54 w55 =>
  (K t54 w55)) w53)))) w8)) w6)) w)))

def fn_postroadlaw03_HeapPops : FuncId := 14
/-- postroad/postroadlaw03.HeapPops -/
def sh_postroadlaw03_HeapPops (l0 : SV) (K : Bool → World → Prop) (w : World) : Prop :=
  (cond (decide ((l0.len : Int) > (60 : Int))) (sh_postroadlaw03_known  (fun t1 w2 =>
  (K t1 w2)) w) (sh_heap_New (9 : Int) (fun p3 w4 =>
  (Join (Unit) (fun J5 =>
  (LoopT (Int × Unit) (fun t7 again6 w8 =>
  (cond (decide (t7.1 < (l0.len : Int))) (Idx l0.a l0.len t7.1 3 (fun a9 =>
  (∃ x10 : Int, w8.cell? (a9.add 0) = some (.int .i64 x10) ∧ ∃ x11 : Int, w8.cell? (a9.add 1) = some (.int .i64 x11) ∧ ∃ x12 : Int, w8.cell? (a9.add 2) = some (.int .i64 x12) ∧
  (sh_postroadlaw03_did p3 x10 x11 x12 (fun x13 x14 t15 w16 =>
  (again6 ((IntKind.i64.wrap (t7.1 + (1 : Int))), ()) w16)) w8)))) (J5 () w8))) ((0 : Int), ()) w4))
  (fun t17 w18 =>
  (Join (Unit) (fun J19 =>
  (LoopT (Unit) (fun t21 again20 w22 =>
  (sh_heap_Heap_Len p3 (fun x23 w24 =>
  (cond (decide (x23 > (0 : Int))) (sh_heap_Heap_Len p3 (fun x25 w26 =>
  (sh_heap_Heap_First p3 (fun x27 x28 t29 w30 =>
  (sh_heap_Heap_Pop p3 (fun x31 x32 t33 w34 =>
  (sh_heap_Heap_Key p3 x31 (fun x35 t36 w37 =>
  (cond (x27 != x31) (K false w37) (cond (x28 != x32) (K false w37) (cond (!t29) (K false w37) (cond (!t33) (K false w37) (cond t36 (K false w37) (sh_heap_Heap_Len p3 (fun x38 w39 =>
  (cond (x38 != (IntKind.i64.wrap (x25 - (1 : Int)))) (K false w39) (again20 () w39))) w37))))))) w34)) w30)) w26)) w24) (J19 () w24))) w22)) () w18))
  (fun t40 w41 =>
  (sh_heap_Heap_Pop p3 (fun x42 x43 t44 w45 =>
  (cond (x42 == (0 : Int)) (cond (x43 == (0 : Int)) (cond (!t44) (sh_postroadlaw03_known  (fun t46 w47 =>
  (K t46 w47)) w45) (K false w45)) (K false w45)) (K false w45))) w41)))))) w))
end Go.Sh
