/- Shallow definitions, printed by gen.py of these sessions. -/
import Derived.Test.YthpbelgmppaafaaPrim
set_option maxRecDepth 100000
set_option linter.unusedVariables false
namespace Go.Sh
def fn_postroadref06_part : FuncId := 43
/-- postroad/postroadref06.part -/
def sh_postroadref06_part (x0 : Int) (n0 : Int) (K : Int → World → Prop) (w : World) : Prop :=
  (if n0 = 0 then False else (cond (decide ((x0.tmod n0) < (0 : Int))) (K (IntKind.i64.wrap ((x0.tmod n0) + n0)) w) (K (x0.tmod n0) w)))

def fn_postroadref06_Of : FuncId := 15
/-- postroad/postroadref06.Of -/
def sh_postroadref06_Of (n0 : Int) (arcs0 : SV) (K : Int → SV → World → Prop) (w : World) : Prop :=
  (∀ b1 w2, Ext w w2 → w.heap.size ≤ b1 → b1 < w2.heap.size →
  (∀ b3 w4, Ext w2 w4 → w2.heap.size ≤ b3 → b3 < w4.heap.size →
  (∀ w5, Off b3 w4 w5 →
  (Join ((Int × SV × Unit) × Unit) (fun J6 =>
  (LoopT (Int × (Int × SV × Unit) × Unit) (fun t8 again7 w9 =>
  (cond (decide (t8.1 < (arcs0.len : Int))) (cond (decide (t8.1 < (40 : Int))) (Idx arcs0.a arcs0.len t8.1 3 (fun a10 =>
  (∃ x11 : Int, w9.cell? (a10.add 0) = some (.int .i64 x11) ∧ ∃ x12 : Int, w9.cell? (a10.add 1) = some (.int .i64 x12) ∧ ∃ x13 : Int, w9.cell? (a10.add 2) = some (.int .i64 x13) ∧
  (∀ b14 w15, Ext w9 w15 → w9.heap.size ≤ b14 → b14 < w15.heap.size →
  (∀ w16, Off b14 w15 w16 →
  (Quiet (Int) (fun r18 =>
  (.int .i64 r18)) (fun K19 w20' => sh_postroadref06_part x11 (if (if (12 : Int) < n0 then (12 : Int) else n0) > (1 : Int) then (if (12 : Int) < n0 then (12 : Int) else n0) else (1 : Int)) (fun x17 w20 => K19 x17 w20) w20') w16 (fun r18 =>
  (Quiet (Int) (fun r22 =>
  (.int .i64 r22)) (fun K23 w24' => sh_postroadref06_part x12 (if (if (12 : Int) < n0 then (12 : Int) else n0) > (1 : Int) then (if (12 : Int) < n0 then (12 : Int) else n0) else (1 : Int)) (fun x21 w24 => K23 x21 w24) w24') w16 (fun r22 =>
  (Quiet (Int) (fun r26 =>
  (.int .i64 r26)) (fun K27 w28' => sh_postroadref06_part x13 (2147483649 : Int) (fun x25 w28 => K27 x25 w28) w28') w16 (fun r26 =>
  (∀ w29, Ext w16 w29 →
  (NewB [(.int .i64 r18), (.int .i64 r22), (.int .i64 r26)] w29 (fun b30 w31 =>
  (∀ w32, Ext w31 w32 →
  (App 24 [(.int .i64 (0 : Int)), (.int .i64 (0 : Int)), (.int .i64 (0 : Int))] t8.2.1.2.1 ⟨(some ⟨b30, 0, none⟩), 1, 1⟩ w32 (fun s33 w34 =>
  (Keeps [b14, b3, b1] w32 w34 ∧
  (∀ w35, Ext w34 w35 →
  (∀ w36, Off b3 w35 w36 →
  (∀ w37, Ext w36 w37 →
  (again7 ((IntKind.i64.wrap (t8.1 + (1 : Int))), (t8.2.1.1, s33, ()), ()) w37)))))))))))))))))))))) (J6 ((t8.2.1.1, t8.2.1.2.1, ()), ()) w9)) (J6 ((t8.2.1.1, t8.2.1.2.1, ()), ()) w9))) ((0 : Int), ((if (if (12 : Int) < n0 then (12 : Int) else n0) > (1 : Int) then (if (12 : Int) < n0 then (12 : Int) else n0) else (1 : Int)), ⟨none, 0, 0⟩, ()), ()) w5))
  (fun t38 w39 =>
  (∀ w40, Off b1 w39 w40 →
  (K t38.1.1 t38.1.2.1 w40)))))))

def fn_gr_Check : FuncId := 44
/-- postroad/gr.Check -/
def sh_gr_Check (m0_N : Int) (m0_Arcs : SV) (K : Int → World → Prop) (w : World) : Prop :=
  (∀ b1 w2, Ext w w2 → w.heap.size ≤ b1 → b1 < w2.heap.size →
  (cond (decide (m0_N > (16777216 : Int))) (K (3 : Int) w2) (cond (decide ((m0_Arcs.len : Int) > (67108864 : Int))) (K (3 : Int) w2) (cond (decide (m0_N < (0 : Int))) (K (2 : Int) w2) (LoopT (Int × Unit) (fun t4 again3 w5 =>
  (cond (decide (t4.1 < (m0_Arcs.len : Int))) (Idx m0_Arcs.a m0_Arcs.len t4.1 3 (fun a6 =>
  (∃ x7 : Int, w5.cell? (a6.add 0) = some (.int .i64 x7) ∧ ∃ x8 : Int, w5.cell? (a6.add 1) = some (.int .i64 x8) ∧ ∃ x9 : Int, w5.cell? (a6.add 2) = some (.int .i64 x9) ∧
  (∀ b10 w11, Ext w5 w11 → w5.heap.size ≤ b10 → b10 < w11.heap.size →
  (∀ w12, Off b10 w11 w12 →
  (cond (decide ((if x9 < (if x8 < x7 then x8 else x7) then x9 else (if x8 < x7 then x8 else x7)) < (0 : Int))) (K (2 : Int) w12) (cond (decide ((if x8 > x7 then x8 else x7) ≥ m0_N)) (K (2 : Int) w12) (cond (decide (x9 > (2147483648 : Int))) (K (2 : Int) w12) (again3 ((IntKind.i64.wrap (t4.1 + (1 : Int))), ()) w12))))))))) (K (0 : Int) w5))) ((0 : Int), ()) w2)))))

def fn_graph_New_c1 : FuncId := 45
/-- postroad/graph.New$1 -/
def sh_graph_New_c1 (k0 : Int) (free1 : Addr) (K : Int → World → Prop) (w : World) : Prop :=
  (∃ s1 : SV, w.cell? (free1.add 1) = some (.slice s1.a s1.len s1.cap) ∧ (Idx s1.a s1.len k0 3 (fun a2 => (∃ x3 : Int, w.cell? (a2.add 0) = some (.int .i64 x3) ∧ (K x3 w)))))

def fn_graph_New_c2 : FuncId := 46
/-- postroad/graph.New$2 -/
def sh_graph_New_c2 (k0 : Int) (free1 : Addr) (K : Int → World → Prop) (w : World) : Prop :=
  (∃ s1 : SV, w.cell? (free1.add 1) = some (.slice s1.a s1.len s1.cap) ∧ (Idx s1.a s1.len k0 3 (fun a2 => (∃ x3 : Int, w.cell? (a2.add 1) = some (.int .i64 x3) ∧ (K x3 w)))))

def fn_graph_numbers_Arc_c1 : FuncId := 65
/-- postroad/graph.numbers[postroad/api.Arc]$1 -/
def sh_graph_numbers_Arc_c1 (CV : CVT) (Y0 : Int → (Bool → World → Prop) → World → Prop) (free1 : Addr) (free2 : Addr) (K : World → Prop) (w : World) : Prop :=
  (∃ s1 : SV, w.cell? free1 = some (.slice s1.a s1.len s1.cap) ∧
  (LoopT (Int × Unit) (fun t3 again2 w4 =>
  (cond (decide (t3.1 < (s1.len : Int))) (Idx s1.a s1.len t3.1 3 (fun a5 =>
  (∃ x6 : Int, w4.cell? (a5.add 0) = some (.int .i64 x6) ∧ ∃ x7 : Int, w4.cell? (a5.add 1) = some (.int .i64 x7) ∧ ∃ x8 : Int, w4.cell? (a5.add 2) = some (.int .i64 x8) ∧
  (∀ b9 w10, Ext w4 w10 → w4.heap.size ≤ b9 → b9 < w10.heap.size →
  (∀ w11, Off b9 w10 w11 →
  (∃ x12 : Value, w11.cell? free2 = some x12 ∧
  (CV x12 [(.int .i64 t3.1), (.agg #[(.int .i64 x6), (.int .i64 x7), (.int .i64 x8)])] (fun r14 w15 => ∃ t13 : Bool, r14 = (.bool t13) ∧
  (Keeps [b9] w11 w15 ∧
  (cond t13 (Y0 t3.1 (fun t16 w17 =>
  (Keeps [b9] w15 w17 ∧
  (cond (!t16) (K w17) (again2 ((IntKind.i64.wrap (t3.1 + (1 : Int))), ()) w17)))) w15) (again2 ((IntKind.i64.wrap (t3.1 + (1 : Int))), ()) w15)))) w11))))))) (K w4))) ((0 : Int), ()) w))

def fn_graph_numbers_Arc : FuncId := 47

def fn_graph_New_c3 : FuncId := 48
/-- postroad/graph.New$3 -/
def sh_graph_New_c3 (arg0_0 : Int) (a0_From : Int) (a0_To : Int) (a0_W : Int) (K : Bool → World → Prop) (w : World) : Prop :=
  (∀ b1 w2, Ext w w2 → w.heap.size ≤ b1 → b1 < w2.heap.size → (K (a0_From != a0_To) w2))

def fn_graph_sorted : FuncId := 49
/-- postroad/graph.sorted -/
def sh_graph_sorted (CV : CVT) (n0 : Int) (l0 : SV) (end_0 : Value) (K : SV → World → Prop) (w : World) : Prop :=
  (MkS 8 [(.int .i64 (0 : Int))] (IntKind.i64.wrap (n0 + (1 : Int))) (IntKind.i64.wrap (n0 + (1 : Int))) w (fun s1 w2 =>
  (Join (Unit) (fun J3 =>
  (LoopT (Int × Unit) (fun t5 again4 w6 =>
  (cond (decide (t5.1 < (l0.len : Int))) (Idx l0.a l0.len t5.1 1 (fun a7 =>
  (∃ x8 : Int, w6.cell? a7 = some (.int .i64 x8) ∧
  (CV end_0 [(.int .i64 x8)] (fun r10 w11 => ∃ x9 : Int, r10 = (.int .i64 x9) ∧
  (Idx s1.a s1.len (IntKind.i64.wrap (x9 + (1 : Int))) 1 (fun a12 =>
  (∃ x13 : Int, w11.cell? a12 = some (.int .i64 x13) ∧
  (Idx s1.a s1.len (IntKind.i64.wrap (x9 + (1 : Int))) 1 (fun a14 =>
  (stL w11 a14 [(.int .i64 (IntKind.i64.wrap (x13 + (1 : Int))))] 0 (fun w15 =>
  (again4 ((IntKind.i64.wrap (t5.1 + (1 : Int))), ()) w15))))))))) w6)))) (J3 () w6))) ((0 : Int), ()) w2))
  (fun t16 w17 =>
  (Join (Unit) (fun J18 =>
  (LoopT (Int × Unit) (fun t20 again19 w21 =>
  (cond (decide (t20.1 < n0)) (Idx s1.a s1.len (IntKind.i64.wrap (t20.1 + (1 : Int))) 1 (fun a22 =>
  (∃ x23 : Int, w21.cell? a22 = some (.int .i64 x23) ∧
  (Idx s1.a s1.len t20.1 1 (fun a24 =>
  (∃ x25 : Int, w21.cell? a24 = some (.int .i64 x25) ∧
  (Idx s1.a s1.len (IntKind.i64.wrap (t20.1 + (1 : Int))) 1 (fun a26 =>
  (∀ w27, Ext w21 w27 →
  (stL w27 a26 [(.int .i64 (IntKind.i64.wrap (x23 + x25)))] 0 (fun w28 =>
  (∀ w29, Ext w28 w29 →
  (again19 ((IntKind.i64.wrap (t20.1 + (1 : Int))), ()) w29))))))))))))) (J18 () w21))) ((0 : Int), ()) w17))
  (fun t30 w31 =>
  (MkS 8 [(.int .i64 (0 : Int))] (l0.len : Int) (l0.len : Int) w31 (fun s32 w33 =>
  (LoopT (Int × Unit) (fun t35 again34 w36 =>
  (cond (decide (t35.1 < (l0.len : Int))) (Idx l0.a l0.len t35.1 1 (fun a37 =>
  (∃ x38 : Int, w36.cell? a37 = some (.int .i64 x38) ∧
  (CV end_0 [(.int .i64 x38)] (fun r40 w41 => ∃ x39 : Int, r40 = (.int .i64 x39) ∧
  (Idx s1.a s1.len x39 1 (fun a42 =>
  (∃ x43 : Int, w41.cell? a42 = some (.int .i64 x43) ∧
  (Idx s32.a s32.len x43 1 (fun a44 =>
  (stL w41 a44 [(.int .i64 x38)] 0 (fun w45 =>
  (CV end_0 [(.int .i64 x38)] (fun r47 w48 => ∃ x46 : Int, r47 = (.int .i64 x46) ∧
  (Idx s1.a s1.len x46 1 (fun a49 =>
  (∃ x50 : Int, w48.cell? a49 = some (.int .i64 x50) ∧
  (Idx s1.a s1.len x46 1 (fun a51 =>
  (stL w48 a51 [(.int .i64 (IntKind.i64.wrap (x50 + (1 : Int))))] 0 (fun w52 =>
  (again34 ((IntKind.i64.wrap (t35.1 + (1 : Int))), ()) w52))))))))) w45))))))))) w36)))) (K s32 w36))) ((0 : Int), ()) w33)))))))))

def fn_graph_better : FuncId := 50
/-- postroad/graph.better -/
def sh_graph_better (m0_N : Int) (m0_Arcs : SV) (a0 : Int) (b0 : Int) (K : Bool → World → Prop) (w : World) : Prop :=
  (∀ b1 w2, Ext w w2 → w.heap.size ≤ b1 → b1 < w2.heap.size →
  (Idx m0_Arcs.a m0_Arcs.len a0 3 (fun a3 =>
  (∃ x4 : Int, w2.cell? (a3.add 2) = some (.int .i64 x4) ∧
  (Idx m0_Arcs.a m0_Arcs.len b0 3 (fun a5 =>
  (∃ x6 : Int, w2.cell? (a5.add 2) = some (.int .i64 x6) ∧
  (∀ w7, Ext w2 w7 →
  (K (decide (x4 < x6)) w7)))))))))

def fn_graph_numbers_bool_c1 : FuncId := 66
/-- postroad/graph.numbers[bool]$1 -/
def sh_graph_numbers_bool_c1 (CV : CVT) (Y0 : Int → (Bool → World → Prop) → World → Prop) (free1 : Addr) (free2 : Addr) (K : World → Prop) (w : World) : Prop :=
  (∃ s1 : SV, w.cell? free1 = some (.slice s1.a s1.len s1.cap) ∧
  (LoopT (Int × Unit) (fun t3 again2 w4 =>
  (cond (decide (t3.1 < (s1.len : Int))) (Idx s1.a s1.len t3.1 1 (fun a5 =>
  (∃ t6 : Bool, w4.cell? a5 = some (.bool t6) ∧
  (∃ x7 : Value, w4.cell? free2 = some x7 ∧
  (CV x7 [(.int .i64 t3.1), (.bool t6)] (fun r9 w10 => ∃ t8 : Bool, r9 = (.bool t8) ∧
  (cond t8 (Y0 t3.1 (fun t11 w12 =>
  (cond (!t11) (K w12) (again2 ((IntKind.i64.wrap (t3.1 + (1 : Int))), ()) w12))) w10) (again2 ((IntKind.i64.wrap (t3.1 + (1 : Int))), ()) w10))) w4))))) (K w4))) ((0 : Int), ()) w))

def fn_graph_numbers_bool : FuncId := 54

def fn_graph_Graph_Kept_c1 : FuncId := 55
/-- (*postroad/graph.Graph).Kept$1 -/
def sh_graph_Graph_Kept_c1 (arg0_0 : Int) (is0 : Bool) (K : Bool → World → Prop) (w : World) : Prop :=
  (K is0 w)

def fn_graph_Graph_Kept : FuncId := 22
/-- (*postroad/graph.Graph).Kept -/
def sh_graph_Graph_Kept (CV : CVT) (g0 : Option Addr) (K : SV → World → Prop) (w : World) : Prop :=
  (∀ b1 w2, Ext w w2 → w.heap.size ≤ b1 → b1 < w2.heap.size →
  (cond g0.isNone (K ⟨none, 0, 0⟩ w2) (Nn g0 (fun a3 =>
  (∃ s4 : SV, w2.cell? (a3.add 6) = some (.slice s4.a s4.len s4.cap) ∧
  (∀ b1005 w1006, Ext w2 w1006 → w2.heap.size ≤ b1005 → b1005 < w1006.heap.size →
  (∀ b1007 w1008, Ext w1006 w1008 → w1006.heap.size ≤ b1007 → b1007 < w1008.heap.size →
  (Blk w1008 b1005 [(.slice s4.a s4.len s4.cap)] →
  (Blk w1008 b1007 [(Value.func (.func fn_graph_Graph_Kept_c1) #[] #[])] →
  (Keeps [b1] w2 w1008 ∧
  (Blk w1008 b1 [(.slice none 0 0)] →
  (∀ D1009 l1010 w1011, Ext w1008 w1011 → w1008.heap.size ≤ D1009 → D1009 < l1010 → l1010 < w1011.heap.size →
  (sh_graph_numbers_bool_c1 CV (fun x1012 K1014 w1013 =>
  (w1013.heap[l1010]? = w1011.heap[l1010]? ∧
  (∀ w1015, Off l1010 w1013 w1015 →
  (∃ s1016 : SV, w1015.cell? (⟨b1, 0, none⟩ : Addr) = some (.slice s1016.a s1016.len s1016.cap) ∧
  (NewB [(.int .i64 x1012)] w1015 (fun b1017 w1018 =>
  (App 8 [(.int .i64 (0 : Int))] s1016 ⟨(some ⟨b1017, 0, none⟩), 1, 1⟩ w1018 (fun s1019 w1020 =>
  (Keeps [l1010] w1018 w1020 ∧
  (stL w1020 (⟨b1, 0, none⟩ : Addr) [(.slice s1019.a s1019.len s1019.cap)] 0 (fun w1021 =>
  (Keeps [l1010] w1020 w1021 ∧
  (∀ w1022, Off l1010 w1021 w1022 →
  (w1022.heap[l1010]? = w1011.heap[l1010]? → K1014 true w1022)))))))))))))) ⟨b1005, 0, none⟩ ⟨b1007, 0, none⟩ (fun w1023 =>
  (Keeps [D1009] w1011 w1023 ∧
  ((w1023.heap[l1010]? = w1011.heap[l1010]? ∧
  (∀ w1024, Off l1010 w1023 w1024 →
  (∃ s1025 : SV, w1024.cell? (⟨b1, 0, none⟩ : Addr) = some (.slice s1025.a s1025.len s1025.cap) ∧
  (∀ w1026, Off D1009 w1024 w1026 →
  (K s1025 w1026))))) ∨ False))) w1011)))))))))))))

def fn_graph_lay : FuncId := 51
/-- postroad/graph.lay -/
def sh_graph_lay (CV : CVT) (m0_N : Int) (m0_Arcs : SV) (l0 : SV) (from_0 : Value) (to_0 : Value) (K : SV → SV → World → Prop) (w : World) : Prop :=
  (∀ b1 w2, Ext w w2 → w.heap.size ≤ b1 → b1 < w2.heap.size →
  (∀ b3 w4, Ext w2 w4 → w2.heap.size ≤ b3 → b3 < w4.heap.size →
  (MkS 8 [(.int .i64 (0 : Int))] (IntKind.i64.wrap (m0_N + (1 : Int))) (IntKind.i64.wrap (m0_N + (1 : Int))) w4 (fun s5 w6 =>
  (∀ b7 w8, Ext w6 w8 → w6.heap.size ≤ b7 → b7 < w8.heap.size →
  (∀ w9, Off b7 w8 w9 →
  (Join ((SV × SV × Unit) × Unit) (fun J10 =>
  (∀ w12, Ext w9 w12 →
  (sh_graph_sorted CV m0_N l0 to_0 (fun s11 w13 =>
  (Keeps [b7, b3, b1] w12 w13 ∧
  (∀ w15, Ext w13 w15 →
  (sh_graph_sorted CV m0_N s11 from_0 (fun s14 w16 =>
  (Keeps [b7, b3, b1] w15 w16 ∧
  (∀ w17, Ext w16 w17 →
  (LoopT (Int × (SV × SV × Unit) × Unit) (fun t19 again18 w20 =>
  (cond (decide (t19.1 < (s14.len : Int))) (Idx s14.a s14.len t19.1 1 (fun a21 =>
  (∃ x22 : Int, w20.cell? a21 = some (.int .i64 x22) ∧
  (Idx m0_Arcs.a m0_Arcs.len x22 3 (fun a23 =>
  (∃ x24 : Int, w20.cell? (a23.add 2) = some (.int .i64 x24) ∧
  (∀ w28, Ext w20 w28 →
  (CV to_0 [(.int .i64 x22)] (fun r27 w29 => ∃ x26 : Int, r27 = (.int .i64 x26) ∧
  (Keeps [b7, b3, b1] w28 w29 ∧
  ((∃ y25 : Int, w29.cell? (a23.add 2) = some (.int .i64 y25) ∧
  ((.int .i64 y25) : Value) = (.int .i64 x24)) ∧
  (∀ w30, Ext w29 w30 →
  (NewB [(.int .i64 x26), (.int .i64 x24), (.int .i64 x22)] w30 (fun b31 w32 =>
  (∀ w33, Ext w32 w33 →
  (App 24 [(.int .i64 (0 : Int)), (.int .i64 (0 : Int)), (.int .i64 (0 : Int))] t19.2.1.2.1 ⟨(some ⟨b31, 0, none⟩), 1, 1⟩ w33 (fun s34 w35 =>
  (Keeps [b7, b3, b1] w33 w35 ∧
  (∀ w36, Ext w35 w36 →
  (∀ w37, Off b7 w36 w37 →
  (∀ w38, Ext w37 w38 →
  (∀ w41, Ext w38 w41 →
  (CV from_0 [(.int .i64 x22)] (fun r40 w42 => ∃ x39 : Int, r40 = (.int .i64 x39) ∧
  (Keeps [b7, b3, b1] w41 w42 ∧
  (Idx t19.2.1.1.a t19.2.1.1.len (IntKind.i64.wrap (x39 + (1 : Int))) 1 (fun a43 =>
  (∃ x44 : Int, w42.cell? a43 = some (.int .i64 x44) ∧
  (Idx t19.2.1.1.a t19.2.1.1.len (IntKind.i64.wrap (x39 + (1 : Int))) 1 (fun a45 =>
  (∀ w46, Ext w42 w46 →
  (stL w46 a45 [(.int .i64 (IntKind.i64.wrap (x44 + (1 : Int))))] 0 (fun w47 =>
  (Keeps [b7, b3, b1] w46 w47 ∧
  (∀ w48, Ext w47 w48 →
  (again18 ((IntKind.i64.wrap (t19.1 + (1 : Int))), (t19.2.1.1, s34, ()), ()) w48))))))))))))) w41))))))))))))))) w28)))))))) (J10 ((t19.2.1.1, t19.2.1.2.1, ()), ()) w20))) ((0 : Int), (s5, ⟨none, 0, 0⟩, ()), ()) w17)))) w15)))) w12)))
  (fun t49 w50 =>
  (Join (Unit) (fun J51 =>
  (LoopT (Int × Unit) (fun t53 again52 w54 =>
  (cond (decide (t53.1 < m0_N)) (Idx t49.1.1.a t49.1.1.len (IntKind.i64.wrap (t53.1 + (1 : Int))) 1 (fun a55 =>
  (∃ x56 : Int, w54.cell? a55 = some (.int .i64 x56) ∧
  (Idx t49.1.1.a t49.1.1.len t53.1 1 (fun a57 =>
  (∃ x58 : Int, w54.cell? a57 = some (.int .i64 x58) ∧
  (Idx t49.1.1.a t49.1.1.len (IntKind.i64.wrap (t53.1 + (1 : Int))) 1 (fun a59 =>
  (∀ w60, Ext w54 w60 →
  (stL w60 a59 [(.int .i64 (IntKind.i64.wrap (x56 + x58)))] 0 (fun w61 =>
  (Keeps [b7, b3, b1] w60 w61 ∧
  (∀ w62, Ext w61 w62 →
  (again52 ((IntKind.i64.wrap (t53.1 + (1 : Int))), ()) w62)))))))))))))) (J51 () w54))) ((0 : Int), ()) w50))
  (fun t63 w64 =>
  (∀ w65, Off b3 w64 w65 →
  (K t49.1.1 t49.1.2.1 w65))))))))))))

def fn_graph_New : FuncId := 16
/-- postroad/graph.New -/
def sh_graph_New (CV : CVT) (m0_N : Int) (m0_Arcs : SV) (K : Option Addr → World → Prop) (w : World) : Prop :=
  (∀ b1 w2, Ext w w2 → w.heap.size ≤ b1 → b1 < w2.heap.size →
  (sh_gr_Check m0_N m0_Arcs (fun x3 w4 =>
  (Keeps [b1] w2 w4 ∧
  (cond (x3 != (0 : Int)) (K none w4) (App 24 [(.int .i64 (0 : Int)), (.int .i64 (0 : Int)), (.int .i64 (0 : Int))] ⟨none, 0, 0⟩ m0_Arcs w4 (fun s5 w6 =>
  (Keeps [b1] w4 w6 ∧
  (∀ w7, Off b1 w6 w7 →
  (∀ w8, Ext w7 w8 →
  (MkS 1 [(.bool false)] (s5.len : Int) (s5.len : Int) w8 (fun s9 w10 =>
  (∀ b11 w12, Ext w10 w12 → w10.heap.size ≤ b11 → b11 < w12.heap.size →
  (∀ w13, Ext w12 w13 →
  (Blk w13 b1 [(.int .i64 m0_N), (.slice s5.a s5.len s5.cap)] →
  (∀ b14 w15, Ext w13 w15 → w13.heap.size ≤ b14 → b14 < w15.heap.size →
  (∃ s16 : SV, w15.cell? (⟨b1, 1, none⟩ : Addr) = some (.slice s16.a s16.len s16.cap) ∧
  (∀ b1017 w1018, Ext w15 w1018 → w15.heap.size ≤ b1017 → b1017 < w1018.heap.size →
  (∀ b1019 w1020, Ext w1018 w1020 → w1018.heap.size ≤ b1019 → b1019 < w1020.heap.size →
  (Blk w1020 b1017 [(.slice s16.a s16.len s16.cap)] →
  (Blk w1020 b1019 [(Value.func (.func fn_graph_New_c3) #[] #[])] →
  (Keeps [b14, b11] w15 w1020 ∧
  (Blk w1020 b11 [(.int .i64 m0_N), (.slice s5.a s5.len s5.cap), (.slice none 0 0), (.slice none 0 0), (.slice none 0 0), (.slice none 0 0), (.slice s9.a s9.len s9.cap)] →
  (Blk w1020 b14 [(.slice none 0 0)] →
  (∀ D1021 l1022 w1023, Ext w1020 w1023 → w1020.heap.size ≤ D1021 → D1021 < l1022 → l1022 < w1023.heap.size →
  (sh_graph_numbers_Arc_c1 CV (fun x1024 K1026 w1025 =>
  (w1025.heap[l1022]? = w1023.heap[l1022]? ∧
  (∀ w1027, Off l1022 w1025 w1027 →
  (∃ s1028 : SV, w1027.cell? (⟨b14, 0, none⟩ : Addr) = some (.slice s1028.a s1028.len s1028.cap) ∧
  (NewB [(.int .i64 x1024)] w1027 (fun b1029 w1030 =>
  (App 8 [(.int .i64 (0 : Int))] s1028 ⟨(some ⟨b1029, 0, none⟩), 1, 1⟩ w1030 (fun s1031 w1032 =>
  (Keeps [l1022] w1030 w1032 ∧
  (stL w1032 (⟨b14, 0, none⟩ : Addr) [(.slice s1031.a s1031.len s1031.cap)] 0 (fun w1033 =>
  (Keeps [l1022] w1032 w1033 ∧
  (∀ w1034, Off l1022 w1033 w1034 →
  (w1034.heap[l1022]? = w1023.heap[l1022]? → K1026 true w1034)))))))))))))) ⟨b1017, 0, none⟩ ⟨b1019, 0, none⟩ (fun w1035 =>
  (Keeps [D1021] w1023 w1035 ∧
  ((w1035.heap[l1022]? = w1023.heap[l1022]? ∧
  (∀ w1036, Off l1022 w1035 w1036 →
  (Join (Unit) (fun J1037 =>
  (∃ x1038 : Int, w1036.cell? ((⟨b1, 0, none⟩ : Addr).add 0) = some (.int .i64 x1038) ∧
  (∃ x1040 : Int, w1036.cell? ((⟨b1, 0, none⟩ : Addr).add 0) = some (.int .i64 x1040) ∧
  (∃ s1041 : SV, w1036.cell? (⟨b14, 0, none⟩ : Addr) = some (.slice s1041.a s1041.len s1041.cap) ∧
  (∀ w1043, Ext w1036 w1043 →
  (sh_graph_sorted CV x1040 s1041 (Value.func (.func fn_graph_New_c2) #[] #[(.pointer (some ⟨b1, 0, none⟩))]) (fun s1042 w1044 =>
  (Keeps [D1021] w1043 w1044 ∧
  ((∃ y1039 : Int, w1044.cell? ((⟨b1, 0, none⟩ : Addr).add 0) = some (.int .i64 y1039) ∧
  ((.int .i64 y1039) : Value) = (.int .i64 x1038)) ∧
  (∀ w1046, Ext w1044 w1046 →
  (sh_graph_sorted CV x1038 s1042 (Value.func (.func fn_graph_New_c1) #[] #[(.pointer (some ⟨b1, 0, none⟩))]) (fun s1045 w1047 =>
  (Keeps [D1021] w1046 w1047 ∧
  (∀ w1048, Ext w1047 w1048 →
  (LoopT (Int × Int × Unit) (fun t1050 again1049 w1051 =>
  (cond (decide (t1050.2.1 < (s1045.len : Int))) (Idx s1045.a s1045.len t1050.2.1 1 (fun a1052 =>
  (∃ x1053 : Int, w1051.cell? a1052 = some (.int .i64 x1053) ∧
  (Join (Unit) (fun J1054 =>
  (cond (decide (t1050.1 ≥ (0 : Int))) (sh_graph_New_c1 t1050.1 ⟨b1, 0, none⟩ (fun x1055 w1056 =>
  (Keeps [D1021] w1051 w1056 ∧
  (sh_graph_New_c1 x1053 ⟨b1, 0, none⟩ (fun x1057 w1058 =>
  (Keeps [D1021] w1056 w1058 ∧
  (cond (x1055 == x1057) (sh_graph_New_c2 t1050.1 ⟨b1, 0, none⟩ (fun x1059 w1060 =>
  (Keeps [D1021] w1058 w1060 ∧
  (sh_graph_New_c2 x1053 ⟨b1, 0, none⟩ (fun x1061 w1062 =>
  (Keeps [D1021] w1060 w1062 ∧
  (cond (x1059 == x1061) (∃ x1063 : Int, w1062.cell? ((⟨b1, 0, none⟩ : Addr).add 0) = some (.int .i64 x1063) ∧ ∃ s1064 : SV, w1062.cell? ((⟨b1, 0, none⟩ : Addr).add 1) = some (.slice s1064.a s1064.len s1064.cap) ∧
  (sh_graph_better x1063 s1064 x1053 t1050.1 (fun t1065 w1066 =>
  (Keeps [D1021] w1062 w1066 ∧
  (cond (!t1065) (again1049 (t1050.1, (IntKind.i64.wrap (t1050.2.1 + (1 : Int))), ()) w1066) (Nn (some (⟨b11, 0, none⟩ : Addr)) (fun a1067 =>
  (∃ s1068 : SV, w1066.cell? (a1067.add 6) = some (.slice s1068.a s1068.len s1068.cap) ∧
  (Idx s1068.a s1068.len t1050.1 1 (fun a1069 =>
  (stL w1066 a1069 [(.bool false)] 0 (fun w1070 =>
  (Keeps [D1021] w1066 w1070 ∧
  (J1054 () w1070)))))))))))) w1062)) (J1054 () w1062)))) w1060))) w1058) (J1054 () w1058)))) w1056))) w1051) (J1054 () w1051)))
  (fun t1071 w1072 =>
  (Nn (some (⟨b11, 0, none⟩ : Addr)) (fun a1073 =>
  (∃ s1074 : SV, w1072.cell? (a1073.add 6) = some (.slice s1074.a s1074.len s1074.cap) ∧
  (Idx s1074.a s1074.len x1053 1 (fun a1075 =>
  (stL w1072 a1075 [(.bool true)] 0 (fun w1076 =>
  (Keeps [D1021] w1072 w1076 ∧
  (again1049 (x1053, (IntKind.i64.wrap (t1050.2.1 + (1 : Int))), ()) w1076)))))))))))))) (J1037 () w1051))) ((-1 : Int), (0 : Int), ()) w1048)))) w1046))))) w1043))))))
  (fun t1077 w1078 =>
  (sh_graph_Graph_Kept CV (some (⟨b11, 0, none⟩ : Addr)) (fun s1079 w1080 =>
  (Keeps [D1021] w1078 w1080 ∧
  (∃ x1081 : Int, w1080.cell? ((⟨b1, 0, none⟩ : Addr).add 0) = some (.int .i64 x1081) ∧ ∃ s1082 : SV, w1080.cell? ((⟨b1, 0, none⟩ : Addr).add 1) = some (.slice s1082.a s1082.len s1082.cap) ∧
  (∃ x1083 : Int, w1080.cell? ((⟨b1, 0, none⟩ : Addr).add 0) = some (.int .i64 x1083) ∧ ∃ s1084 : SV, w1080.cell? ((⟨b1, 0, none⟩ : Addr).add 1) = some (.slice s1084.a s1084.len s1084.cap) ∧
  (∀ w1089, Ext w1080 w1089 →
  (sh_graph_lay CV x1081 s1082 s1079 (Value.func (.func fn_graph_New_c1) #[] #[(.pointer (some ⟨b1, 0, none⟩))]) (Value.func (.func fn_graph_New_c2) #[] #[(.pointer (some ⟨b1, 0, none⟩))]) (fun s1087 s1088 w1090 =>
  (Keeps [D1021] w1089 w1090 ∧
  ((∃ y1085 : Int, w1090.cell? ((⟨b1, 0, none⟩ : Addr).add 0) = some (.int .i64 y1085) ∧ ∃ y1086 : SV, w1090.cell? ((⟨b1, 0, none⟩ : Addr).add 1) = some (.slice y1086.a y1086.len y1086.cap) ∧
  ((.agg #[(.int .i64 y1085), (.slice y1086.a y1086.len y1086.cap)]) : Value) = (.agg #[(.int .i64 x1083), (.slice s1084.a s1084.len s1084.cap)])) ∧
  (∀ w1093, Ext w1090 w1093 →
  (sh_graph_lay CV x1083 s1084 s1079 (Value.func (.func fn_graph_New_c2) #[] #[(.pointer (some ⟨b1, 0, none⟩))]) (Value.func (.func fn_graph_New_c1) #[] #[(.pointer (some ⟨b1, 0, none⟩))]) (fun s1091 s1092 w1094 =>
  (Keeps [D1021] w1093 w1094 ∧
  (Nn (some (⟨b11, 0, none⟩ : Addr)) (fun a1095 =>
  (∀ w1096, Ext w1094 w1096 →
  (stL w1096 (a1095.add 2) [(.slice s1087.a s1087.len s1087.cap), (.slice s1088.a s1088.len s1088.cap)] 0 (fun w1097 =>
  (Keeps [D1021] w1096 w1097 ∧
  (Nn (some (⟨b11, 0, none⟩ : Addr)) (fun a1098 =>
  (∀ w1099, Ext w1097 w1099 →
  (stL w1099 (a1098.add 4) [(.slice s1091.a s1091.len s1091.cap), (.slice s1092.a s1092.len s1092.cap)] 0 (fun w1100 =>
  (Keeps [D1021] w1099 w1100 ∧
  (∀ w1101, Ext w1100 w1101 →
  (∀ w1102, Off D1021 w1101 w1102 →
  (K (some (⟨b11, 0, none⟩ : Addr)) w1102))))))))))))))))) w1093))))) w1089)))))) w1078))))) ∨ False))) w1023)))))))))))))))))))))))) w2))

def fn_graph_Graph_N : FuncId := 20
/-- (*postroad/graph.Graph).N -/
def sh_graph_Graph_N (g0 : Option Addr) (K : Int → World → Prop) (w : World) : Prop :=
  (cond g0.isNone (K (0 : Int) w) (Nn g0 (fun a1 => (∃ x2 : Int, w.cell? ((a1.add 0).add 0) = some (.int .i64 x2) ∧ (K x2 w)))))

def fn_graph_Graph_is : FuncId := 52
/-- (*postroad/graph.Graph).is -/
def sh_graph_Graph_is (g0 : Option Addr) (v0 : Int) (K : Bool → World → Prop) (w : World) : Prop :=
  (cond (decide (v0 ≥ (0 : Int))) (sh_graph_Graph_N g0 (fun x1 w2 => (K (decide (v0 < x1)) w2)) w) (K false w))

def fn_graph_side_all : FuncId := 53
/-- (*postroad/graph.side).all -/
def sh_graph_side_all (s0 : Option Addr) (v0 : Int) (K : SV → World → Prop) (w : World) : Prop :=
  (Nn s0 (fun a1 =>
  (∃ s2 : SV, w.cell? (a1.add 1) = some (.slice s2.a s2.len s2.cap) ∧
  (Nn s0 (fun a3 =>
  (∃ s4 : SV, w.cell? (a3.add 0) = some (.slice s4.a s4.len s4.cap) ∧
  (Idx s4.a s4.len v0 1 (fun a5 =>
  (∃ x6 : Int, w.cell? a5 = some (.int .i64 x6) ∧
  (Nn s0 (fun a7 =>
  (∃ s8 : SV, w.cell? (a7.add 0) = some (.slice s8.a s8.len s8.cap) ∧
  (Idx s8.a s8.len (IntKind.i64.wrap (v0 + (1 : Int))) 1 (fun a9 =>
  (∃ x10 : Int, w.cell? a9 = some (.int .i64 x10) ∧
  (semSlice 3 s2.a s2.len s2.cap (some x6) (some x10) (fun s11 =>
  (∀ w12, Ext w w12 →
  (App 24 [(.int .i64 (0 : Int)), (.int .i64 (0 : Int)), (.int .i64 (0 : Int))] ⟨none, 0, 0⟩ s11 w12 (fun s13 w14 =>
  (∀ w15, Ext w14 w15 →
  (K s13 w15))))))))))))))))))))))

def fn_graph_Graph_Out : FuncId := 18
/-- (*postroad/graph.Graph).Out -/
def sh_graph_Graph_Out (g0 : Option Addr) (v0 : Int) (K : SV → World → Prop) (w : World) : Prop :=
  (sh_graph_Graph_is g0 v0 (fun t1 w2 => (cond (!t1) (K ⟨none, 0, 0⟩ w2) (Nn g0 (fun a3 => (sh_graph_side_all (some (a3.add 2)) v0 (fun s4 w5 => (K s4 w5)) w2))))) w)

def fn_graph_Graph_In : FuncId := 19
/-- (*postroad/graph.Graph).In -/
def sh_graph_Graph_In (g0 : Option Addr) (v0 : Int) (K : SV → World → Prop) (w : World) : Prop :=
  (sh_graph_Graph_is g0 v0 (fun t1 w2 => (cond (!t1) (K ⟨none, 0, 0⟩ w2) (Nn g0 (fun a3 => (sh_graph_side_all (some (a3.add 4)) v0 (fun s4 w5 => (K s4 w5)) w2))))) w)

def fn_postroadref06_SameEdges : FuncId := 17
/-- postroad/postroadref06.SameEdges -/
def sh_postroadref06_SameEdges (a0 : SV) (b0 : SV) (K : Bool → World → Prop) (w : World) : Prop :=
  (cond ((a0.len : Int) != (b0.len : Int)) (K false w) (LoopT (Int × Unit) (fun t2 again1 w3 =>
  (cond (decide (t2.1 < (a0.len : Int))) (Idx a0.a a0.len t2.1 3 (fun a4 =>
  (∃ x5 : Int, w3.cell? (a4.add 0) = some (.int .i64 x5) ∧ ∃ x6 : Int, w3.cell? (a4.add 1) = some (.int .i64 x6) ∧ ∃ x7 : Int, w3.cell? (a4.add 2) = some (.int .i64 x7) ∧
  (Idx b0.a b0.len t2.1 3 (fun a8 =>
  (∃ x9 : Int, w3.cell? (a8.add 0) = some (.int .i64 x9) ∧ ∃ x10 : Int, w3.cell? (a8.add 1) = some (.int .i64 x10) ∧ ∃ x11 : Int, w3.cell? (a8.add 2) = some (.int .i64 x11) ∧
  (∀ w12, Ext w3 w12 →
  (cond (!((x5 == x9) && ((x6 == x10) && ((x7 == x11) && true)))) (K false w12) (again1 ((IntKind.i64.wrap (t2.1 + (1 : Int))), ()) w12))))))))) (K true w3))) ((0 : Int), ()) w))

def fn_postroadref00_SameInts : FuncId := 21
/-- postroad/postroadref00.SameInts -/
def sh_postroadref00_SameInts (a0 : SV) (b0 : SV) (K : Bool → World → Prop) (w : World) : Prop :=
  (cond ((a0.len : Int) != (b0.len : Int)) (K false w) (LoopT (Int × Unit) (fun t2 again1 w3 =>
  (cond (decide (t2.1 < (a0.len : Int))) (Idx a0.a a0.len t2.1 1 (fun a4 =>
  (∃ x5 : Int, w3.cell? a4 = some (.int .i64 x5) ∧
  (Idx b0.a b0.len t2.1 1 (fun a6 =>
  (∃ x7 : Int, w3.cell? a6 = some (.int .i64 x7) ∧
  (∀ w8, Ext w3 w8 →
  (cond (x5 != x7) (K false w8) (again1 ((IntKind.i64.wrap (t2.1 + (1 : Int))), ()) w8))))))))) (K true w3))) ((0 : Int), ()) w))

def fn_postroadlaw06_known : FuncId := 23
/-- postroad/postroadlaw06.known -/
def sh_postroadlaw06_known (CV : CVT) (K : Bool → World → Prop) (w : World) : Prop :=
  (NewB [(.int .i64 (0 : Int)), (.int .i64 (1 : Int)), (.int .i64 (5 : Int)), (.int .i64 (0 : Int)), (.int .i64 (1 : Int)), (.int .i64 (3 : Int)), (.int .i64 (1 : Int)), (.int .i64 (1 : Int)), (.int .i64 (0 : Int))] w (fun b1 w2 =>
  (sh_graph_New CV (2 : Int) (⟨(some ⟨b1, 0, none⟩), 3, 3⟩) (fun p3 w4 =>
  (sh_graph_Graph_Out p3 (0 : Int) (fun s5 w6 =>
  (NewB [(.int .i64 (1 : Int)), (.int .i64 (3 : Int)), (.int .i64 (1 : Int))] w6 (fun b7 w8 =>
  (sh_postroadref06_SameEdges s5 (⟨(some ⟨b7, 0, none⟩), 1, 1⟩) (fun t9 w10 =>
  (cond t9 (sh_graph_Graph_Out p3 (1 : Int) (fun s11 w12 =>
  (cond ((s11.len : Int) == (0 : Int)) (sh_graph_Graph_N none (fun x13 w14 =>
  (K (x13 == (0 : Int)) w14)) w12) (K false w12))) w10) (K false w10))) w8)))) w4)) w2)))

def fn_postroadlaw06_GraphTurned : FuncId := 3
/-- postroad/postroadlaw06.GraphTurned -/
def sh_postroadlaw06_GraphTurned (CV : CVT) (n0 : Int) (arcs0 : SV) (K : Bool → World → Prop) (w : World) : Prop :=
  (sh_postroadref06_Of n0 arcs0 (fun x1 s2 w3 =>
  (∀ b4 w5, Ext w3 w5 → w3.heap.size ≤ b4 → b4 < w5.heap.size →
  (∀ w6, Off b4 w5 w6 →
  (∀ b7 w8, Ext w6 w8 → w6.heap.size ≤ b7 → b7 < w8.heap.size →
  (∀ w9, Off b7 w8 w9 →
  (Join ((Int × SV × Unit) × Unit) (fun J10 =>
  (LoopT (Int × (Int × SV × Unit) × Unit) (fun t12 again11 w13 =>
  (cond (decide (t12.1 < (s2.len : Int))) (Idx s2.a s2.len t12.1 3 (fun a14 =>
  (∃ x15 : Int, w13.cell? (a14.add 0) = some (.int .i64 x15) ∧ ∃ x16 : Int, w13.cell? (a14.add 1) = some (.int .i64 x16) ∧ ∃ x17 : Int, w13.cell? (a14.add 2) = some (.int .i64 x17) ∧
  (∀ b18 w19, Ext w13 w19 → w13.heap.size ≤ b18 → b18 < w19.heap.size →
  (∀ w20, Off b18 w19 w20 →
  (NewB [(.int .i64 x16), (.int .i64 x15), (.int .i64 x17)] w20 (fun b21 w22 =>
  (App 24 [(.int .i64 (0 : Int)), (.int .i64 (0 : Int)), (.int .i64 (0 : Int))] t12.2.1.2.1 ⟨(some ⟨b21, 0, none⟩), 1, 1⟩ w22 (fun s23 w24 =>
  (Keeps [b18, b7, b4] w22 w24 ∧
  (∀ w25, Off b7 w24 w25 →
  (again11 ((IntKind.i64.wrap (t12.1 + (1 : Int))), (t12.2.1.1, s23, ()), ()) w25)))))))))))) (J10 ((t12.2.1.1, t12.2.1.2.1, ()), ()) w13))) ((0 : Int), (x1, ⟨none, 0, 0⟩, ()), ()) w9))
  (fun t26 w27 =>
  (sh_graph_New CV x1 s2 (fun p28 w29 =>
  (Keeps [b7, b4] w27 w29 ∧
  (sh_graph_New CV t26.1.1 t26.1.2.1 (fun p30 w31 =>
  (Keeps [b7, b4] w29 w31 ∧
  (Join (Unit) (fun J32 =>
  (LoopT (Int × Unit) (fun t34 again33 w35 =>
  (cond (decide (t34.1 < x1)) (sh_graph_Graph_Out p28 t34.1 (fun s36 w37 =>
  (Keeps [b7, b4] w35 w37 ∧
  (sh_graph_Graph_In p30 t34.1 (fun s38 w39 =>
  (Keeps [b7, b4] w37 w39 ∧
  (sh_postroadref06_SameEdges s36 s38 (fun t40 w41 =>
  (Keeps [b7, b4] w39 w41 ∧
  (cond (!t40) (K false w41) (sh_graph_Graph_In p28 t34.1 (fun s42 w43 =>
  (Keeps [b7, b4] w41 w43 ∧
  (sh_graph_Graph_Out p30 t34.1 (fun s44 w45 =>
  (Keeps [b7, b4] w43 w45 ∧
  (sh_postroadref06_SameEdges s42 s44 (fun t46 w47 =>
  (Keeps [b7, b4] w45 w47 ∧
  (cond (!t46) (K false w47) (again33 ((IntKind.i64.wrap (t34.1 + (1 : Int))), ()) w47)))) w45))) w43))) w41)))) w39))) w37))) w35) (J32 () w35))) ((0 : Int), ()) w31))
  (fun t48 w49 =>
  (Quiet (Int) (fun r51 =>
  (.int .i64 r51)) (fun K52 w53' => sh_graph_Graph_N p28 (fun x50 w53 => K52 x50 w53) w53') w49 (fun r51 =>
  (cond (r51 == x1) (∀ w55, Ext w49 w55 →
  (sh_graph_Graph_Kept CV p28 (fun s54 w56 =>
  (Keeps [b7, b4] w55 w56 ∧
  (∀ w58, Ext w56 w58 →
  (sh_graph_Graph_Kept CV p30 (fun s57 w59 =>
  (Keeps [b7, b4] w58 w59 ∧
  (Quiet (Bool) (fun r61 =>
  (.bool r61)) (fun K62 w63' => sh_postroadref00_SameInts s54 s57 (fun t60 w63 => K62 t60 w63) w63') w59 (fun r61 =>
  (cond r61 (∀ w65, Ext w59 w65 →
  (sh_postroadlaw06_known CV (fun t64 w66 =>
  (Keeps [b7, b4] w65 w66 ∧
  (∀ w67, Ext w66 w67 →
  (K t64 w67)))) w65)) (∀ w68, Ext w59 w68 →
  (K false w68))))))) w58)))) w55)) (∀ w69, Ext w49 w69 →
  (K false w69))))))))) w29))) w27)))))))) w)

def fn_postroadlaw06_GraphLoops : FuncId := 4
/-- postroad/postroadlaw06.GraphLoops -/
def sh_postroadlaw06_GraphLoops (CV : CVT) (n0 : Int) (arcs0 : SV) (loops0 : SV) (K : Bool → World → Prop) (w : World) : Prop :=
  (sh_postroadref06_Of n0 arcs0 (fun x1 s2 w3 =>
  (∀ b4 w5, Ext w3 w5 → w3.heap.size ≤ b4 → b4 < w5.heap.size →
  (∀ w6, Off b4 w5 w6 →
  (cond (decide ((loops0.len : Int) > (30 : Int))) (sh_postroadlaw06_known CV (fun t7 w8 =>
  (Keeps [b4] w6 w8 ∧
  (K t7 w8))) w6) (∀ b9 w10, Ext w6 w10 → w6.heap.size ≤ b9 → b9 < w10.heap.size →
  (∀ w11, Off b9 w10 w11 →
  (App 24 [(.int .i64 (0 : Int)), (.int .i64 (0 : Int)), (.int .i64 (0 : Int))] ⟨none, 0, 0⟩ s2 w11 (fun s12 w13 =>
  (Keeps [b9, b4] w11 w13 ∧
  (∀ w14, Off b9 w13 w14 →
  (Join ((Int × SV × Unit) × Unit) (fun J15 =>
  (LoopT (Int × (Int × SV × Unit) × Unit) (fun t17 again16 w18 =>
  (cond (decide (t17.1 < (loops0.len : Int))) (Idx loops0.a loops0.len t17.1 1 (fun a19 =>
  (∃ x20 : Int, w18.cell? a19 = some (.int .u8 x20) ∧
  (if x1 = 0 then False else (∀ w21, Ext w18 w21 →
  (NewB [(.int .i64 ((IntKind.i64.wrap (x20)).tmod x1)), (.int .i64 ((IntKind.i64.wrap (x20)).tmod x1)), (.int .i64 (0 : Int))] w21 (fun b22 w23 =>
  (App 24 [(.int .i64 (0 : Int)), (.int .i64 (0 : Int)), (.int .i64 (0 : Int))] t17.2.1.2.1 ⟨(some ⟨b22, 0, none⟩), 1, 1⟩ w23 (fun s24 w25 =>
  (Keeps [b9, b4] w23 w25 ∧
  (∀ w26, Off b9 w25 w26 →
  (again16 ((IntKind.i64.wrap (t17.1 + (1 : Int))), (t17.2.1.1, s24, ()), ()) w26)))))))))))) (J15 ((t17.2.1.1, t17.2.1.2.1, ()), ()) w18))) ((0 : Int), (x1, s12, ()), ()) w14))
  (fun t27 w28 =>
  (sh_graph_New CV x1 s2 (fun p29 w30 =>
  (Keeps [b9, b4] w28 w30 ∧
  (sh_graph_New CV t27.1.1 t27.1.2.1 (fun p31 w32 =>
  (Keeps [b9, b4] w30 w32 ∧
  (sh_graph_New CV x1 ⟨none, 0, 0⟩ (fun p33 w34 =>
  (Keeps [b9, b4] w32 w34 ∧
  (Join (Unit) (fun J35 =>
  (LoopT (Int × Unit) (fun t37 again36 w38 =>
  (cond (decide (t37.1 < x1)) (sh_graph_Graph_Out p29 t37.1 (fun s39 w40 =>
  (Keeps [b9, b4] w38 w40 ∧
  (sh_graph_Graph_Out p31 t37.1 (fun s41 w42 =>
  (Keeps [b9, b4] w40 w42 ∧
  (sh_postroadref06_SameEdges s39 s41 (fun t43 w44 =>
  (Keeps [b9, b4] w42 w44 ∧
  (cond (!t43) (K false w44) (sh_graph_Graph_Out p33 t37.1 (fun s45 w46 =>
  (Keeps [b9, b4] w44 w46 ∧
  (sh_graph_Graph_In p33 t37.1 (fun s47 w48 =>
  (Keeps [b9, b4] w46 w48 ∧
  (cond ((IntKind.i64.wrap ((s45.len : Int) + (s47.len : Int))) != (0 : Int)) (K false w48) (again36 ((IntKind.i64.wrap (t37.1 + (1 : Int))), ()) w48)))) w46))) w44)))) w42))) w40))) w38) (J35 () w38))) ((0 : Int), ()) w34))
  (fun t49 w50 =>
  (Quiet (Int) (fun r52 =>
  (.int .i64 r52)) (fun K53 w54' => sh_graph_Graph_N p33 (fun x51 w54 => K53 x51 w54) w54') w50 (fun r52 =>
  (cond (r52 == x1) (∀ w56, Ext w50 w56 →
  (sh_graph_Graph_Kept CV p33 (fun s55 w57 =>
  (Keeps [b9, b4] w56 w57 ∧
  (cond ((s55.len : Int) == (0 : Int)) (∀ w59, Ext w57 w59 →
  (sh_graph_Graph_Kept CV p29 (fun s58 w60 =>
  (Keeps [b9, b4] w59 w60 ∧
  (∀ w62, Ext w60 w62 →
  (sh_graph_Graph_Kept CV p31 (fun s61 w63 =>
  (Keeps [b9, b4] w62 w63 ∧
  (Quiet (Bool) (fun r65 =>
  (.bool r65)) (fun K66 w67' => sh_postroadref00_SameInts s58 s61 (fun t64 w67 => K66 t64 w67) w67') w63 (fun r65 =>
  (cond r65 (∀ w69, Ext w63 w69 →
  (sh_postroadlaw06_known CV (fun t68 w70 =>
  (Keeps [b9, b4] w69 w70 ∧
  (∀ w71, Ext w70 w71 →
  (K t68 w71)))) w69)) (∀ w72, Ext w63 w72 →
  (K false w72))))))) w62)))) w59)) (∀ w73, Ext w57 w73 →
  (K false w73))))) w56)) (∀ w74, Ext w50 w74 →
  (K false w74))))))))) w32))) w30))) w28))))))))))))) w)

def fn_postroadref06_Small : FuncId := 24
/-- postroad/postroadref06.Small -/
def sh_postroadref06_Small (m0_N : Int) (m0_Arcs : SV) (n0 : Int) (arcs0 : Int) (K : Bool → World → Prop) (w : World) : Prop :=
  (∀ b1 w2, Ext w w2 → w.heap.size ≤ b1 → b1 < w2.heap.size →
  (cond (decide ((m0_Arcs.len : Int) ≤ arcs0)) (cond (decide (m0_N ≤ n0)) (K true w2) (K (decide (m0_N > (16777216 : Int))) w2)) (K false w2)))

def fn_graph_Graph_Best_c1 : FuncId := 57
/-- (*postroad/graph.Graph).Best$1 -/
def sh_graph_Graph_Best_c1 (arg0_0 : Int) (e0_V : Int) (e0_W : Int) (e0_Arc : Int) (free2 : Addr) (K : Bool → World → Prop) (w : World) : Prop :=
  (∀ b1 w2, Ext w w2 → w.heap.size ≤ b1 → b1 < w2.heap.size → (∃ x3 : Int, w2.cell? free2 = some (.int .i64 x3) ∧ (K (decide (e0_V ≥ x3)) w2)))

def fn_graph_numbers_Edge_c1 : FuncId := 67
/-- postroad/graph.numbers[postroad/api.Edge]$1 -/
def sh_graph_numbers_Edge_c1 (CV : CVT) (Y0 : Int → (Bool → World → Prop) → World → Prop) (free1 : Addr) (free2 : Addr) (K : World → Prop) (w : World) : Prop :=
  (∃ s1 : SV, w.cell? free1 = some (.slice s1.a s1.len s1.cap) ∧
  (LoopT (Int × Unit) (fun t3 again2 w4 =>
  (cond (decide (t3.1 < (s1.len : Int))) (Idx s1.a s1.len t3.1 3 (fun a5 =>
  (∃ x6 : Int, w4.cell? (a5.add 0) = some (.int .i64 x6) ∧ ∃ x7 : Int, w4.cell? (a5.add 1) = some (.int .i64 x7) ∧ ∃ x8 : Int, w4.cell? (a5.add 2) = some (.int .i64 x8) ∧
  (∀ b9 w10, Ext w4 w10 → w4.heap.size ≤ b9 → b9 < w10.heap.size →
  (∀ w11, Off b9 w10 w11 →
  (∃ x12 : Value, w11.cell? free2 = some x12 ∧
  (CV x12 [(.int .i64 t3.1), (.agg #[(.int .i64 x6), (.int .i64 x7), (.int .i64 x8)])] (fun r14 w15 => ∃ t13 : Bool, r14 = (.bool t13) ∧
  (Keeps [b9] w11 w15 ∧
  (cond t13 (Y0 t3.1 (fun t16 w17 =>
  (Keeps [b9] w15 w17 ∧
  (cond (!t16) (K w17) (again2 ((IntKind.i64.wrap (t3.1 + (1 : Int))), ()) w17)))) w15) (again2 ((IntKind.i64.wrap (t3.1 + (1 : Int))), ()) w15)))) w11))))))) (K w4))) ((0 : Int), ()) w))

def fn_graph_numbers_Edge : FuncId := 56

def fn_graph_Graph_Best : FuncId := 25
/-- (*postroad/graph.Graph).Best -/
def sh_graph_Graph_Best (CV : CVT) (g0 : Option Addr) (u0 : Int) (v0 : Int) (K : Int → Int → Int → Bool → World → Prop) (w : World) : Prop :=
  (∀ b1 w2, Ext w w2 → w.heap.size ≤ b1 → b1 < w2.heap.size →
  (∀ b3 w4, Ext w2 w4 → w2.heap.size ≤ b3 → b3 < w4.heap.size →
  (∀ b5 w6, Ext w4 w6 → w4.heap.size ≤ b5 → b5 < w6.heap.size →
  (sh_graph_Graph_Out g0 u0 (fun s7 w8 =>
  (Keeps [b5, b3, b1] w6 w8 ∧
  (∀ b9 w10, Ext w8 w10 → w8.heap.size ≤ b9 → b9 < w10.heap.size →
  (∀ w11, Off b9 w10 w11 →
  (Blk w11 b1 [(.int .i64 v0)] →
  (∀ b1012 w1013, Ext w11 w1013 → w11.heap.size ≤ b1012 → b1012 < w1013.heap.size →
  (∀ b1014 w1015, Ext w1013 w1015 → w1013.heap.size ≤ b1014 → b1014 < w1015.heap.size →
  (Blk w1015 b1012 [(.slice s7.a s7.len s7.cap)] →
  (Blk w1015 b1014 [(Value.func (.func fn_graph_Graph_Best_c1) #[] #[(.pointer (some ⟨b1, 0, none⟩))])] →
  (Keeps [b9, b5, b3] w11 w1015 ∧
  (Blk w1015 b3 [(.int .i64 (0 : Int)), (.int .i64 (0 : Int)), (.int .i64 (0 : Int))] →
  (Blk w1015 b5 [(.bool false)] →
  (Blk w1015 b9 [(.slice s7.a s7.len s7.cap)] →
  (∀ D1016 l1017 w1018, Ext w1015 w1018 → w1015.heap.size ≤ D1016 → D1016 < l1017 → l1017 < w1018.heap.size →
  (sh_graph_numbers_Edge_c1 CV (fun x1019 K1021 w1020 =>
  (w1020.heap[l1017]? = w1018.heap[l1017]? ∧
  (∀ w1022, Off l1017 w1020 w1022 →
  (∃ s1023 : SV, w1022.cell? (⟨b9, 0, none⟩ : Addr) = some (.slice s1023.a s1023.len s1023.cap) ∧
  (Idx s1023.a s1023.len x1019 3 (fun a1024 =>
  (∃ x1025 : Int, w1022.cell? (a1024.add 0) = some (.int .i64 x1025) ∧
  (∃ x1026 : Int, w1022.cell? (⟨b1, 0, none⟩ : Addr) = some (.int .i64 x1026) ∧
  (∀ w1027, Ext w1022 w1027 →
  (cond (x1025 == x1026) (∃ s1028 : SV, w1027.cell? (⟨b9, 0, none⟩ : Addr) = some (.slice s1028.a s1028.len s1028.cap) ∧
  (Idx s1028.a s1028.len x1019 3 (fun a1029 =>
  (∃ x1030 : Int, w1027.cell? (a1029.add 0) = some (.int .i64 x1030) ∧ ∃ x1031 : Int, w1027.cell? (a1029.add 1) = some (.int .i64 x1031) ∧ ∃ x1032 : Int, w1027.cell? (a1029.add 2) = some (.int .i64 x1032) ∧
  (stL w1027 (⟨b3, 0, none⟩ : Addr) [(.int .i64 x1030), (.int .i64 x1031), (.int .i64 x1032)] 0 (fun w1033 =>
  (Keeps [l1017] w1027 w1033 ∧
  (stL w1033 (⟨b5, 0, none⟩ : Addr) [(.bool true)] 0 (fun w1034 =>
  (Keeps [l1017] w1033 w1034 ∧
  (∀ w1035, Off l1017 w1034 w1035 →
  (Pend l1017 .ret w1018 w1035 → K1021 false w1035)))))))))))) (∀ w1036, Off l1017 w1027 w1036 →
  (Pend l1017 (.exit 0) w1018 w1036 → K1021 false w1036)))))))))))) ⟨b1012, 0, none⟩ ⟨b1014, 0, none⟩ (fun w1037 =>
  (Keeps [D1016] w1018 w1037 ∧
  ((w1037.heap[l1017]? = w1018.heap[l1017]? ∧
  (∀ w1052, Off l1017 w1037 w1052 →
  (stL w1052 (⟨b3, 0, none⟩ : Addr) [(.int .i64 (0 : Int)), (.int .i64 (0 : Int)), (.int .i64 (0 : Int))] 0 (fun w1053 =>
  (Keeps [D1016] w1052 w1053 ∧
  (stL w1053 (⟨b5, 0, none⟩ : Addr) [(.bool false)] 0 (fun w1054 =>
  (Keeps [D1016] w1053 w1054 ∧
  (∀ w1055, Off D1016 w1054 w1055 →
  (∃ x1056 : Int, w1055.cell? ((⟨b3, 0, none⟩ : Addr).add 0) = some (.int .i64 x1056) ∧
  (∃ x1057 : Int, w1055.cell? ((⟨b3, 0, none⟩ : Addr).add 1) = some (.int .i64 x1057) ∧
  (∃ x1058 : Int, w1055.cell? ((⟨b3, 0, none⟩ : Addr).add 2) = some (.int .i64 x1058) ∧
  (∃ x1059 : Bool, w1055.cell? (⟨b5, 0, none⟩ : Addr) = some (.bool x1059) ∧
  (K x1056 x1057 x1058 x1059 w1055)))))))))))))) ∨ (Pend l1017 .ret w1018 w1037 ∧
  (∀ w1038, Off l1017 w1037 w1038 →
  (∀ w1039, Off D1016 w1038 w1039 →
  (∃ x1040 : Int, w1039.cell? ((⟨b3, 0, none⟩ : Addr).add 0) = some (.int .i64 x1040) ∧
  (∃ x1041 : Int, w1039.cell? ((⟨b3, 0, none⟩ : Addr).add 1) = some (.int .i64 x1041) ∧
  (∃ x1042 : Int, w1039.cell? ((⟨b3, 0, none⟩ : Addr).add 2) = some (.int .i64 x1042) ∧
  (∃ x1043 : Bool, w1039.cell? (⟨b5, 0, none⟩ : Addr) = some (.bool x1043) ∧
  (K x1040 x1041 x1042 x1043 w1039)))))))) ∨ (Pend l1017 (.exit 0) w1018 w1037 ∧
  (∀ w1044, Off l1017 w1037 w1044 →
  (stL w1044 (⟨b3, 0, none⟩ : Addr) [(.int .i64 (0 : Int)), (.int .i64 (0 : Int)), (.int .i64 (0 : Int))] 0 (fun w1045 =>
  (Keeps [D1016] w1044 w1045 ∧
  (stL w1045 (⟨b5, 0, none⟩ : Addr) [(.bool false)] 0 (fun w1046 =>
  (Keeps [D1016] w1045 w1046 ∧
  (∀ w1047, Off D1016 w1046 w1047 →
  (∃ x1048 : Int, w1047.cell? ((⟨b3, 0, none⟩ : Addr).add 0) = some (.int .i64 x1048) ∧
  (∃ x1049 : Int, w1047.cell? ((⟨b3, 0, none⟩ : Addr).add 1) = some (.int .i64 x1049) ∧
  (∃ x1050 : Int, w1047.cell? ((⟨b3, 0, none⟩ : Addr).add 2) = some (.int .i64 x1050) ∧
  (∃ x1051 : Bool, w1047.cell? (⟨b5, 0, none⟩ : Addr) = some (.bool x1051) ∧
  (K x1048 x1049 x1050 x1051 w1047))))))))))))))))) w1018))))))))))))))) w6))))

def fn_postroadlaw06_GraphLeast : FuncId := 5
/-- postroad/postroadlaw06.GraphLeast -/
def sh_postroadlaw06_GraphLeast (CV : CVT) (m0_N : Int) (m0_Arcs : SV) (at_0 : Int) (more0 : Int) (K : Bool → World → Prop) (w : World) : Prop :=
  (∀ b1 w2, Ext w w2 → w.heap.size ≤ b1 → b1 < w2.heap.size →
  (sh_postroadref06_Small m0_N m0_Arcs (40 : Int) (80 : Int) (fun t3 w4 =>
  (Keeps [b1] w2 w4 ∧
  (cond (!t3) (sh_postroadlaw06_known CV (fun t5 w6 =>
  (Keeps [b1] w4 w6 ∧
  (K t5 w6))) w4) (cond ((m0_Arcs.len : Int) == (0 : Int)) (sh_postroadlaw06_known CV (fun t7 w8 =>
  (Keeps [b1] w4 w8 ∧
  (K t7 w8))) w4) (sh_graph_New CV m0_N m0_Arcs (fun p9 w10 =>
  (Keeps [b1] w4 w10 ∧
  (Join (Unit) (fun J11 =>
  (LoopT (Int × Unit) (fun t13 again12 w14 =>
  (cond (decide (t13.1 < (m0_Arcs.len : Int))) (cond (!p9.isNone) (Join (Unit) (fun J15 =>
  (Idx m0_Arcs.a m0_Arcs.len t13.1 3 (fun a16 =>
  (∃ x17 : Int, w14.cell? (a16.add 0) = some (.int .i64 x17) ∧ ∃ x18 : Int, w14.cell? (a16.add 1) = some (.int .i64 x18) ∧ ∃ x19 : Int, w14.cell? (a16.add 2) = some (.int .i64 x19) ∧
  (∀ b20 w21, Ext w14 w21 → w14.heap.size ≤ b20 → b20 < w21.heap.size →
  (∀ w22, Off b20 w21 w22 →
  (sh_graph_Graph_Best CV p9 x17 x18 (fun x23 x24 x25 t26 w27 =>
  (Keeps [b20, b1] w22 w27 ∧
  (∀ b28 w29, Ext w27 w29 → w27.heap.size ≤ b28 → b28 < w29.heap.size →
  (∀ w30, Off b28 w29 w30 →
  (cond (!(t26 == (x17 != x18))) (K false w30) (cond t26 (cond (decide (x24 > x19)) (K false w30) (cond (x24 == x19) (cond (decide (x25 > t13.1)) (K false w30) (J15 () w30)) (J15 () w30))) (J15 () w30))))))) w22)))))))
  (fun t31 w32 =>
  (again12 ((IntKind.i64.wrap (t13.1 + (1 : Int))), ()) w32))) (J11 () w14)) (J11 () w14))) ((0 : Int), ()) w10))
  (fun t33 w34 =>
  (if (m0_Arcs.len : Int) = 0 then False else (Idx m0_Arcs.a m0_Arcs.len ((IntKind.i64.wrap (at_0)).tmod (m0_Arcs.len : Int)) 3 (fun a35 =>
  (∃ x36 : Int, w34.cell? (a35.add 0) = some (.int .i64 x36) ∧ ∃ x37 : Int, w34.cell? (a35.add 1) = some (.int .i64 x37) ∧ ∃ x38 : Int, w34.cell? (a35.add 2) = some (.int .i64 x38) ∧
  (∀ b39 w40, Ext w34 w40 → w34.heap.size ≤ b39 → b39 < w40.heap.size →
  (∀ w41, Ext w40 w41 →
  (∀ w42, Off b39 w41 w42 →
  (∀ w43, Ext w42 w43 →
  (∀ w44, Off b39 w43 w44 →
  (App 24 [(.int .i64 (0 : Int)), (.int .i64 (0 : Int)), (.int .i64 (0 : Int))] ⟨none, 0, 0⟩ m0_Arcs w44 (fun s45 w46 =>
  (Keeps [b39, b1] w44 w46 ∧
  (NewB [(.int .i64 x36), (.int .i64 x37), (.int .i64 (IntKind.i64.wrap (x38 + ((IntKind.i64.wrap (more0)).tmod (1000 : Int)))))] w46 (fun b47 w48 =>
  (App 24 [(.int .i64 (0 : Int)), (.int .i64 (0 : Int)), (.int .i64 (0 : Int))] s45 ⟨(some ⟨b47, 0, none⟩), 1, 1⟩ w48 (fun s49 w50 =>
  (Keeps [b39, b1] w48 w50 ∧
  (sh_graph_New CV m0_N s49 (fun p51 w52 =>
  (Keeps [b39, b1] w50 w52 ∧
  (cond p9.isNone (sh_postroadlaw06_known CV (fun t53 w54 =>
  (Keeps [b39, b1] w52 w54 ∧
  (K t53 w54))) w52) (cond p51.isNone (sh_postroadlaw06_known CV (fun t55 w56 =>
  (Keeps [b39, b1] w52 w56 ∧
  (K t55 w56))) w52) (sh_graph_Graph_Kept CV p9 (fun s57 w58 =>
  (Keeps [b39, b1] w52 w58 ∧
  (sh_graph_Graph_Kept CV p51 (fun s59 w60 =>
  (Keeps [b39, b1] w58 w60 ∧
  (sh_postroadref00_SameInts s57 s59 (fun t61 w62 =>
  (Keeps [b39, b1] w60 w62 ∧
  (cond t61 (sh_postroadlaw06_known CV (fun t63 w64 =>
  (Keeps [b39, b1] w62 w64 ∧
  (K t63 w64))) w62) (K false w62)))) w60))) w58))) w52))))) w50)))))))))))))))))))))) w4))))) w2))

def fn_graph_Graph_Arc : FuncId := 26
/-- (*postroad/graph.Graph).Arc -/
def sh_graph_Graph_Arc (g0 : Option Addr) (k0 : Int) (K : Int → Int → Int → Bool → World → Prop) (w : World) : Prop :=
  (∀ b1 w2, Ext w w2 → w.heap.size ≤ b1 → b1 < w2.heap.size →
  (cond g0.isNone (∀ w3, Off b1 w2 w3 →
  (K (0 : Int) (0 : Int) (0 : Int) false w3)) (cond (decide (k0 < (0 : Int))) (∀ w4, Off b1 w2 w4 →
  (K (0 : Int) (0 : Int) (0 : Int) false w4)) (Nn g0 (fun a5 =>
  (∃ s6 : SV, w2.cell? ((a5.add 0).add 1) = some (.slice s6.a s6.len s6.cap) ∧
  (cond (decide (k0 ≥ (s6.len : Int))) (∀ w7, Off b1 w2 w7 →
  (K (0 : Int) (0 : Int) (0 : Int) false w7)) (Nn g0 (fun a8 =>
  (∃ s9 : SV, w2.cell? ((a8.add 0).add 1) = some (.slice s9.a s9.len s9.cap) ∧
  (Idx s9.a s9.len k0 3 (fun a10 =>
  (∃ x11 : Int, w2.cell? (a10.add 0) = some (.int .i64 x11) ∧ ∃ x12 : Int, w2.cell? (a10.add 1) = some (.int .i64 x12) ∧ ∃ x13 : Int, w2.cell? (a10.add 2) = some (.int .i64 x13) ∧
  (∀ w14, Off b1 w2 w14 →
  (K x11 x12 x13 true w14)))))))))))))))

def fn_postroadlaw06_GraphSides : FuncId := 6
/-- postroad/postroadlaw06.GraphSides -/
def sh_postroadlaw06_GraphSides (CV : CVT) (m0_N : Int) (m0_Arcs : SV) (K : Bool → World → Prop) (w : World) : Prop :=
  (∀ b1 w2, Ext w w2 → w.heap.size ≤ b1 → b1 < w2.heap.size →
  (sh_postroadref06_Small m0_N m0_Arcs (40 : Int) (80 : Int) (fun t3 w4 =>
  (Keeps [b1] w2 w4 ∧
  (cond (!t3) (sh_postroadlaw06_known CV (fun t5 w6 =>
  (Keeps [b1] w4 w6 ∧
  (K t5 w6))) w4) (sh_graph_New CV m0_N m0_Arcs (fun p7 w8 =>
  (Keeps [b1] w4 w8 ∧
  (Join (Int × Unit) (fun J9 =>
  (LoopT (Int × Int × Unit) (fun t11 again10 w12 =>
  (sh_graph_Graph_N p7 (fun x13 w14 =>
  (Keeps [b1] w12 w14 ∧
  (cond (decide (t11.2.1 < x13)) (Join (Int × Unit) (fun J15 =>
  (sh_graph_Graph_Out p7 t11.2.1 (fun s16 w17 =>
  (Keeps [b1] w14 w17 ∧
  (sh_graph_Graph_In p7 t11.2.1 (fun s18 w19 =>
  (Keeps [b1] w17 w19 ∧
  (LoopT (Int × Unit) (fun t21 again20 w22 =>
  (cond (decide (t21.1 < (s16.len : Int))) (Join (Unit) (fun J23 =>
  (Idx s16.a s16.len t21.1 3 (fun a24 =>
  (∃ x25 : Int, w22.cell? (a24.add 2) = some (.int .i64 x25) ∧
  (sh_graph_Graph_Arc p7 x25 (fun x26 x27 x28 t29 w30 =>
  (Keeps [b1] w22 w30 ∧
  (∀ b31 w32, Ext w30 w32 → w30.heap.size ≤ b31 → b31 < w32.heap.size →
  (∀ w33, Off b31 w32 w33 →
  (Join (Unit) (fun J34 =>
  (cond (!t29) (∀ w35, Ext w33 w35 →
  (K false w35)) (cond (x26 != t11.2.1) (∀ w36, Ext w33 w36 →
  (K false w36)) (Idx s16.a s16.len t21.1 3 (fun a37 =>
  (∃ x38 : Int, w33.cell? (a37.add 0) = some (.int .i64 x38) ∧
  (cond (x27 != x38) (∀ w39, Ext w33 w39 →
  (K false w39)) (Idx s16.a s16.len t21.1 3 (fun a40 =>
  (∃ x41 : Int, w33.cell? (a40.add 1) = some (.int .i64 x41) ∧
  (cond (x28 != x41) (∀ w42, Ext w33 w42 →
  (K false w42)) (Idx s16.a s16.len t21.1 3 (fun a43 =>
  (∃ x44 : Int, w33.cell? (a43.add 0) = some (.int .i64 x44) ∧
  (cond (x44 == t11.2.1) (∀ w45, Ext w33 w45 →
  (K false w45)) (cond (decide (t21.1 > (0 : Int))) (Idx s16.a s16.len t21.1 3 (fun a46 =>
  (∃ x47 : Int, w33.cell? (a46.add 0) = some (.int .i64 x47) ∧
  (Idx s16.a s16.len (IntKind.i64.wrap (t21.1 - (1 : Int))) 3 (fun a48 =>
  (∃ x49 : Int, w33.cell? (a48.add 0) = some (.int .i64 x49) ∧
  (∀ w50, Ext w33 w50 →
  (cond (decide (x47 ≤ x49)) (K false w50) (J34 () w50))))))))) (∀ w51, Ext w33 w51 →
  (J34 () w51))))))))))))))))))
  (fun t52 w53 =>
  (Idx s16.a s16.len t21.1 3 (fun a54 =>
  (∃ x55 : Int, w53.cell? (a54.add 0) = some (.int .i64 x55) ∧
  (sh_graph_Graph_In p7 x55 (fun s56 w57 =>
  (Keeps [b31, b1] w53 w57 ∧
  (Join (Bool × Unit) (fun J58 =>
  (LoopT (Bool × Int × Unit) (fun t60 again59 w61 =>
  (cond (decide (t60.2.1 < (s56.len : Int))) (Join (Bool × Unit) (fun J62 =>
  (cond t60.1 (∀ w63, Ext w61 w63 →
  (J62 (true, ()) w63)) (Idx s56.a s56.len t60.2.1 3 (fun a64 =>
  (∃ x65 : Int, w61.cell? (a64.add 0) = some (.int .i64 x65) ∧ ∃ x66 : Int, w61.cell? (a64.add 1) = some (.int .i64 x66) ∧ ∃ x67 : Int, w61.cell? (a64.add 2) = some (.int .i64 x67) ∧
  (Idx s16.a s16.len t21.1 3 (fun a68 =>
  (∃ x69 : Int, w61.cell? (a68.add 1) = some (.int .i64 x69) ∧
  (Idx s16.a s16.len t21.1 3 (fun a70 =>
  (∃ x71 : Int, w61.cell? (a70.add 2) = some (.int .i64 x71) ∧
  (∀ w72, Ext w61 w72 →
  (J62 (((x65 == t11.2.1) && ((x66 == x69) && ((x67 == x71) && true))), ()) w72)))))))))))))
  (fun t73 w74 =>
  (again59 (t73.1, (IntKind.i64.wrap (t60.2.1 + (1 : Int))), ()) w74))) (J58 (t60.1, ()) w61))) (false, (0 : Int), ()) w57))
  (fun t75 w76 =>
  (cond (!t75.1) (K false w76) (J23 () w76)))))) w53)))))))))) w22)))))
  (fun t77 w78 =>
  (again20 ((IntKind.i64.wrap (t21.1 + (1 : Int))), ()) w78))) (J15 ((IntKind.i64.wrap ((IntKind.i64.wrap (t11.1 + (s16.len : Int))) - (s18.len : Int))), ()) w22))) ((0 : Int), ()) w19))) w17))) w14))
  (fun t79 w80 =>
  (again10 (t79.1, (IntKind.i64.wrap (t11.2.1 + (1 : Int))), ()) w80))) (J9 (t11.1, ()) w14)))) w12)) ((0 : Int), (0 : Int), ()) w8))
  (fun t81 w82 =>
  (cond (t81.1 == (0 : Int)) (sh_postroadlaw06_known CV (fun t83 w84 =>
  (Keeps [b1] w82 w84 ∧
  (K t83 w84))) w82) (K false w82)))))) w4)))) w2))

def fn_heap_New : FuncId := 28
/-- postroad/heap.New -/
def sh_heap_New (n0 : Int) (K : Option Addr → World → Prop) (w : World) : Prop :=
  (cond (decide (n0 < (0 : Int))) (K none w) (cond (decide (n0 > (16777216 : Int))) (K none w) (MkS 8 [(.int .i64 (0 : Int))] n0 n0 w (fun s1 w2 =>
  (∀ b3 w4, Ext w2 w4 → w2.heap.size ≤ b3 → b3 < w4.heap.size →
  (Blk w4 b3 [(.slice none 0 0), (.slice s1.a s1.len s1.cap)] →
  (K (some ⟨b3, 0, none⟩) w4)))))))

def fn_heap_Heap_may : FuncId := 58
/-- (*postroad/heap.Heap).may -/
def sh_heap_Heap_may (h0 : Option Addr) (id0 : Int) (K : Bool → World → Prop) (w : World) : Prop :=
  (cond (!h0.isNone) (cond (decide (id0 ≥ (0 : Int))) (Nn h0 (fun a1 =>
  (∃ s2 : SV, w.cell? ((a1.add 0).add 1) = some (.slice s2.a s2.len s2.cap) ∧
  (K (decide (id0 < (s2.len : Int))) w)))) (K false w)) (K false w))

def fn_heap_queue_lay : FuncId := 68
/-- (*postroad/heap.queue[int]).lay -/
def sh_heap_queue_lay (q0 : Option Addr) (i0 : Int) (e0_id : Int) (e0_key : Int) (K : World → Prop) (w : World) : Prop :=
  (∀ b1 w2, Ext w w2 → w.heap.size ≤ b1 → b1 < w2.heap.size →
  (Nn q0 (fun a3 =>
  (∃ s4 : SV, w2.cell? (a3.add 0) = some (.slice s4.a s4.len s4.cap) ∧
  (Idx s4.a s4.len i0 2 (fun a5 =>
  (∀ w6, Ext w2 w6 →
  (stL w6 a5 [(.int .i64 e0_id), (.int .i64 e0_key)] 0 (fun w7 =>
  (Keeps [b1] w6 w7 ∧
  (∀ w8, Ext w7 w8 →
  (Nn q0 (fun a9 =>
  (∃ s10 : SV, w8.cell? (a9.add 1) = some (.slice s10.a s10.len s10.cap) ∧
  (Idx s10.a s10.len e0_id 1 (fun a11 =>
  (∀ w12, Ext w8 w12 →
  (stL w12 a11 [(.int .i64 (IntKind.i64.wrap (i0 + (1 : Int))))] 0 (fun w13 =>
  (Keeps [b1] w12 w13 ∧
  (∀ w14, Ext w13 w14 →
  (K w14))))))))))))))))))))))

def fn_cmp_isNaN_int : FuncId := 74
/-- cmp.isNaN[int] -/
def sh_cmp_isNaN_int (x0 : Int) (K : Bool → World → Prop) (w : World) : Prop :=
  (K (x0 != x0) w)

def fn_cmp_Compare_int : FuncId := 73
/-- cmp.Compare[int] -/
def sh_cmp_Compare_int (x0 : Int) (y0 : Int) (K : Int → World → Prop) (w : World) : Prop :=
  (sh_cmp_isNaN_int x0 (fun t1 w2 =>
  (sh_cmp_isNaN_int y0 (fun t3 w4 =>
  (cond t1 (cond t3 (K (0 : Int) w4) (K (-1 : Int) w4)) (cond t3 (K (1 : Int) w4) (cond (decide (x0 < y0)) (K (-1 : Int) w4) (cond (decide (x0 > y0)) (K (1 : Int) w4) (K (0 : Int) w4)))))) w2)) w)

def fn_cmp_Or_int : FuncId := 72
/-- cmp.Or[int] -/
def sh_cmp_Or_int (vals0 : SV) (K : Int → World → Prop) (w : World) : Prop :=
  (LoopT (Int × Unit) (fun t2 again1 w3 =>
  (cond (decide (t2.1 < (vals0.len : Int))) (Idx vals0.a vals0.len t2.1 1 (fun a4 =>
  (∃ x5 : Int, w3.cell? a4 = some (.int .i64 x5) ∧
  (cond (x5 != (0 : Int)) (K x5 w3) (again1 ((IntKind.i64.wrap (t2.1 + (1 : Int))), ()) w3))))) (K (0 : Int) w3))) ((0 : Int), ()) w)

def fn_heap_entry_before : FuncId := 71
/-- (postroad/heap.entry[int]).before -/
def sh_heap_entry_before (e0_id : Int) (e0_key : Int) (f0_id : Int) (f0_key : Int) (K : Bool → World → Prop) (w : World) : Prop :=
  (∀ b1 w2, Ext w w2 → w.heap.size ≤ b1 → b1 < w2.heap.size →
  (∀ b3 w4, Ext w2 w4 → w2.heap.size ≤ b3 → b3 < w4.heap.size →
  (Quiet (Int) (fun r6 =>
  (.int .i64 r6)) (fun K7 w8' => sh_cmp_Compare_int e0_key f0_key (fun x5 w8 => K7 x5 w8) w8') w4 (fun r6 =>
  (Quiet (Int) (fun r10 =>
  (.int .i64 r10)) (fun K11 w12' => sh_cmp_Compare_int e0_id f0_id (fun x9 w12 => K11 x9 w12) w12') w4 (fun r10 =>
  (∀ w13, Ext w4 w13 →
  (NewB [(.int .i64 r6), (.int .i64 r10)] w13 (fun b14 w15 =>
  (Quiet (Int) (fun r17 =>
  (.int .i64 r17)) (fun K18 w19' => sh_cmp_Or_int (⟨(some ⟨b14, 0, none⟩), 2, 2⟩) (fun x16 w19 => K18 x16 w19) w19') w15 (fun r17 =>
  (∀ w20, Ext w15 w20 →
  (K (decide (r17 < (0 : Int))) w20)))))))))))))

def fn_heap_queue_sink : FuncId := 69
/-- (*postroad/heap.queue[int]).sink -/
def sh_heap_queue_sink (q0 : Option Addr) (i0 : Int) (K : World → Prop) (w : World) : Prop :=
  (Nn q0 (fun a1 =>
  (∃ s2 : SV, w.cell? (a1.add 0) = some (.slice s2.a s2.len s2.cap) ∧
  (Idx s2.a s2.len i0 2 (fun a3 =>
  (∃ x4 : Int, w.cell? (a3.add 0) = some (.int .i64 x4) ∧ ∃ x5 : Int, w.cell? (a3.add 1) = some (.int .i64 x5) ∧
  (∀ b6 w7, Ext w w7 → w.heap.size ≤ b6 → b6 < w7.heap.size →
  (∀ w8, Off b6 w7 w8 →
  (Join (Int × Unit) (fun J9 =>
  (LoopT (Int × Unit) (fun t11 again10 w12 =>
  (Join (Int × Unit) (fun J13 =>
  (Nn q0 (fun a14 =>
  (∃ s15 : SV, w12.cell? (a14.add 0) = some (.slice s15.a s15.len s15.cap) ∧
  (cond (decide ((IntKind.i64.wrap ((IntKind.i64.wrap ((IntKind.i64.wrap ((2 : Int) * t11.1)) + (1 : Int))) + (1 : Int))) < (s15.len : Int))) (Nn q0 (fun a16 =>
  (∃ s17 : SV, w12.cell? (a16.add 0) = some (.slice s17.a s17.len s17.cap) ∧
  (Idx s17.a s17.len (IntKind.i64.wrap ((IntKind.i64.wrap ((IntKind.i64.wrap ((2 : Int) * t11.1)) + (1 : Int))) + (1 : Int))) 2 (fun a18 =>
  (∃ x19 : Int, w12.cell? (a18.add 0) = some (.int .i64 x19) ∧ ∃ x20 : Int, w12.cell? (a18.add 1) = some (.int .i64 x20) ∧
  (Nn q0 (fun a21 =>
  (∃ s22 : SV, w12.cell? (a21.add 0) = some (.slice s22.a s22.len s22.cap) ∧
  (Idx s22.a s22.len (IntKind.i64.wrap ((IntKind.i64.wrap ((2 : Int) * t11.1)) + (1 : Int))) 2 (fun a23 =>
  (∃ x24 : Int, w12.cell? (a23.add 0) = some (.int .i64 x24) ∧ ∃ x25 : Int, w12.cell? (a23.add 1) = some (.int .i64 x25) ∧
  (Quiet (Bool) (fun r27 =>
  (.bool r27)) (fun K28 w29' => sh_heap_entry_before x19 x20 x24 x25 (fun t26 w29 => K28 t26 w29) w29') w12 (fun r27 =>
  (∀ w30, Ext w12 w30 →
  (cond r27 (J13 ((IntKind.i64.wrap ((IntKind.i64.wrap ((IntKind.i64.wrap ((2 : Int) * t11.1)) + (1 : Int))) + (1 : Int))), ()) w30) (J13 ((IntKind.i64.wrap ((IntKind.i64.wrap ((2 : Int) * t11.1)) + (1 : Int))), ()) w30))))))))))))))))) (∀ w31, Ext w12 w31 →
  (J13 ((IntKind.i64.wrap ((IntKind.i64.wrap ((2 : Int) * t11.1)) + (1 : Int))), ()) w31)))))))
  (fun t32 w33 =>
  (Nn q0 (fun a34 =>
  (∃ s35 : SV, w33.cell? (a34.add 0) = some (.slice s35.a s35.len s35.cap) ∧
  (cond (decide (t32.1 ≥ (s35.len : Int))) (∀ w36, Ext w33 w36 →
  (J9 (t11.1, ()) w36)) (Nn q0 (fun a37 =>
  (∃ s38 : SV, w33.cell? (a37.add 0) = some (.slice s38.a s38.len s38.cap) ∧
  (Idx s38.a s38.len t32.1 2 (fun a39 =>
  (∃ x40 : Int, w33.cell? (a39.add 0) = some (.int .i64 x40) ∧ ∃ x41 : Int, w33.cell? (a39.add 1) = some (.int .i64 x41) ∧
  (Quiet (Bool) (fun r43 =>
  (.bool r43)) (fun K44 w45' => sh_heap_entry_before x4 x5 x40 x41 (fun t42 w45 => K44 t42 w45) w45') w33 (fun r43 =>
  (∀ w46, Ext w33 w46 →
  (cond r43 (J9 (t11.1, ()) w46) (Nn q0 (fun a47 =>
  (∃ s48 : SV, w46.cell? (a47.add 0) = some (.slice s48.a s48.len s48.cap) ∧
  (Idx s48.a s48.len t32.1 2 (fun a49 =>
  (∃ x50 : Int, w46.cell? (a49.add 0) = some (.int .i64 x50) ∧ ∃ x51 : Int, w46.cell? (a49.add 1) = some (.int .i64 x51) ∧
  (sh_heap_queue_lay q0 t11.1 x50 x51 (fun w52 =>
  (Keeps [b6] w46 w52 ∧
  (again10 (t32.1, ()) w52))) w46)))))))))))))))))))))))) (i0, ()) w8))
  (fun t53 w54 =>
  (sh_heap_queue_lay q0 t53.1 x4 x5 (fun w55 =>
  (Keeps [b6] w54 w55 ∧
  (K w55))) w54)))))))))))

def fn_heap_queue_rise : FuncId := 70
/-- (*postroad/heap.queue[int]).rise -/
def sh_heap_queue_rise (q0 : Option Addr) (i0 : Int) (K : World → Prop) (w : World) : Prop :=
  (Nn q0 (fun a1 =>
  (∃ s2 : SV, w.cell? (a1.add 0) = some (.slice s2.a s2.len s2.cap) ∧
  (Idx s2.a s2.len i0 2 (fun a3 =>
  (∃ x4 : Int, w.cell? (a3.add 0) = some (.int .i64 x4) ∧ ∃ x5 : Int, w.cell? (a3.add 1) = some (.int .i64 x5) ∧
  (∀ b6 w7, Ext w w7 → w.heap.size ≤ b6 → b6 < w7.heap.size →
  (∀ w8, Off b6 w7 w8 →
  (Join (Int × Unit) (fun J9 =>
  (LoopT (Int × Unit) (fun t11 again10 w12 =>
  (cond (decide (t11.1 > (0 : Int))) (Nn q0 (fun a13 =>
  (∃ s14 : SV, w12.cell? (a13.add 0) = some (.slice s14.a s14.len s14.cap) ∧
  (Idx s14.a s14.len (IntKind.i64.wrap ((IntKind.i64.wrap (t11.1 - (1 : Int))).tdiv (2 : Int))) 2 (fun a15 =>
  (∃ x16 : Int, w12.cell? (a15.add 0) = some (.int .i64 x16) ∧ ∃ x17 : Int, w12.cell? (a15.add 1) = some (.int .i64 x17) ∧
  (Quiet (Bool) (fun r19 =>
  (.bool r19)) (fun K20 w21' => sh_heap_entry_before x4 x5 x16 x17 (fun t18 w21 => K20 t18 w21) w21') w12 (fun r19 =>
  (∀ w22, Ext w12 w22 →
  (cond r19 (Nn q0 (fun a23 =>
  (∃ s24 : SV, w22.cell? (a23.add 0) = some (.slice s24.a s24.len s24.cap) ∧
  (Idx s24.a s24.len (IntKind.i64.wrap ((IntKind.i64.wrap (t11.1 - (1 : Int))).tdiv (2 : Int))) 2 (fun a25 =>
  (∃ x26 : Int, w22.cell? (a25.add 0) = some (.int .i64 x26) ∧ ∃ x27 : Int, w22.cell? (a25.add 1) = some (.int .i64 x27) ∧
  (sh_heap_queue_lay q0 t11.1 x26 x27 (fun w28 =>
  (Keeps [b6] w22 w28 ∧
  (again10 ((IntKind.i64.wrap ((IntKind.i64.wrap (t11.1 - (1 : Int))).tdiv (2 : Int))), ()) w28))) w22))))))) (J9 (t11.1, ()) w22))))))))))) (∀ w29, Ext w12 w29 →
  (J9 (t11.1, ()) w29)))) (i0, ()) w8))
  (fun t30 w31 =>
  (sh_heap_queue_lay q0 t30.1 x4 x5 (fun w32 =>
  (Keeps [b6] w31 w32 ∧
  (K w32))) w31)))))))))))

def fn_heap_queue_put : FuncId := 59
/-- (*postroad/heap.queue[int]).put -/
def sh_heap_queue_put (q0 : Option Addr) (id0 : Int) (key0 : Int) (K : World → Prop) (w : World) : Prop :=
  (Nn q0 (fun a1 =>
  (∃ s2 : SV, w.cell? (a1.add 1) = some (.slice s2.a s2.len s2.cap) ∧
  (Idx s2.a s2.len id0 1 (fun a3 =>
  (∃ x4 : Int, w.cell? a3 = some (.int .i64 x4) ∧
  (Join (Int × Unit) (fun J5 =>
  (cond (decide ((IntKind.i64.wrap (x4 - (1 : Int))) < (0 : Int))) (Nn q0 (fun a6 =>
  (∃ s7 : SV, w.cell? (a6.add 0) = some (.slice s7.a s7.len s7.cap) ∧
  (Nn q0 (fun a8 =>
  (∃ s9 : SV, w.cell? (a8.add 0) = some (.slice s9.a s9.len s9.cap) ∧
  (NewB [(.int .i64 (0 : Int)), (.int .i64 (0 : Int))] w (fun b10 w11 =>
  (App 16 [(.int .i64 (0 : Int)), (.int .i64 (0 : Int))] s9 ⟨(some ⟨b10, 0, none⟩), 1, 1⟩ w11 (fun s12 w13 =>
  (Nn q0 (fun a14 =>
  (stL w13 (a14.add 0) [(.slice s12.a s12.len s12.cap)] 0 (fun w15 =>
  (J5 ((s7.len : Int), ()) w15))))))))))))))) (J5 ((IntKind.i64.wrap (x4 - (1 : Int))), ()) w)))
  (fun t16 w17 =>
  (sh_heap_queue_lay q0 t16.1 id0 key0 (fun w18 =>
  (sh_heap_queue_sink q0 t16.1 (fun w19 =>
  (Nn q0 (fun a20 =>
  (∃ s21 : SV, w19.cell? (a20.add 1) = some (.slice s21.a s21.len s21.cap) ∧
  (Idx s21.a s21.len id0 1 (fun a22 =>
  (∃ x23 : Int, w19.cell? a22 = some (.int .i64 x23) ∧
  (sh_heap_queue_rise q0 (IntKind.i64.wrap (x23 - (1 : Int))) (fun w24 =>
  (K w24)) w19)))))))) w18)) w17)))))))))

def fn_heap_Heap_Set : FuncId := 29
/-- (*postroad/heap.Heap).Set -/
def sh_heap_Heap_Set (h0 : Option Addr) (id0 : Int) (key0 : Int) (K : Bool → World → Prop) (w : World) : Prop :=
  (sh_heap_Heap_may h0 id0 (fun t1 w2 => (cond (!t1) (K false w2) (Nn h0 (fun a3 => (sh_heap_queue_put (some (a3.add 0)) id0 key0 (fun w4 => (K true w4)) w2))))) w)

def fn_heap_Heap_Len : FuncId := 31
/-- (*postroad/heap.Heap).Len -/
def sh_heap_Heap_Len (h0 : Option Addr) (K : Int → World → Prop) (w : World) : Prop :=
  (cond h0.isNone (K (0 : Int) w) (Nn h0 (fun a1 => (∃ s2 : SV, w.cell? ((a1.add 0).add 0) = some (.slice s2.a s2.len s2.cap) ∧ (K (s2.len : Int) w)))))

def fn_heap_Heap_First : FuncId := 36
/-- (*postroad/heap.Heap).First -/
def sh_heap_Heap_First (h0 : Option Addr) (K : Int → Int → Bool → World → Prop) (w : World) : Prop :=
  (sh_heap_Heap_Len h0 (fun x1 w2 =>
  (cond (x1 == (0 : Int)) (K (0 : Int) (0 : Int) false w2) (Nn h0 (fun a3 =>
  (∃ s4 : SV, w2.cell? ((a3.add 0).add 0) = some (.slice s4.a s4.len s4.cap) ∧
  (Idx s4.a s4.len (0 : Int) 2 (fun a5 =>
  (∃ x6 : Int, w2.cell? (a5.add 0) = some (.int .i64 x6) ∧
  (Nn h0 (fun a7 =>
  (∃ s8 : SV, w2.cell? ((a7.add 0).add 0) = some (.slice s8.a s8.len s8.cap) ∧
  (Idx s8.a s8.len (0 : Int) 2 (fun a9 =>
  (∃ x10 : Int, w2.cell? (a9.add 1) = some (.int .i64 x10) ∧
  (∀ w11, Ext w2 w11 →
  (K x6 x10 true w11)))))))))))))))) w)

def fn_heap_queue_drop : FuncId := 60
/-- (*postroad/heap.queue[int]).drop -/
def sh_heap_queue_drop (q0 : Option Addr) (id0 : Int) (K : World → Prop) (w : World) : Prop :=
  (Nn q0 (fun a1 =>
  (∃ s2 : SV, w.cell? (a1.add 1) = some (.slice s2.a s2.len s2.cap) ∧
  (Idx s2.a s2.len id0 1 (fun a3 =>
  (∃ x4 : Int, w.cell? a3 = some (.int .i64 x4) ∧
  (Nn q0 (fun a5 =>
  (∃ s6 : SV, w.cell? (a5.add 0) = some (.slice s6.a s6.len s6.cap) ∧
  (∀ w7, Ext w w7 →
  (Nn q0 (fun a8 =>
  (∃ s9 : SV, w7.cell? (a8.add 0) = some (.slice s9.a s9.len s9.cap) ∧
  (Idx s9.a s9.len (IntKind.i64.wrap ((s6.len : Int) - (1 : Int))) 2 (fun a10 =>
  (∃ x11 : Int, w7.cell? (a10.add 0) = some (.int .i64 x11) ∧ ∃ x12 : Int, w7.cell? (a10.add 1) = some (.int .i64 x12) ∧
  (∀ b13 w14, Ext w7 w14 → w7.heap.size ≤ b13 → b13 < w14.heap.size →
  (∀ w15, Off b13 w14 w15 →
  (Nn q0 (fun a16 =>
  (∃ s17 : SV, w15.cell? (a16.add 1) = some (.slice s17.a s17.len s17.cap) ∧
  (Nn q0 (fun a18 =>
  (∃ s19 : SV, w15.cell? (a18.add 0) = some (.slice s19.a s19.len s19.cap) ∧
  (semSlice 2 s19.a s19.len s19.cap none (some (IntKind.i64.wrap ((s6.len : Int) - (1 : Int)))) (fun s20 =>
  (Nn q0 (fun a21 =>
  (∀ w22, Ext w15 w22 →
  (stL w22 (a21.add 0) [(.slice s20.a s20.len s20.cap)] 0 (fun w23 =>
  (Keeps [b13] w22 w23 ∧
  (Idx s17.a s17.len id0 1 (fun a24 =>
  (∀ w25, Ext w23 w25 →
  (stL w25 a24 [(.int .i64 (0 : Int))] 0 (fun w26 =>
  (Keeps [b13] w25 w26 ∧
  (∀ w27, Ext w26 w27 →
  (cond (x11 == id0) (K w27) (sh_heap_queue_lay q0 (IntKind.i64.wrap (x4 - (1 : Int))) x11 x12 (fun w28 =>
  (Keeps [b13] w27 w28 ∧
  (sh_heap_queue_sink q0 (IntKind.i64.wrap (x4 - (1 : Int))) (fun w29 =>
  (Keeps [b13] w28 w29 ∧
  (Nn q0 (fun a30 =>
  (∃ s31 : SV, w29.cell? (a30.add 1) = some (.slice s31.a s31.len s31.cap) ∧
  (Idx s31.a s31.len x11 1 (fun a32 =>
  (∃ x33 : Int, w29.cell? a32 = some (.int .i64 x33) ∧
  (∀ w34, Ext w29 w34 →
  (sh_heap_queue_rise q0 (IntKind.i64.wrap (x33 - (1 : Int))) (fun w35 =>
  (Keeps [b13] w34 w35 ∧
  (∀ w36, Ext w35 w36 →
  (K w36)))) w34)))))))))) w28))) w27)))))))))))))))))))))))))))))))))))))))))

def fn_heap_Heap_Pop : FuncId := 30
/-- (*postroad/heap.Heap).Pop -/
def sh_heap_Heap_Pop (h0 : Option Addr) (K : Int → Int → Bool → World → Prop) (w : World) : Prop :=
  (sh_heap_Heap_First h0 (fun x1 x2 t3 w4 =>
  (Join (Unit) (fun J5 =>
  (cond t3 (Nn h0 (fun a6 =>
  (sh_heap_queue_drop (some (a6.add 0)) x1 (fun w7 =>
  (J5 () w7)) w4))) (J5 () w4)))
  (fun t8 w9 =>
  (K x1 x2 t3 w9)))) w)

def fn_postroadlaw03_known : FuncId := 27
/-- postroad/postroadlaw03.known -/
def sh_postroadlaw03_known  (K : Bool → World → Prop) (w : World) : Prop :=
  (sh_heap_New (5 : Int) (fun p1 w2 =>
  (sh_heap_Heap_Set p1 (4 : Int) (9 : Int) (fun t3 w4 =>
  (sh_heap_Heap_Set p1 (2 : Int) (7 : Int) (fun t5 w6 =>
  (sh_heap_Heap_Set p1 (3 : Int) (7 : Int) (fun t7 w8 =>
  (sh_heap_Heap_Pop p1 (fun x9 x10 t11 w12 =>
  (cond (x9 == (2 : Int)) (cond (x10 == (7 : Int)) (cond t11 (sh_heap_Heap_Len none (fun x13 w14 =>
  (K (x13 == (0 : Int)) w14)) w12) (K false w12)) (K false w12)) (K false w12))) w8)) w6)) w4)) w2)) w)

def fn_postroadlaw03_HeapSorts : FuncId := 7
/-- postroad/postroadlaw03.HeapSorts -/
def sh_postroadlaw03_HeapSorts (keys0 : SV) (K : Bool → World → Prop) (w : World) : Prop :=
  (cond (decide ((keys0.len : Int) > (200 : Int))) (sh_postroadlaw03_known  (fun t1 w2 =>
  (K t1 w2)) w) (sh_heap_New (keys0.len : Int) (fun p3 w4 =>
  (Join (Unit) (fun J5 =>
  (LoopT (Int × Unit) (fun t7 again6 w8 =>
  (cond (decide (t7.1 < (keys0.len : Int))) (Idx keys0.a keys0.len (IntKind.i64.wrap ((IntKind.i64.wrap ((keys0.len : Int) - (1 : Int))) - t7.1)) 1 (fun a9 =>
  (∃ x10 : Int, w8.cell? a9 = some (.int .i64 x10) ∧
  (sh_heap_Heap_Set p3 t7.1 (IntKind.i64.wrap ((IntKind.i64.wrap (0 - x10)).tdiv (2 : Int))) (fun t11 w12 =>
  (Idx keys0.a keys0.len t7.1 1 (fun a13 =>
  (∃ x14 : Int, w12.cell? a13 = some (.int .i64 x14) ∧
  (sh_heap_Heap_Set p3 t7.1 x14 (fun t15 w16 =>
  (again6 ((IntKind.i64.wrap (t7.1 + (1 : Int))), ()) w16)) w12))))) w8)))) (J5 () w8))) ((0 : Int), ()) w4))
  (fun t17 w18 =>
  (MkS 8 [(.int .i64 (0 : Int))] (keys0.len : Int) (keys0.len : Int) w18 (fun s19 w20 =>
  (Join (Unit) (fun J21 =>
  (LoopT (Int × Int × Unit) (fun t23 again22 w24 =>
  (cond (decide (t23.2.1 < (keys0.len : Int))) (sh_heap_Heap_Pop p3 (fun x25 x26 t27 w28 =>
  (Join (Unit) (fun J29 =>
  (cond (!t27) (K false w28) (cond (decide (x25 < (0 : Int))) (K false w28) (cond (decide (x25 ≥ (keys0.len : Int))) (K false w28) (Idx s19.a s19.len x25 1 (fun a30 =>
  (∃ x31 : Int, w28.cell? a30 = some (.int .i64 x31) ∧
  (cond (decide (x31 > (0 : Int))) (K false w28) (Idx keys0.a keys0.len x25 1 (fun a32 =>
  (∃ x33 : Int, w28.cell? a32 = some (.int .i64 x33) ∧
  (cond (x26 != x33) (K false w28) (cond (decide (t23.1 ≥ (0 : Int))) (Idx keys0.a keys0.len t23.1 1 (fun a34 =>
  (∃ x35 : Int, w28.cell? a34 = some (.int .i64 x35) ∧
  (cond (decide (x26 < x35)) (K false w28) (Idx keys0.a keys0.len t23.1 1 (fun a36 =>
  (∃ x37 : Int, w28.cell? a36 = some (.int .i64 x37) ∧
  (cond (x26 == x37) (cond (decide (x25 < t23.1)) (K false w28) (J29 () w28)) (J29 () w28))))))))) (J29 () w28))))))))))))))
  (fun t38 w39 =>
  (Idx s19.a s19.len x25 1 (fun a40 =>
  (stL w39 a40 [(.int .i64 (1 : Int))] 0 (fun w41 =>
  (again22 (x25, (IntKind.i64.wrap (t23.2.1 + (1 : Int))), ()) w41)))))))) w24) (J21 () w24))) ((-1 : Int), (0 : Int), ()) w20))
  (fun t42 w43 =>
  (sh_heap_Heap_Pop p3 (fun x44 x45 t46 w47 =>
  (cond (!t46) (sh_heap_Heap_Len p3 (fun x48 w49 =>
  (cond (x48 == (0 : Int)) (sh_postroadlaw03_known  (fun t50 w51 =>
  (K t50 w51)) w49) (K false w49))) w47) (K false w47))) w43)))))))) w))

def fn_postroadref05_Check : FuncId := 61
/-- postroad/postroadref05.Check -/
def sh_postroadref05_Check (m0_N : Int) (m0_Arcs : SV) (K : Int → World → Prop) (w : World) : Prop :=
  (∀ b1 w2, Ext w w2 → w.heap.size ≤ b1 → b1 < w2.heap.size →
  (cond (decide (m0_N > (16777216 : Int))) (K (3 : Int) w2) (cond (decide ((m0_Arcs.len : Int) > (67108864 : Int))) (K (3 : Int) w2) (cond (decide (m0_N < (0 : Int))) (K (2 : Int) w2) (LoopT (Int × Unit) (fun t4 again3 w5 =>
  (cond (decide (t4.1 < (m0_Arcs.len : Int))) (Idx m0_Arcs.a m0_Arcs.len t4.1 3 (fun a6 =>
  (∃ x7 : Int, w5.cell? (a6.add 0) = some (.int .i64 x7) ∧ ∃ x8 : Int, w5.cell? (a6.add 1) = some (.int .i64 x8) ∧ ∃ x9 : Int, w5.cell? (a6.add 2) = some (.int .i64 x9) ∧
  (∀ b10 w11, Ext w5 w11 → w5.heap.size ≤ b10 → b10 < w11.heap.size →
  (∀ w12, Off b10 w11 w12 →
  (cond (decide (x7 < (0 : Int))) (K (2 : Int) w12) (cond (decide (x7 ≥ m0_N)) (K (2 : Int) w12) (cond (decide (x8 < (0 : Int))) (K (2 : Int) w12) (cond (decide (x8 ≥ m0_N)) (K (2 : Int) w12) (cond (decide (x9 < (0 : Int))) (K (2 : Int) w12) (cond (decide (x9 > (2147483648 : Int))) (K (2 : Int) w12) (again3 ((IntKind.i64.wrap (t4.1 + (1 : Int))), ()) w12)))))))))))) (K (0 : Int) w5))) ((0 : Int), ()) w2)))))

def fn_postroadref06_Right : FuncId := 32
/-- postroad/postroadref06.Right -/
def sh_postroadref06_Right (m0_N : Int) (m0_Arcs : SV) (n0 : Int) (arcs0 : Int) (K : Bool → World → Prop) (w : World) : Prop :=
  (∀ b1 w2, Ext w w2 → w.heap.size ≤ b1 → b1 < w2.heap.size →
  (sh_postroadref06_Small m0_N m0_Arcs n0 arcs0 (fun t3 w4 =>
  (Keeps [b1] w2 w4 ∧
  (cond t3 (sh_postroadref05_Check m0_N m0_Arcs (fun x5 w6 =>
  (Keeps [b1] w4 w6 ∧
  (K (x5 == (0 : Int)) w6))) w4) (K false w4)))) w2))

def fn_postroadlaw06_GraphArcs : FuncId := 8
/-- postroad/postroadlaw06.GraphArcs -/
def sh_postroadlaw06_GraphArcs (CV : CVT) (m0_N : Int) (m0_Arcs : SV) (K : Bool → World → Prop) (w : World) : Prop :=
  (∀ b1 w2, Ext w w2 → w.heap.size ≤ b1 → b1 < w2.heap.size →
  (sh_postroadref06_Right m0_N m0_Arcs (40 : Int) (80 : Int) (fun t3 w4 =>
  (Keeps [b1] w2 w4 ∧
  (cond (!t3) (sh_postroadlaw06_known CV (fun t5 w6 =>
  (Keeps [b1] w4 w6 ∧
  (K t5 w6))) w4) (sh_graph_New CV m0_N m0_Arcs (fun p7 w8 =>
  (Keeps [b1] w4 w8 ∧
  (Join (Unit) (fun J9 =>
  (LoopT (Int × Unit) (fun t11 again10 w12 =>
  (cond (decide (t11.1 < (m0_Arcs.len : Int))) (sh_graph_Graph_Arc p7 t11.1 (fun x13 x14 x15 t16 w17 =>
  (Keeps [b1] w12 w17 ∧
  (∀ b18 w19, Ext w17 w19 → w17.heap.size ≤ b18 → b18 < w19.heap.size →
  (∀ w20, Off b18 w19 w20 →
  (cond (!t16) (∀ w21, Ext w20 w21 →
  (K false w21)) (Idx m0_Arcs.a m0_Arcs.len t11.1 3 (fun a22 =>
  (∃ x23 : Int, w20.cell? (a22.add 0) = some (.int .i64 x23) ∧ ∃ x24 : Int, w20.cell? (a22.add 1) = some (.int .i64 x24) ∧ ∃ x25 : Int, w20.cell? (a22.add 2) = some (.int .i64 x25) ∧
  (∀ w26, Ext w20 w26 →
  (cond (!((x13 == x23) && ((x14 == x24) && ((x15 == x25) && true)))) (K false w26) (again10 ((IntKind.i64.wrap (t11.1 + (1 : Int))), ()) w26))))))))))) w12) (J9 () w12))) ((0 : Int), ()) w8))
  (fun t27 w28 =>
  (sh_graph_Graph_Arc p7 (-1 : Int) (fun x29 x30 x31 t32 w33 =>
  (Keeps [b1] w28 w33 ∧
  (∀ b34 w35, Ext w33 w35 → w33.heap.size ≤ b34 → b34 < w35.heap.size →
  (∀ w36, Off b34 w35 w36 →
  (sh_graph_Graph_Arc p7 (m0_Arcs.len : Int) (fun x37 x38 x39 t40 w41 =>
  (Keeps [b34, b1] w36 w41 ∧
  (∀ b42 w43, Ext w41 w43 → w41.heap.size ≤ b42 → b42 < w43.heap.size →
  (∀ w44, Off b42 w43 w44 →
  (sh_graph_Graph_Kept CV p7 (fun s45 w46 =>
  (Keeps [b42, b34, b1] w44 w46 ∧
  (Join (Int × Unit) (fun J47 =>
  (LoopT (Int × Int × Unit) (fun t49 again48 w50 =>
  (cond (decide (t49.2.1 < m0_N)) (sh_graph_Graph_Out p7 t49.2.1 (fun s51 w52 =>
  (Keeps [b42, b34, b1] w50 w52 ∧
  (again48 ((IntKind.i64.wrap (t49.1 + (s51.len : Int))), (IntKind.i64.wrap (t49.2.1 + (1 : Int))), ()) w52))) w50) (J47 (t49.1, ()) w50))) ((0 : Int), (0 : Int), ()) w46))
  (fun t53 w54 =>
  (Join (Unit) (fun J55 =>
  (LoopT (Int × Unit) (fun t57 again56 w58 =>
  (cond (decide (t57.1 < (s45.len : Int))) (Join (Unit) (fun J59 =>
  (Idx s45.a s45.len t57.1 1 (fun a60 =>
  (∃ x61 : Int, w58.cell? a60 = some (.int .i64 x61) ∧
  (sh_graph_Graph_Arc p7 x61 (fun x62 x63 x64 t65 w66 =>
  (Keeps [b42, b34, b1] w58 w66 ∧
  (∀ b67 w68, Ext w66 w68 → w66.heap.size ≤ b67 → b67 < w68.heap.size →
  (∀ w69, Off b67 w68 w69 →
  (sh_graph_Graph_Best CV p7 x62 x63 (fun x70 x71 x72 t73 w74 =>
  (Keeps [b67, b42, b34, b1] w69 w74 ∧
  (∀ b75 w76, Ext w74 w76 → w74.heap.size ≤ b75 → b75 < w76.heap.size →
  (∀ w77, Off b75 w76 w77 →
  (cond (!t73) (∀ w78, Ext w77 w78 →
  (K false w78)) (Idx s45.a s45.len t57.1 1 (fun a79 =>
  (∃ x80 : Int, w77.cell? a79 = some (.int .i64 x80) ∧
  (cond (x72 != x80) (∀ w81, Ext w77 w81 →
  (K false w81)) (cond (decide (t57.1 > (0 : Int))) (Idx s45.a s45.len t57.1 1 (fun a82 =>
  (∃ x83 : Int, w77.cell? a82 = some (.int .i64 x83) ∧
  (Idx s45.a s45.len (IntKind.i64.wrap (t57.1 - (1 : Int))) 1 (fun a84 =>
  (∃ x85 : Int, w77.cell? a84 = some (.int .i64 x85) ∧
  (∀ w86, Ext w77 w86 →
  (cond (decide (x83 ≤ x85)) (K false w86) (J59 () w86))))))))) (∀ w87, Ext w77 w87 →
  (J59 () w87)))))))))))) w69))))) w58)))))
  (fun t88 w89 =>
  (again56 ((IntKind.i64.wrap (t57.1 + (1 : Int))), ()) w89))) (J55 () w58))) ((0 : Int), ()) w54))
  (fun t90 w91 =>
  (cond (!t32) (cond (!t40) (cond (t53.1 == (s45.len : Int)) (sh_postroadlaw06_known CV (fun t92 w93 =>
  (Keeps [b42, b34, b1] w91 w93 ∧
  (K t92 w93))) w91) (K false w91)) (K false w91)) (K false w91)))))))) w44))))) w36))))) w28))))) w4)))) w2))

def fn_graph_Graph_Print_c1 : FuncId := 62
/-- (*postroad/graph.Graph).Print$1 -/
def sh_graph_Graph_Print_c1 (x0 : Int) (free1 : Addr) (K : World → Prop) (w : World) : Prop :=
  (∃ x1 : Int, w.cell? free1 = some (.int .u64 x1) ∧
  (stL w free1 [(.int .u64 (IntKind.u64.wrap ((bxor .u64 x1 (IntKind.u64.wrap (x0))) * (1099511628211 : Int))))] 0 (fun w2 =>
  (∃ x3 : Int, w2.cell? free1 = some (.int .u64 x3) ∧
  (∃ x4 : Int, w2.cell? free1 = some (.int .u64 x4) ∧
  (0 ≤ (32 : Int) ∧
  (stL w2 free1 [(.int .u64 (bxor .u64 x3 (bshr .u64 x4 (32 : Int))))] 0 (fun w5 =>
  (K w5)))))))))

def fn_graph_Graph_Print : FuncId := 33
/-- (*postroad/graph.Graph).Print -/
def sh_graph_Graph_Print (g0 : Option Addr) (K : Int → World → Prop) (w : World) : Prop :=
  (cond g0.isNone (K (0 : Int) w) (∀ b1 w2, Ext w w2 → w.heap.size ≤ b1 → b1 < w2.heap.size →
  (∀ w3, Off b1 w2 w3 →
  (Blk w3 b1 [(.int .u64 (14695981039346656037 : Int))] →
  (Nn g0 (fun a4 =>
  (∃ x5 : Int, w3.cell? ((a4.add 0).add 0) = some (.int .i64 x5) ∧
  (sh_graph_Graph_Print_c1 x5 ⟨b1, 0, none⟩ (fun w6 =>
  (Nn g0 (fun a7 =>
  (∃ s8 : SV, w6.cell? ((a7.add 0).add 1) = some (.slice s8.a s8.len s8.cap) ∧
  (LoopT (Int × Unit) (fun t10 again9 w11 =>
  (cond (decide (t10.1 < (s8.len : Int))) (Idx s8.a s8.len t10.1 3 (fun a12 =>
  (∃ x13 : Int, w11.cell? (a12.add 0) = some (.int .i64 x13) ∧ ∃ x14 : Int, w11.cell? (a12.add 1) = some (.int .i64 x14) ∧ ∃ x15 : Int, w11.cell? (a12.add 2) = some (.int .i64 x15) ∧
  (∀ b16 w17, Ext w11 w17 → w11.heap.size ≤ b16 → b16 < w17.heap.size →
  (∀ w18, Off b16 w17 w18 →
  (sh_graph_Graph_Print_c1 x13 ⟨b1, 0, none⟩ (fun w19 =>
  (Keeps [b16] w18 w19 ∧
  (sh_graph_Graph_Print_c1 x14 ⟨b1, 0, none⟩ (fun w20 =>
  (Keeps [b16] w19 w20 ∧
  (sh_graph_Graph_Print_c1 x15 ⟨b1, 0, none⟩ (fun w21 =>
  (Keeps [b16] w20 w21 ∧
  (again9 ((IntKind.i64.wrap (t10.1 + (1 : Int))), ()) w21))) w20))) w19))) w18)))))) (∃ x22 : Int, w11.cell? (⟨b1, 0, none⟩ : Addr) = some (.int .u64 x22) ∧
  (K x22 w11)))) ((0 : Int), ()) w6))))) w3))))))))

def fn_postroadlaw06_GraphOwn : FuncId := 9
/-- postroad/postroadlaw06.GraphOwn -/
def sh_postroadlaw06_GraphOwn (CV : CVT) (m0_N : Int) (m0_Arcs : SV) (K : Bool → World → Prop) (w : World) : Prop :=
  (∀ b1 w2, Ext w w2 → w.heap.size ≤ b1 → b1 < w2.heap.size →
  (sh_postroadref06_Small m0_N m0_Arcs (40 : Int) (80 : Int) (fun t3 w4 =>
  (Keeps [b1] w2 w4 ∧
  (cond (!t3) (sh_postroadlaw06_known CV (fun t5 w6 =>
  (Keeps [b1] w4 w6 ∧
  (K t5 w6))) w4) (App 24 [(.int .i64 (0 : Int)), (.int .i64 (0 : Int)), (.int .i64 (0 : Int))] ⟨none, 0, 0⟩ m0_Arcs w4 (fun s7 w8 =>
  (Keeps [b1] w4 w8 ∧
  (sh_graph_New CV m0_N s7 (fun p9 w10 =>
  (Keeps [b1] w8 w10 ∧
  (sh_graph_New CV m0_N m0_Arcs (fun p11 w12 =>
  (Keeps [b1] w10 w12 ∧
  (Join (Unit) (fun J13 =>
  (LoopT (Int × Unit) (fun t15 again14 w16 =>
  (cond (decide (t15.1 < (s7.len : Int))) (Idx s7.a s7.len t15.1 3 (fun a17 =>
  (stL w16 a17 [(.int .i64 (0 : Int)), (.int .i64 (0 : Int)), (.int .i64 (1 : Int))] 0 (fun w18 =>
  (Keeps [b1] w16 w18 ∧
  (again14 ((IntKind.i64.wrap (t15.1 + (1 : Int))), ()) w18)))))) (J13 () w16))) ((0 : Int), ()) w12))
  (fun t19 w20 =>
  (Join (Unit) (fun J21 =>
  (LoopT (Int × Unit) (fun t23 again22 w24 =>
  (sh_graph_Graph_N p11 (fun x25 w26 =>
  (Keeps [b1] w24 w26 ∧
  (cond (decide (t23.1 < x25)) (Join (Unit) (fun J27 =>
  (sh_graph_Graph_Out p9 t23.1 (fun s28 w29 =>
  (Keeps [b1] w26 w29 ∧
  (Join (Unit) (fun J30 =>
  (LoopT (Int × Unit) (fun t32 again31 w33 =>
  (cond (decide (t32.1 < (s28.len : Int))) (Idx s28.a s28.len t32.1 3 (fun a34 =>
  (stL w33 (a34.add 1) [(.int .i64 (-5 : Int))] 0 (fun w35 =>
  (Keeps [b1] w33 w35 ∧
  (again31 ((IntKind.i64.wrap (t32.1 + (1 : Int))), ()) w35)))))) (J30 () w33))) ((0 : Int), ()) w29))
  (fun t36 w37 =>
  (sh_graph_Graph_Out p9 t23.1 (fun s38 w39 =>
  (Keeps [b1] w37 w39 ∧
  (sh_graph_Graph_Out p11 t23.1 (fun s40 w41 =>
  (Keeps [b1] w39 w41 ∧
  (sh_postroadref06_SameEdges s38 s40 (fun t42 w43 =>
  (Keeps [b1] w41 w43 ∧
  (cond (!t42) (K false w43) (sh_graph_Graph_In p9 t23.1 (fun s44 w45 =>
  (Keeps [b1] w43 w45 ∧
  (sh_graph_Graph_In p11 t23.1 (fun s46 w47 =>
  (Keeps [b1] w45 w47 ∧
  (sh_postroadref06_SameEdges s44 s46 (fun t48 w49 =>
  (Keeps [b1] w47 w49 ∧
  (cond (!t48) (K false w49) (J27 () w49)))) w47))) w45))) w43)))) w41))) w39))) w37))))) w26))
  (fun t50 w51 =>
  (again22 ((IntKind.i64.wrap (t23.1 + (1 : Int))), ()) w51))) (J21 () w26)))) w24)) ((0 : Int), ()) w20))
  (fun t52 w53 =>
  (sh_graph_Graph_Print p9 (fun x54 w55 =>
  (Keeps [b1] w53 w55 ∧
  (sh_graph_Graph_Print p11 (fun x56 w57 =>
  (Keeps [b1] w55 w57 ∧
  (cond (x54 == x56) (sh_postroadlaw06_known CV (fun t58 w59 =>
  (Keeps [b1] w57 w59 ∧
  (K t58 w59))) w57) (K false w57)))) w55))) w53))))))) w10))) w8))))))) w2))

def fn_heap_Heap_Key : FuncId := 35
/-- (*postroad/heap.Heap).Key -/
def sh_heap_Heap_Key (h0 : Option Addr) (id0 : Int) (K : Int → Bool → World → Prop) (w : World) : Prop :=
  (sh_heap_Heap_may h0 id0 (fun t1 w2 =>
  (cond (!t1) (K (0 : Int) false w2) (Nn h0 (fun a3 =>
  (∃ s4 : SV, w2.cell? ((a3.add 0).add 1) = some (.slice s4.a s4.len s4.cap) ∧
  (Idx s4.a s4.len id0 1 (fun a5 =>
  (∃ x6 : Int, w2.cell? a5 = some (.int .i64 x6) ∧
  (cond (x6 == (0 : Int)) (K (0 : Int) false w2) (Nn h0 (fun a7 =>
  (∃ s8 : SV, w2.cell? ((a7.add 0).add 0) = some (.slice s8.a s8.len s8.cap) ∧
  (Nn h0 (fun a9 =>
  (∃ s10 : SV, w2.cell? ((a9.add 0).add 1) = some (.slice s10.a s10.len s10.cap) ∧
  (Idx s10.a s10.len id0 1 (fun a11 =>
  (∃ x12 : Int, w2.cell? a11 = some (.int .i64 x12) ∧
  (Idx s8.a s8.len (IntKind.i64.wrap (x12 - (1 : Int))) 2 (fun a13 =>
  (∃ x14 : Int, w2.cell? (a13.add 1) = some (.int .i64 x14) ∧
  (∀ w15, Ext w2 w15 →
  (K x14 true w15))))))))))))))))))))))) w)

def fn_heap_Heap_Drop : FuncId := 34
/-- (*postroad/heap.Heap).Drop -/
def sh_heap_Heap_Drop (h0 : Option Addr) (id0 : Int) (K : Bool → World → Prop) (w : World) : Prop :=
  (sh_heap_Heap_Key h0 id0 (fun x1 t2 w3 => (cond (!t2) (K false w3) (Nn h0 (fun a4 => (sh_heap_queue_drop (some (a4.add 0)) id0 (fun w5 => (K true w5)) w3))))) w)

def fn_postroadlaw03_HeapKeys : FuncId := 10
/-- postroad/postroadlaw03.HeapKeys -/
def sh_postroadlaw03_HeapKeys (l0 : SV) (K : Bool → World → Prop) (w : World) : Prop :=
  (cond (decide ((l0.len : Int) > (60 : Int))) (sh_postroadlaw03_known  (fun t1 w2 =>
  (K t1 w2)) w) (sh_heap_New (8 : Int) (fun p3 w4 =>
  (MkS 8 [(.int .i64 (0 : Int))] (8 : Int) (8 : Int) w4 (fun s5 w6 =>
  (MkS 8 [(.int .i64 (0 : Int))] (8 : Int) (8 : Int) w6 (fun s7 w8 =>
  (Join (Unit) (fun J9 =>
  (LoopT (Int × Unit) (fun t11 again10 w12 =>
  (cond (decide (t11.1 < (l0.len : Int))) (Join (Unit) (fun J13 =>
  (Idx l0.a l0.len t11.1 3 (fun a14 =>
  (∃ x15 : Int, w12.cell? (a14.add 0) = some (.int .i64 x15) ∧ ∃ x16 : Int, w12.cell? (a14.add 1) = some (.int .i64 x16) ∧ ∃ x17 : Int, w12.cell? (a14.add 2) = some (.int .i64 x17) ∧
  (∀ b18 w19, Ext w12 w19 → w12.heap.size ≤ b18 → b18 < w19.heap.size →
  (∀ w20, Off b18 w19 w20 →
  (cond (decide (x16 < (0 : Int))) (sh_heap_Heap_Set p3 x16 x17 (fun t21 w22 =>
  (Keeps [b18] w20 w22 ∧
  (cond t21 (K false w22) (sh_heap_Heap_Drop p3 x16 (fun t23 w24 =>
  (Keeps [b18] w22 w24 ∧
  (cond t23 (K false w24) (J13 () w24)))) w22)))) w20) (cond (decide (x16 > (7 : Int))) (sh_heap_Heap_Set p3 x16 x17 (fun t25 w26 =>
  (Keeps [b18] w20 w26 ∧
  (cond t25 (K false w26) (sh_heap_Heap_Drop p3 x16 (fun t27 w28 =>
  (Keeps [b18] w26 w28 ∧
  (cond t27 (K false w28) (J13 () w28)))) w26)))) w20) (cond (x15 == (3 : Int)) (Idx s7.a s7.len x16 1 (fun a29 =>
  (∃ x30 : Int, w20.cell? a29 = some (.int .i64 x30) ∧
  (∀ w33, Ext w20 w33 →
  (sh_heap_Heap_Drop p3 x16 (fun t32 w34 =>
  (Keeps [b18] w33 w34 ∧
  ((∃ y31 : Int, w34.cell? a29 = some (.int .i64 y31) ∧
  ((.int .i64 y31) : Value) = (.int .i64 x30)) ∧
  (∀ w35, Ext w34 w35 →
  (cond (!(t32 == (x30 == (1 : Int)))) (K false w35) (Idx s7.a s7.len x16 1 (fun a36 =>
  (stL w35 a36 [(.int .i64 (0 : Int))] 0 (fun w37 =>
  (Keeps [b18] w35 w37 ∧
  (J13 () w37))))))))))) w33))))) (sh_heap_Heap_Set p3 x16 x17 (fun t38 w39 =>
  (Keeps [b18] w20 w39 ∧
  (cond (!t38) (K false w39) (Idx s7.a s7.len x16 1 (fun a40 =>
  (stL w39 a40 [(.int .i64 (1 : Int))] 0 (fun w41 =>
  (Keeps [b18] w39 w41 ∧
  (Idx s5.a s5.len x16 1 (fun a42 =>
  (stL w41 a42 [(.int .i64 x17)] 0 (fun w43 =>
  (Keeps [b18] w41 w43 ∧
  (J13 () w43)))))))))))))) w20))))))))))
  (fun t44 w45 =>
  (again10 ((IntKind.i64.wrap (t11.1 + (1 : Int))), ()) w45))) (J9 () w12))) ((0 : Int), ()) w8))
  (fun t46 w47 =>
  (Join (Int × Int × Unit) (fun J48 =>
  (LoopT (Int × Int × Int × Unit) (fun t50 again49 w51 =>
  (cond (decide (t50.2.2.1 < (8 : Int))) (Join (Int × Int × Unit) (fun J52 =>
  (sh_heap_Heap_Key p3 t50.2.2.1 (fun x53 t54 w55 =>
  (Join (Unit) (fun J56 =>
  (Idx s7.a s7.len t50.2.2.1 1 (fun a57 =>
  (∃ x58 : Int, w55.cell? a57 = some (.int .i64 x58) ∧
  (cond (!(t54 == (x58 == (1 : Int)))) (K false w55) (cond t54 (Idx s5.a s5.len t50.2.2.1 1 (fun a59 =>
  (∃ x60 : Int, w55.cell? a59 = some (.int .i64 x60) ∧
  (cond (x53 != x60) (K false w55) (J56 () w55))))) (J56 () w55)))))))
  (fun t61 w62 =>
  (Idx s7.a s7.len t50.2.2.1 1 (fun a63 =>
  (∃ x64 : Int, w62.cell? a63 = some (.int .i64 x64) ∧
  (cond t54 (cond (decide (t50.1 < (0 : Int))) (J52 (t50.2.2.1, (IntKind.i64.wrap (t50.2.1 + x64)), ()) w62) (Idx s5.a s5.len t50.1 1 (fun a65 =>
  (∃ x66 : Int, w62.cell? a65 = some (.int .i64 x66) ∧
  (cond (decide (x53 < x66)) (J52 (t50.2.2.1, (IntKind.i64.wrap (t50.2.1 + x64)), ()) w62) (J52 (t50.1, (IntKind.i64.wrap (t50.2.1 + x64)), ()) w62)))))) (J52 (t50.1, (IntKind.i64.wrap (t50.2.1 + x64)), ()) w62)))))))) w51))
  (fun t67 w68 =>
  (again49 (t67.1, t67.2.1, (IntKind.i64.wrap (t50.2.2.1 + (1 : Int))), ()) w68))) (J48 (t50.1, t50.2.1, ()) w51))) ((-1 : Int), (0 : Int), (0 : Int), ()) w47))
  (fun t69 w70 =>
  (sh_heap_Heap_First p3 (fun x71 x72 t73 w74 =>
  (sh_heap_Heap_Len p3 (fun x75 w76 =>
  (cond (x75 == t69.2.1) (cond (t73 == (decide (t69.1 ≥ (0 : Int)))) (cond (decide (t69.1 < (0 : Int))) (sh_postroadlaw03_known  (fun t77 w78 =>
  (K t77 w78)) w76) (cond (x71 == t69.1) (Idx s5.a s5.len t69.1 1 (fun a79 =>
  (∃ x80 : Int, w76.cell? a79 = some (.int .i64 x80) ∧
  (cond (x72 == x80) (sh_postroadlaw03_known  (fun t81 w82 =>
  (K t81 w82)) w76) (K false w76))))) (K false w76))) (K false w76)) (K false w76))) w74)) w70)))))))))) w))

def fn_postroadref03_New : FuncId := 37
/-- postroad/postroadref03.New -/
def sh_postroadref03_New (n0 : Int) (K : Int → SV → Bool → World → Prop) (w : World) : Prop :=
  (∀ b1 w2, Ext w w2 → w.heap.size ≤ b1 → b1 < w2.heap.size →
  (cond (decide (n0 ≥ (0 : Int))) (∀ w3, Off b1 w2 w3 →
  (K n0 ⟨none, 0, 0⟩ (decide (n0 ≤ (16777216 : Int))) w3)) (∀ w4, Off b1 w2 w4 →
  (K n0 ⟨none, 0, 0⟩ false w4))))

def fn_postroadref03_Drop : FuncId := 64
/-- postroad/postroadref03.Drop -/
def sh_postroadref03_Drop (t0_N : Int) (t0_L : SV) (id0 : Int) (K : Int → SV → Bool → World → Prop) (w : World) : Prop :=
  (∀ b1 w2, Ext w w2 → w.heap.size ≤ b1 → b1 < w2.heap.size →
  (∀ b3 w4, Ext w2 w4 → w2.heap.size ≤ b3 → b3 < w4.heap.size →
  (∀ b5 w6, Ext w4 w6 → w4.heap.size ≤ b5 → b5 < w6.heap.size →
  (∀ w7, Off b5 w6 w7 →
  (Join ((Int × SV × Unit) × Unit) (fun J8 =>
  (LoopT (Int × (Int × SV × Unit) × Unit) (fun t10 again9 w11 =>
  (cond (decide (t10.1 < (t0_L.len : Int))) (Join ((Int × SV × Unit) × Unit) (fun J12 =>
  (Idx t0_L.a t0_L.len t10.1 2 (fun a13 =>
  (∃ x14 : Int, w11.cell? (a13.add 0) = some (.int .i64 x14) ∧
  (cond (x14 != id0) (Idx t0_L.a t0_L.len t10.1 2 (fun a15 =>
  (∃ x16 : Int, w11.cell? (a15.add 0) = some (.int .i64 x16) ∧ ∃ x17 : Int, w11.cell? (a15.add 1) = some (.int .i64 x17) ∧
  (∀ w18, Ext w11 w18 →
  (NewB [(.int .i64 x16), (.int .i64 x17)] w18 (fun b19 w20 =>
  (∀ w21, Ext w20 w21 →
  (App 16 [(.int .i64 (0 : Int)), (.int .i64 (0 : Int))] t10.2.1.2.1 ⟨(some ⟨b19, 0, none⟩), 1, 1⟩ w21 (fun s22 w23 =>
  (Keeps [b5, b3, b1] w21 w23 ∧
  (∀ w24, Ext w23 w24 →
  (∀ w25, Off b5 w24 w25 →
  (∀ w26, Ext w25 w26 →
  (J12 ((t10.2.1.1, s22, ()), ()) w26)))))))))))))) (J12 ((t10.2.1.1, t10.2.1.2.1, ()), ()) w11))))))
  (fun t27 w28 =>
  (again9 ((IntKind.i64.wrap (t10.1 + (1 : Int))), (t27.1.1, t27.1.2.1, ()), ()) w28))) (J8 ((t10.2.1.1, t10.2.1.2.1, ()), ()) w11))) ((0 : Int), (t0_N, ⟨none, 0, 0⟩, ()), ()) w7))
  (fun t29 w30 =>
  (∀ w31, Ext w30 w31 →
  (∀ w32, Off b3 w31 w32 →
  (∀ w33, Ext w32 w33 →
  (K t29.1.1 t29.1.2.1 (decide ((t29.1.2.1.len : Int) < (t0_L.len : Int))) w33))))))))))

def fn_postroadref03_Set : FuncId := 63
/-- postroad/postroadref03.Set -/
def sh_postroadref03_Set (t0_N : Int) (t0_L : SV) (id0 : Int) (key0 : Int) (K : Int → SV → Bool → World → Prop) (w : World) : Prop :=
  (∀ b1 w2, Ext w w2 → w.heap.size ≤ b1 → b1 < w2.heap.size →
  (∀ b3 w4, Ext w2 w4 → w2.heap.size ≤ b3 → b3 < w4.heap.size →
  (cond (decide (id0 < (0 : Int))) (∀ w5, Off b3 w4 w5 →
  (K t0_N t0_L false w5)) (cond (decide (id0 ≥ t0_N)) (∀ w6, Off b3 w4 w6 →
  (K t0_N t0_L false w6)) (sh_postroadref03_Drop t0_N t0_L id0 (fun x7 s8 t9 w10 =>
  (Keeps [b3, b1] w4 w10 ∧
  (∀ b11 w12, Ext w10 w12 → w10.heap.size ≤ b11 → b11 < w12.heap.size →
  (∀ w13, Off b11 w12 w13 →
  (NewB [(.int .i64 id0), (.int .i64 key0)] w13 (fun b14 w15 =>
  (App 16 [(.int .i64 (0 : Int)), (.int .i64 (0 : Int))] s8 ⟨(some ⟨b14, 0, none⟩), 1, 1⟩ w15 (fun s16 w17 =>
  (Keeps [b11, b3, b1] w15 w17 ∧
  (∀ w18, Off b11 w17 w18 →
  (∀ w19, Off b3 w18 w19 →
  (K x7 s16 true w19)))))))))))) w4)))))

def fn_postroadref03_First : FuncId := 40
/-- postroad/postroadref03.First -/
def sh_postroadref03_First (t0_N : Int) (t0_L : SV) (K : Int → Int → Bool → World → Prop) (w : World) : Prop :=
  (∀ b1 w2, Ext w w2 → w.heap.size ≤ b1 → b1 < w2.heap.size →
  (∀ b3 w4, Ext w2 w4 → w2.heap.size ≤ b3 → b3 < w4.heap.size →
  (∀ b5 w6, Ext w4 w6 → w4.heap.size ≤ b5 → b5 < w6.heap.size →
  (∀ w7, Off b5 w6 w7 →
  (Join ((Int × Int × Unit) × Unit) (fun J8 =>
  (LoopT (Int × (Int × Int × Unit) × Unit) (fun t10 again9 w11 =>
  (cond (decide (t10.1 < (t0_L.len : Int))) (Join ((Int × Int × Unit) × Unit) (fun J12 =>
  (Idx t0_L.a t0_L.len t10.1 2 (fun a13 =>
  (∃ x14 : Int, w11.cell? (a13.add 0) = some (.int .i64 x14) ∧ ∃ x15 : Int, w11.cell? (a13.add 1) = some (.int .i64 x15) ∧
  (∀ b16 w17, Ext w11 w17 → w11.heap.size ≤ b16 → b16 < w17.heap.size →
  (∀ w18, Off b16 w17 w18 →
  (cond (t10.1 == (0 : Int)) (∀ w19, Off b5 w18 w19 →
  (J12 ((x14, x15, ()), ()) w19)) (cond (decide (x15 < t10.2.1.2.1)) (∀ w20, Off b5 w18 w20 →
  (J12 ((x14, x15, ()), ()) w20)) (cond (x15 == t10.2.1.2.1) (cond (decide (x14 < t10.2.1.1)) (∀ w21, Off b5 w18 w21 →
  (J12 ((x14, x15, ()), ()) w21)) (J12 ((t10.2.1.1, t10.2.1.2.1, ()), ()) w18)) (J12 ((t10.2.1.1, t10.2.1.2.1, ()), ()) w18))))))))))
  (fun t22 w23 =>
  (again9 ((IntKind.i64.wrap (t10.1 + (1 : Int))), (t22.1.1, t22.1.2.1, ()), ()) w23))) (J8 ((t10.2.1.1, t10.2.1.2.1, ()), ()) w11))) ((0 : Int), ((0 : Int), (0 : Int), ()), ()) w7))
  (fun t24 w25 =>
  (∀ w26, Ext w25 w26 →
  (∀ w27, Off b3 w26 w27 →
  (∀ w28, Ext w27 w28 →
  (K t24.1.1 t24.1.2.1 (decide ((t0_L.len : Int) > (0 : Int))) w28))))))))))

def fn_postroadref03_Step : FuncId := 38
/-- postroad/postroadref03.Step -/
def sh_postroadref03_Step (t0_N : Int) (t0_L : SV) (d0_Kind : Int) (d0_ID : Int) (d0_Key : Int) (K : Int → SV → Int → Int → Bool → World → Prop) (w : World) : Prop :=
  (∀ b1 w2, Ext w w2 → w.heap.size ≤ b1 → b1 < w2.heap.size →
  (∀ b3 w4, Ext w2 w4 → w2.heap.size ≤ b3 → b3 < w4.heap.size →
  (∀ b5 w6, Ext w4 w6 → w4.heap.size ≤ b5 → b5 < w6.heap.size →
  (∀ b7 w8, Ext w6 w8 → w6.heap.size ≤ b7 → b7 < w8.heap.size →
  (cond (d0_Kind == (1 : Int)) (sh_postroadref03_Set t0_N t0_L d0_ID d0_Key (fun x9 s10 t11 w12 =>
  (Keeps [b7, b5, b3, b1] w8 w12 ∧
  (∀ b13 w14, Ext w12 w14 → w12.heap.size ≤ b13 → b13 < w14.heap.size →
  (∀ w15, Off b13 w14 w15 →
  (∀ w16, Off b5 w15 w16 →
  (∀ w17, Off b7 w16 w17 →
  (K x9 s10 (0 : Int) (0 : Int) t11 w17))))))) w8) (cond (d0_Kind == (2 : Int)) (sh_postroadref03_First t0_N t0_L (fun x18 x19 t20 w21 =>
  (Keeps [b7, b5, b3, b1] w8 w21 ∧
  (∀ b22 w23, Ext w21 w23 → w21.heap.size ≤ b22 → b22 < w23.heap.size →
  (∀ w24, Off b22 w23 w24 →
  (cond (!t20) (∀ w25, Ext w24 w25 →
  (∀ w26, Off b5 w25 w26 →
  (∀ w27, Ext w26 w27 →
  (∀ w28, Off b7 w27 w28 →
  (∀ w29, Ext w28 w29 →
  (K t0_N t0_L x18 x19 false w29)))))) (sh_postroadref03_Drop t0_N t0_L x18 (fun x30 s31 t32 w33 =>
  (Keeps [b22, b7, b5, b3, b1] w24 w33 ∧
  (∀ b34 w35, Ext w33 w35 → w33.heap.size ≤ b34 → b34 < w35.heap.size →
  (∀ w36, Off b34 w35 w36 →
  (∀ w37, Ext w36 w37 →
  (∀ w38, Off b5 w37 w38 →
  (∀ w39, Ext w38 w39 →
  (∀ w40, Off b7 w39 w40 →
  (∀ w41, Ext w40 w41 →
  (K x30 s31 x18 x19 true w41)))))))))) w24)))))) w8) (cond (d0_Kind == (3 : Int)) (sh_postroadref03_Drop t0_N t0_L d0_ID (fun x42 s43 t44 w45 =>
  (Keeps [b7, b5, b3, b1] w8 w45 ∧
  (∀ b46 w47, Ext w45 w47 → w45.heap.size ≤ b46 → b46 < w47.heap.size →
  (∀ w48, Off b46 w47 w48 →
  (∀ w49, Off b5 w48 w49 →
  (∀ w50, Off b7 w49 w50 →
  (K x42 s43 (0 : Int) (0 : Int) t44 w50))))))) w8) (cond (d0_Kind == (4 : Int)) (∀ w51, Off b5 w8 w51 →
  (∀ w52, Off b7 w51 w52 →
  (K t0_N ⟨none, 0, 0⟩ (0 : Int) (0 : Int) false w52))) (∀ w53, Off b5 w8 w53 →
  (∀ w54, Off b7 w53 w54 →
  (K t0_N t0_L (0 : Int) (0 : Int) false w54)))))))))))

def fn_heap_Heap_Clear : FuncId := 42
/-- (*postroad/heap.Heap).Clear -/
def sh_heap_Heap_Clear (h0 : Option Addr) (K : World → Prop) (w : World) : Prop :=
  (LoopT (Unit) (fun t2 again1 w3 =>
  (sh_heap_Heap_Len h0 (fun x4 w5 =>
  (cond (decide (x4 > (0 : Int))) (Nn h0 (fun a6 =>
  (Nn h0 (fun a7 =>
  (∃ s8 : SV, w5.cell? ((a7.add 0).add 0) = some (.slice s8.a s8.len s8.cap) ∧
  (Quiet (Int) (fun r10 =>
  (.int .i64 r10)) (fun K11 w12' => sh_heap_Heap_Len h0 (fun x9 w12 => K11 x9 w12) w12') w5 (fun r10 =>
  (Idx s8.a s8.len (IntKind.i64.wrap (r10 - (1 : Int))) 2 (fun a13 =>
  (∃ x14 : Int, w5.cell? (a13.add 0) = some (.int .i64 x14) ∧
  (∀ w15, Ext w5 w15 →
  (sh_heap_queue_drop (some (a6.add 0)) x14 (fun w16 =>
  (∀ w17, Ext w16 w17 →
  (again1 () w17))) w15)))))))))))) (K w5))) w3)) () w)

def fn_postroadlaw03_did : FuncId := 39
/-- postroad/postroadlaw03.did -/
def sh_postroadlaw03_did (h0 : Option Addr) (d0_Kind : Int) (d0_ID : Int) (d0_Key : Int) (K : Int → Int → Bool → World → Prop) (w : World) : Prop :=
  (∀ b1 w2, Ext w w2 → w.heap.size ≤ b1 → b1 < w2.heap.size →
  (Join (Unit) (fun J3 =>
  (cond (d0_Kind == (1 : Int)) (sh_heap_Heap_Set h0 d0_ID d0_Key (fun t4 w5 =>
  (Keeps [b1] w2 w5 ∧
  (K (0 : Int) (0 : Int) t4 w5))) w2) (cond (d0_Kind == (2 : Int)) (sh_heap_Heap_Pop h0 (fun x6 x7 t8 w9 =>
  (Keeps [b1] w2 w9 ∧
  (K x6 x7 t8 w9))) w2) (cond (d0_Kind == (3 : Int)) (sh_heap_Heap_Drop h0 d0_ID (fun t10 w11 =>
  (Keeps [b1] w2 w11 ∧
  (K (0 : Int) (0 : Int) t10 w11))) w2) (cond (d0_Kind == (4 : Int)) (sh_heap_Heap_Clear h0 (fun w12 =>
  (Keeps [b1] w2 w12 ∧
  (J3 () w12))) w2) (J3 () w2))))))
  (fun t13 w14 =>
  (K (0 : Int) (0 : Int) false w14))))

def fn_postroadref03_Key : FuncId := 41
/-- postroad/postroadref03.Key -/
def sh_postroadref03_Key (t0_N : Int) (t0_L : SV) (id0 : Int) (K : Int → Bool → World → Prop) (w : World) : Prop :=
  (∀ b1 w2, Ext w w2 → w.heap.size ≤ b1 → b1 < w2.heap.size →
  (LoopT (Int × Unit) (fun t4 again3 w5 =>
  (cond (decide (t4.1 < (t0_L.len : Int))) (Idx t0_L.a t0_L.len t4.1 2 (fun a6 =>
  (∃ x7 : Int, w5.cell? (a6.add 0) = some (.int .i64 x7) ∧
  (cond (x7 == id0) (Idx t0_L.a t0_L.len t4.1 2 (fun a8 =>
  (∃ x9 : Int, w5.cell? (a8.add 1) = some (.int .i64 x9) ∧
  (K x9 true w5)))) (again3 ((IntKind.i64.wrap (t4.1 + (1 : Int))), ()) w5))))) (K (0 : Int) false w5))) ((0 : Int), ()) w2))

def fn_postroadlaw03_HeapSteps : FuncId := 11
/-- postroad/postroadlaw03.HeapSteps -/
def sh_postroadlaw03_HeapSteps (n0 : Int) (l0 : SV) (id0 : Int) (K : Bool → World → Prop) (w : World) : Prop :=
  (Join (Unit) (fun J1 =>
  (cond (decide (n0 > (100 : Int))) (cond (decide (n0 ≤ (16777216 : Int))) (sh_postroadlaw03_known  (fun t2 w3 =>
  (K t2 w3)) w) (cond (decide ((l0.len : Int) > (60 : Int))) (sh_postroadlaw03_known  (fun t4 w5 =>
  (K t4 w5)) w) (J1 () w))) (cond (decide ((l0.len : Int) > (60 : Int))) (sh_postroadlaw03_known  (fun t6 w7 =>
  (K t6 w7)) w) (J1 () w))))
  (fun t8 w9 =>
  (sh_postroadref03_New n0 (fun x10 s11 t12 w13 =>
  (∀ b14 w15, Ext w13 w15 → w13.heap.size ≤ b14 → b14 < w15.heap.size →
  (∀ w16, Off b14 w15 w16 →
  (sh_heap_New n0 (fun p17 w18 =>
  (Keeps [b14] w16 w18 ∧
  (cond (!((!p17.isNone) == t12)) (K false w18) (cond (!t12) (sh_heap_Heap_Set p17 (0 : Int) (0 : Int) (fun t19 w20 =>
  (Keeps [b14] w18 w20 ∧
  (cond (!t19) (sh_postroadlaw03_known  (fun t21 w22 =>
  (Keeps [b14] w20 w22 ∧
  (K t21 w22))) w20) (K false w20)))) w18) (Join (Unit) (fun J23 =>
  (LoopT (Int × (Int × SV × Unit) × Unit) (fun t25 again24 w26 =>
  (cond (decide (t25.1 < (l0.len : Int))) (Idx l0.a l0.len t25.1 3 (fun a27 =>
  (∃ x28 : Int, w26.cell? (a27.add 0) = some (.int .i64 x28) ∧ ∃ x29 : Int, w26.cell? (a27.add 1) = some (.int .i64 x29) ∧ ∃ x30 : Int, w26.cell? (a27.add 2) = some (.int .i64 x30) ∧
  (∀ w36, Ext w26 w36 →
  (sh_postroadref03_Step t25.2.1.1 t25.2.1.2.1 x28 x29 x30 (fun x31 s32 x33 x34 t35 w37 =>
  (KeepZ (zI (fun _ => False) w26 w36) w36 w37 ∧
  (Keeps [b14] w36 w37 ∧
  (∀ b38 w39, Ext w37 w39 →
  ((zI (fun _ => False) w26 w36) b38 ∨ w37.heap.size ≤ b38) → b38 < w39.heap.size →
  (∀ b40 w41, Ext w39 w41 →
  ((zX (zI (zI (fun _ => False) w26 w36) w37 w39) b38) b40 ∨ w39.heap.size ≤ b40) → b40 < w41.heap.size →
  (∀ w42, Ext w41 w42 →
  (∀ w43, Off b38 w42 w43 →
  (∀ w44, Ext w43 w44 →
  (∀ w45, Off b40 w44 w45 →
  (∀ w46, Ext w45 w46 →
  (∀ w47, Off b14 w46 w47 →
  (Idx l0.a l0.len t25.1 3 (fun a48 =>
  (∃ x49 : Int, w47.cell? (a48.add 0) = some (.int .i64 x49) ∧ ∃ x50 : Int, w47.cell? (a48.add 1) = some (.int .i64 x50) ∧ ∃ x51 : Int, w47.cell? (a48.add 2) = some (.int .i64 x51) ∧
  (sh_postroadlaw03_did p17 x49 x50 x51 (fun x52 x53 t54 w55 =>
  (Keeps [b14, b40, b38] w47 w55 ∧
  (sh_postroadref03_First x31 s32 (fun x56 x57 t58 w59 =>
  (Keeps [b14, b40, b38] w55 w59 ∧
  (∀ b60 w61, Ext w59 w61 → w59.heap.size ≤ b60 → b60 < w61.heap.size →
  (∀ w62, Off b60 w61 w62 →
  (sh_heap_Heap_First p17 (fun x63 x64 t65 w66 =>
  (Keeps [b60, b14, b40, b38] w62 w66 ∧
  (sh_postroadref03_Key x31 s32 id0 (fun x67 t68 w69 =>
  (Keeps [b60, b14, b40, b38] w66 w69 ∧
  (sh_heap_Heap_Key p17 id0 (fun x70 t71 w72 =>
  (Keeps [b60, b14, b40, b38] w69 w72 ∧
  (cond (x52 != x33) (∀ w73, Ext w72 w73 →
  (K false w73)) (cond (x53 != x34) (∀ w74, Ext w72 w74 →
  (K false w74)) (cond (!(t54 == t35)) (∀ w75, Ext w72 w75 →
  (K false w75)) (cond (x63 != x56) (∀ w76, Ext w72 w76 →
  (K false w76)) (cond (x64 != x57) (∀ w77, Ext w72 w77 →
  (K false w77)) (cond (!(t65 == t58)) (∀ w78, Ext w72 w78 →
  (K false w78)) (cond (x67 != x70) (∀ w79, Ext w72 w79 →
  (K false w79)) (cond (!(t68 == t71)) (∀ w80, Ext w72 w80 →
  (K false w80)) (Quiet (Int) (fun r82 =>
  (.int .i64 r82)) (fun K83 w84' => sh_heap_Heap_Len p17 (fun x81 w84 => K83 x81 w84) w84') w72 (fun r82 =>
  (∀ w85, Ext w72 w85 →
  (cond (r82 != (s32.len : Int)) (K false w85) (again24 ((IntKind.i64.wrap (t25.1 + (1 : Int))), (x31, s32, ()), ()) w85))))))))))))))) w69))) w66))) w62))))) w55))) w47))))))))))))))) w36))))) (J23 () w26))) ((0 : Int), (x10, s11, ()), ()) w18))
  (fun t86 w87 =>
  (sh_postroadlaw03_known  (fun t88 w89 =>
  (K t88 w89)) w87))))))) w16)))) w9)))

def fn_postroadlaw03_HeapClears : FuncId := 12
/-- postroad/postroadlaw03.HeapClears -/
def sh_postroadlaw03_HeapClears (keys0 : SV) (out0 : Int) (K : Bool → World → Prop) (w : World) : Prop :=
  (cond (decide ((keys0.len : Int) > (100 : Int))) (sh_postroadlaw03_known  (fun t1 w2 =>
  (K t1 w2)) w) (cond ((keys0.len : Int) == (0 : Int)) (sh_postroadlaw03_known  (fun t3 w4 =>
  (K t3 w4)) w) (sh_heap_New (keys0.len : Int) (fun p5 w6 =>
  (sh_heap_New (keys0.len : Int) (fun p7 w8 =>
  (Join (Unit) (fun J9 =>
  (LoopT (Int × Unit) (fun t11 again10 w12 =>
  (cond (decide (t11.1 < (keys0.len : Int))) (sh_heap_Heap_Set p5 (IntKind.i64.wrap ((IntKind.i64.wrap ((keys0.len : Int) - (1 : Int))) - t11.1)) (5 : Int) (fun t13 w14 =>
  (again10 ((IntKind.i64.wrap (t11.1 + (1 : Int))), ()) w14)) w12) (J9 () w12))) ((0 : Int), ()) w8))
  (fun t15 w16 =>
  (sh_heap_Heap_Clear p5 (fun w17 =>
  (if (keys0.len : Int) = 0 then False else (Join (Unit) (fun J18 =>
  (LoopT (Int × Unit) (fun t20 again19 w21 =>
  (cond (decide (t20.1 < (keys0.len : Int))) (Join (Unit) (fun J22 =>
  (Idx keys0.a keys0.len t20.1 1 (fun a23 =>
  (∃ x24 : Int, w21.cell? a23 = some (.int .i64 x24) ∧
  (sh_heap_Heap_Set p5 t20.1 x24 (fun t25 w26 =>
  (cond (t20.1 != ((IntKind.i64.wrap (out0)).tmod (keys0.len : Int))) (Idx keys0.a keys0.len t20.1 1 (fun a27 =>
  (∃ x28 : Int, w26.cell? a27 = some (.int .i64 x28) ∧
  (sh_heap_Heap_Set p7 t20.1 x28 (fun t29 w30 =>
  (J22 () w30)) w26)))) (J22 () w26))) w21)))))
  (fun t31 w32 =>
  (again19 ((IntKind.i64.wrap (t20.1 + (1 : Int))), ()) w32))) (J18 () w21))) ((0 : Int), ()) w17))
  (fun t33 w34 =>
  (sh_heap_Heap_Len p5 (fun x35 w36 =>
  (cond (x35 != (keys0.len : Int)) (K false w36) (sh_heap_Heap_Drop p5 ((IntKind.i64.wrap (out0)).tmod (keys0.len : Int)) (fun t37 w38 =>
  (cond (!t37) (K false w38) (sh_heap_Heap_Drop p5 ((IntKind.i64.wrap (out0)).tmod (keys0.len : Int)) (fun t39 w40 =>
  (cond t39 (K false w40) (Join (Unit) (fun J41 =>
  (LoopT (Unit) (fun t43 again42 w44 =>
  (sh_heap_Heap_Len p7 (fun x45 w46 =>
  (cond (decide (x45 > (0 : Int))) (sh_heap_Heap_Pop p5 (fun x47 x48 t49 w50 =>
  (sh_heap_Heap_Pop p7 (fun x51 x52 t53 w54 =>
  (cond (x47 != x51) (K false w54) (cond (x48 != x52) (K false w54) (cond (!(t49 == t53)) (K false w54) (cond (!t49) (K false w54) (again42 () w54)))))) w50)) w46) (J41 () w46))) w44)) () w40))
  (fun t55 w56 =>
  (sh_heap_Heap_Len p5 (fun x57 w58 =>
  (cond (x57 == (0 : Int)) (sh_postroadlaw03_known  (fun t59 w60 =>
  (K t59 w60)) w58) (K false w58))) w56))))) w38))) w36))) w34))))) w16)))) w6)) w)))

def fn_postroadlaw03_HeapTwo : FuncId := 13
/-- postroad/postroadlaw03.HeapTwo -/
def sh_postroadlaw03_HeapTwo (a0 : SV) (b0 : SV) (K : Bool → World → Prop) (w : World) : Prop :=
  (cond (decide ((a0.len : Int) > (40 : Int))) (sh_postroadlaw03_known  (fun t1 w2 =>
  (K t1 w2)) w) (cond (decide ((b0.len : Int) > (40 : Int))) (sh_postroadlaw03_known  (fun t3 w4 =>
  (K t3 w4)) w) (sh_heap_New (9 : Int) (fun p5 w6 =>
  (sh_heap_New (9 : Int) (fun p7 w8 =>
  (sh_heap_New (9 : Int) (fun p9 w10 =>
  (Join (Unit) (fun J11 =>
  (LoopT (Int × Unit) (fun t13 again12 w14 =>
  (Join (Unit) (fun J15 =>
  (cond (decide (t13.1 < (a0.len : Int))) (J15 () w14) (cond (decide (t13.1 < (b0.len : Int))) (J15 () w14) (J11 () w14))))
  (fun t16 w17 =>
  (Join (Unit) (fun J18 =>
  (Join (Unit) (fun J19 =>
  (cond (decide (t13.1 < (b0.len : Int))) (Idx b0.a b0.len t13.1 3 (fun a20 =>
  (∃ x21 : Int, w17.cell? (a20.add 0) = some (.int .i64 x21) ∧ ∃ x22 : Int, w17.cell? (a20.add 1) = some (.int .i64 x22) ∧ ∃ x23 : Int, w17.cell? (a20.add 2) = some (.int .i64 x23) ∧
  (sh_postroadlaw03_did p9 x21 x22 x23 (fun x24 x25 t26 w27 =>
  (J19 () w27)) w17)))) (J19 () w17)))
  (fun t28 w29 =>
  (cond (decide (t13.1 ≥ (a0.len : Int))) (J18 () w29) (Idx a0.a a0.len t13.1 3 (fun a30 =>
  (∃ x31 : Int, w29.cell? (a30.add 0) = some (.int .i64 x31) ∧ ∃ x32 : Int, w29.cell? (a30.add 1) = some (.int .i64 x32) ∧ ∃ x33 : Int, w29.cell? (a30.add 2) = some (.int .i64 x33) ∧
  (sh_postroadlaw03_did p5 x31 x32 x33 (fun x34 x35 t36 w37 =>
  (Idx a0.a a0.len t13.1 3 (fun a38 =>
  (∃ x39 : Int, w37.cell? (a38.add 0) = some (.int .i64 x39) ∧ ∃ x40 : Int, w37.cell? (a38.add 1) = some (.int .i64 x40) ∧ ∃ x41 : Int, w37.cell? (a38.add 2) = some (.int .i64 x41) ∧
  (sh_postroadlaw03_did p7 x39 x40 x41 (fun x42 x43 t44 w45 =>
  (cond (x34 != x42) (K false w45) (cond (x35 != x43) (K false w45) (cond (!(t36 == t44)) (K false w45) (sh_heap_Heap_Len p5 (fun x46 w47 =>
  (sh_heap_Heap_Len p7 (fun x48 w49 =>
  (cond (x46 != x48) (K false w49) (J18 () w49))) w47)) w45))))) w37))))) w29))))))))
  (fun t50 w51 =>
  (again12 ((IntKind.i64.wrap (t13.1 + (1 : Int))), ()) w51)))))) ((0 : Int), ()) w10))
  (fun t52 w53 =>
  (sh_postroadlaw03_known  (fun t54 w55 =>
  (K t54 w55)) w53)))) w8)) w6)) w)))

def fn_postroadlaw03_HeapPops : FuncId := 14
/-- postroad/postroadlaw03.HeapPops -/
def sh_postroadlaw03_HeapPops (l0 : SV) (K : Bool → World → Prop) (w : World) : Prop :=
  (cond (decide ((l0.len : Int) > (60 : Int))) (sh_postroadlaw03_known  (fun t1 w2 =>
  (K t1 w2)) w) (sh_heap_New (9 : Int) (fun p3 w4 =>
  (Join (Unit) (fun J5 =>
  (LoopT (Int × Unit) (fun t7 again6 w8 =>
  (cond (decide (t7.1 < (l0.len : Int))) (Idx l0.a l0.len t7.1 3 (fun a9 =>
  (∃ x10 : Int, w8.cell? (a9.add 0) = some (.int .i64 x10) ∧ ∃ x11 : Int, w8.cell? (a9.add 1) = some (.int .i64 x11) ∧ ∃ x12 : Int, w8.cell? (a9.add 2) = some (.int .i64 x12) ∧
  (sh_postroadlaw03_did p3 x10 x11 x12 (fun x13 x14 t15 w16 =>
  (again6 ((IntKind.i64.wrap (t7.1 + (1 : Int))), ()) w16)) w8)))) (J5 () w8))) ((0 : Int), ()) w4))
  (fun t17 w18 =>
  (Join (Unit) (fun J19 =>
  (LoopT (Unit) (fun t21 again20 w22 =>
  (sh_heap_Heap_Len p3 (fun x23 w24 =>
  (cond (decide (x23 > (0 : Int))) (sh_heap_Heap_Len p3 (fun x25 w26 =>
  (sh_heap_Heap_First p3 (fun x27 x28 t29 w30 =>
  (sh_heap_Heap_Pop p3 (fun x31 x32 t33 w34 =>
  (sh_heap_Heap_Key p3 x31 (fun x35 t36 w37 =>
  (cond (x27 != x31) (K false w37) (cond (x28 != x32) (K false w37) (cond (!t29) (K false w37) (cond (!t33) (K false w37) (cond t36 (K false w37) (sh_heap_Heap_Len p3 (fun x38 w39 =>
  (cond (x38 != (IntKind.i64.wrap (x25 - (1 : Int)))) (K false w39) (again20 () w39))) w37))))))) w34)) w30)) w26)) w24) (J19 () w24))) w22)) () w18))
  (fun t40 w41 =>
  (sh_heap_Heap_Pop p3 (fun x42 x43 t44 w45 =>
  (cond (x42 == (0 : Int)) (cond (x43 == (0 : Int)) (cond (!t44) (sh_postroadlaw03_known  (fun t46 w47 =>
  (K t46 w47)) w45) (K false w45)) (K false w45)) (K false w45))) w41)))))) w))
end Go.Sh
