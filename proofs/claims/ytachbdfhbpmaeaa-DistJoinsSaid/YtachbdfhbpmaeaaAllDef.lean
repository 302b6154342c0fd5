/- Shallow definitions, printed by gen.py of these sessions. -/
import Derived.Test.YtachbdfhbpmaeaaPrim
set_option maxRecDepth 100000
set_option linter.unusedVariables false
namespace Go.Sh
def fn_postroadref06_part : FuncId := 47
/-- postroad/postroadref06.part -/
def sh_postroadref06_part (x0 : Int) (n0 : Int) (K : Int → World → Prop) (w : World) : Prop :=
  (if n0 = 0 then False else (cond (decide ((x0.tmod n0) < (0 : Int))) (K (IntKind.i64.wrap ((x0.tmod n0) + n0)) w) (K (x0.tmod n0) w)))

def fn_postroadref06_Of : FuncId := 31
/-- postroad/postroadref06.Of -/
def sh_postroadref06_Of (n0 : Int) (arcs0 : SV) (K : Int → SV → World → Prop) (w : World) : Prop :=
  (∀ b1 w2, Ext w w2 → w.heap.size ≤ b1 → b1 < w2.heap.size →
  (∀ b3 w4, Ext w2 w4 → w2.heap.size ≤ b3 → b3 < w4.heap.size →
  (∀ w5, Off b3 w4 w5 →
  (Join ((Int × SV × Unit) × Unit) (fun J6 =>
  (LoopT (Int × (Int × SV × Unit) × Unit) (fun t8 again7 w9 =>
  (cond (decide (t8.1 < (arcs0.len : Int))) (cond (decide (t8.1 < (40 : Int))) (Idx arcs0.a arcs0.len t8.1 3 (fun a10 =>
  (∃ x11 : Int, w9.cell? (a10.add 0) = some (.int .i64 x11) ∧ ∃ x12 : Int, w9.cell? (a10.add 1) = some (.int .i64 x12) ∧ ∃ x13 : Int, w9.cell? (a10.add 2) = some (.int .i64 x13) ∧
  (∀ b14 w15, Ext w9 w15 → w9.heap.size ≤ b14 → b14 < w15.heap.size →
  (∀ w16, Off b14 w15 w16 →
  (Quiet (Int) (fun r18 =>
  (.int .i64 r18)) (fun K19 w20' => sh_postroadref06_part x11 (if (if (12 : Int) < n0 then (12 : Int) else n0) > (1 : Int) then (if (12 : Int) < n0 then (12 : Int) else n0) else (1 : Int)) (fun x17 w20 => K19 x17 w20) w20') w16 (fun r18 =>
  (Quiet (Int) (fun r22 =>
  (.int .i64 r22)) (fun K23 w24' => sh_postroadref06_part x12 (if (if (12 : Int) < n0 then (12 : Int) else n0) > (1 : Int) then (if (12 : Int) < n0 then (12 : Int) else n0) else (1 : Int)) (fun x21 w24 => K23 x21 w24) w24') w16 (fun r22 =>
  (Quiet (Int) (fun r26 =>
  (.int .i64 r26)) (fun K27 w28' => sh_postroadref06_part x13 (2147483649 : Int) (fun x25 w28 => K27 x25 w28) w28') w16 (fun r26 =>
  (∀ w29, Ext w16 w29 →
  (NewB [(.int .i64 r18), (.int .i64 r22), (.int .i64 r26)] w29 (fun b30 w31 =>
  (∀ w32, Ext w31 w32 →
  (App 24 [(.int .i64 (0 : Int)), (.int .i64 (0 : Int)), (.int .i64 (0 : Int))] t8.2.1.2.1 ⟨(some ⟨b30, 0, none⟩), 1, 1⟩ w32 (fun s33 w34 =>
  (Keeps [b14, b3, b1] w32 w34 ∧
  (∀ w35, Ext w34 w35 →
  (∀ w36, Off b3 w35 w36 →
  (∀ w37, Ext w36 w37 →
  (again7 ((IntKind.i64.wrap (t8.1 + (1 : Int))), (t8.2.1.1, s33, ()), ()) w37)))))))))))))))))))))) (J6 ((t8.2.1.1, t8.2.1.2.1, ()), ()) w9)) (J6 ((t8.2.1.1, t8.2.1.2.1, ()), ()) w9))) ((0 : Int), ((if (if (12 : Int) < n0 then (12 : Int) else n0) > (1 : Int) then (if (12 : Int) < n0 then (12 : Int) else n0) else (1 : Int)), ⟨none, 0, 0⟩, ()), ()) w5))
  (fun t38 w39 =>
  (∀ w40, Off b1 w39 w40 →
  (K t38.1.1 t38.1.2.1 w40)))))))

def fn_postroadref07_Of : FuncId := 10
/-- postroad/postroadref07.Of -/
def sh_postroadref07_Of (n0 : Int) (arcs0 : SV) (K : Int → SV → World → Prop) (w : World) : Prop :=
  (∀ b1 w2, Ext w w2 → w.heap.size ≤ b1 → b1 < w2.heap.size → (sh_postroadref06_Of n0 arcs0 (fun x3 s4 w5 => (Keeps [b1] w2 w5 ∧ (∀ w6, Off b1 w5 w6 → (K x3 s4 w6)))) w2))

def fn_gr_Check : FuncId := 32
/-- postroad/gr.Check -/
def sh_gr_Check (m0_N : Int) (m0_Arcs : SV) (K : Int → World → Prop) (w : World) : Prop :=
  (∀ b1 w2, Ext w w2 → w.heap.size ≤ b1 → b1 < w2.heap.size →
  (cond (decide (m0_N > (16777216 : Int))) (K (3 : Int) w2) (cond (decide ((m0_Arcs.len : Int) > (67108864 : Int))) (K (3 : Int) w2) (cond (decide (m0_N < (0 : Int))) (K (2 : Int) w2) (LoopT (Int × Unit) (fun t4 again3 w5 =>
  (cond (decide (t4.1 < (m0_Arcs.len : Int))) (Idx m0_Arcs.a m0_Arcs.len t4.1 3 (fun a6 =>
  (∃ x7 : Int, w5.cell? (a6.add 0) = some (.int .i64 x7) ∧ ∃ x8 : Int, w5.cell? (a6.add 1) = some (.int .i64 x8) ∧ ∃ x9 : Int, w5.cell? (a6.add 2) = some (.int .i64 x9) ∧
  (∀ b10 w11, Ext w5 w11 → w5.heap.size ≤ b10 → b10 < w11.heap.size →
  (∀ w12, Off b10 w11 w12 →
  (cond (decide ((if x9 < (if x8 < x7 then x8 else x7) then x9 else (if x8 < x7 then x8 else x7)) < (0 : Int))) (K (2 : Int) w12) (cond (decide ((if x8 > x7 then x8 else x7) ≥ m0_N)) (K (2 : Int) w12) (cond (decide (x9 > (2147483648 : Int))) (K (2 : Int) w12) (again3 ((IntKind.i64.wrap (t4.1 + (1 : Int))), ()) w12))))))))) (K (0 : Int) w5))) ((0 : Int), ()) w2)))))

def fn_graph_New_c1 : FuncId := 33
/-- postroad/graph.New$1 -/
def sh_graph_New_c1 (k0 : Int) (free1 : Addr) (K : Int → World → Prop) (w : World) : Prop :=
  (∃ s1 : SV, w.cell? (free1.add 1) = some (.slice s1.a s1.len s1.cap) ∧ (Idx s1.a s1.len k0 3 (fun a2 => (∃ x3 : Int, w.cell? (a2.add 0) = some (.int .i64 x3) ∧ (K x3 w)))))

def fn_graph_New_c2 : FuncId := 34
/-- postroad/graph.New$2 -/
def sh_graph_New_c2 (k0 : Int) (free1 : Addr) (K : Int → World → Prop) (w : World) : Prop :=
  (∃ s1 : SV, w.cell? (free1.add 1) = some (.slice s1.a s1.len s1.cap) ∧ (Idx s1.a s1.len k0 3 (fun a2 => (∃ x3 : Int, w.cell? (a2.add 1) = some (.int .i64 x3) ∧ (K x3 w)))))

def fn_graph_numbers_Arc_c1 : FuncId := 48
/-- postroad/graph.numbers[postroad/api.Arc]$1 -/
def sh_graph_numbers_Arc_c1 (CV : CVT) (Y0 : Int → (Bool → World → Prop) → World → Prop) (free1 : Addr) (free2 : Addr) (K : World → Prop) (w : World) : Prop :=
  (∃ s1 : SV, w.cell? free1 = some (.slice s1.a s1.len s1.cap) ∧
  (LoopT (Int × Unit) (fun t3 again2 w4 =>
  (cond (decide (t3.1 < (s1.len : Int))) (Idx s1.a s1.len t3.1 3 (fun a5 =>
  (∃ x6 : Int, w4.cell? (a5.add 0) = some (.int .i64 x6) ∧ ∃ x7 : Int, w4.cell? (a5.add 1) = some (.int .i64 x7) ∧ ∃ x8 : Int, w4.cell? (a5.add 2) = some (.int .i64 x8) ∧
  (∀ b9 w10, Ext w4 w10 → w4.heap.size ≤ b9 → b9 < w10.heap.size →
  (∀ w11, Off b9 w10 w11 →
  (∃ x12 : Value, w11.cell? free2 = some x12 ∧
  (CV x12 [(.int .i64 t3.1), (.agg #[(.int .i64 x6), (.int .i64 x7), (.int .i64 x8)])] (fun r14 w15 => ∃ t13 : Bool, r14 = (.bool t13) ∧
  (Keeps [b9] w11 w15 ∧
  (cond t13 (Y0 t3.1 (fun t16 w17 =>
  (Keeps [b9] w15 w17 ∧
  (cond (!t16) (K w17) (again2 ((IntKind.i64.wrap (t3.1 + (1 : Int))), ()) w17)))) w15) (again2 ((IntKind.i64.wrap (t3.1 + (1 : Int))), ()) w15)))) w11))))))) (K w4))) ((0 : Int), ()) w))

def fn_graph_numbers_Arc : FuncId := 35

def fn_graph_New_c3 : FuncId := 36
/-- postroad/graph.New$3 -/
def sh_graph_New_c3 (arg0_0 : Int) (a0_From : Int) (a0_To : Int) (a0_W : Int) (K : Bool → World → Prop) (w : World) : Prop :=
  (∀ b1 w2, Ext w w2 → w.heap.size ≤ b1 → b1 < w2.heap.size → (K (a0_From != a0_To) w2))

def fn_graph_sorted : FuncId := 37
/-- postroad/graph.sorted -/
def sh_graph_sorted (CV : CVT) (n0 : Int) (l0 : SV) (end_0 : Value) (K : SV → World → Prop) (w : World) : Prop :=
  (MkS 8 [(.int .i64 (0 : Int))] (IntKind.i64.wrap (n0 + (1 : Int))) (IntKind.i64.wrap (n0 + (1 : Int))) w (fun s1 w2 =>
  (Join (Unit) (fun J3 =>
  (LoopT (Int × Unit) (fun t5 again4 w6 =>
  (cond (decide (t5.1 < (l0.len : Int))) (Idx l0.a l0.len t5.1 1 (fun a7 =>
  (∃ x8 : Int, w6.cell? a7 = some (.int .i64 x8) ∧
  (CV end_0 [(.int .i64 x8)] (fun r10 w11 => ∃ x9 : Int, r10 = (.int .i64 x9) ∧
  (Idx s1.a s1.len (IntKind.i64.wrap (x9 + (1 : Int))) 1 (fun a12 =>
  (∃ x13 : Int, w11.cell? a12 = some (.int .i64 x13) ∧
  (Idx s1.a s1.len (IntKind.i64.wrap (x9 + (1 : Int))) 1 (fun a14 =>
  (stL w11 a14 [(.int .i64 (IntKind.i64.wrap (x13 + (1 : Int))))] 0 (fun w15 =>
  (again4 ((IntKind.i64.wrap (t5.1 + (1 : Int))), ()) w15))))))))) w6)))) (J3 () w6))) ((0 : Int), ()) w2))
  (fun t16 w17 =>
  (Join (Unit) (fun J18 =>
  (LoopT (Int × Unit) (fun t20 again19 w21 =>
  (cond (decide (t20.1 < n0)) (Idx s1.a s1.len (IntKind.i64.wrap (t20.1 + (1 : Int))) 1 (fun a22 =>
  (∃ x23 : Int, w21.cell? a22 = some (.int .i64 x23) ∧
  (Idx s1.a s1.len t20.1 1 (fun a24 =>
  (∃ x25 : Int, w21.cell? a24 = some (.int .i64 x25) ∧
  (Idx s1.a s1.len (IntKind.i64.wrap (t20.1 + (1 : Int))) 1 (fun a26 =>
  (∀ w27, Ext w21 w27 →
  (stL w27 a26 [(.int .i64 (IntKind.i64.wrap (x23 + x25)))] 0 (fun w28 =>
  (∀ w29, Ext w28 w29 →
  (again19 ((IntKind.i64.wrap (t20.1 + (1 : Int))), ()) w29))))))))))))) (J18 () w21))) ((0 : Int), ()) w17))
  (fun t30 w31 =>
  (MkS 8 [(.int .i64 (0 : Int))] (l0.len : Int) (l0.len : Int) w31 (fun s32 w33 =>
  (LoopT (Int × Unit) (fun t35 again34 w36 =>
  (cond (decide (t35.1 < (l0.len : Int))) (Idx l0.a l0.len t35.1 1 (fun a37 =>
  (∃ x38 : Int, w36.cell? a37 = some (.int .i64 x38) ∧
  (CV end_0 [(.int .i64 x38)] (fun r40 w41 => ∃ x39 : Int, r40 = (.int .i64 x39) ∧
  (Idx s1.a s1.len x39 1 (fun a42 =>
  (∃ x43 : Int, w41.cell? a42 = some (.int .i64 x43) ∧
  (Idx s32.a s32.len x43 1 (fun a44 =>
  (stL w41 a44 [(.int .i64 x38)] 0 (fun w45 =>
  (CV end_0 [(.int .i64 x38)] (fun r47 w48 => ∃ x46 : Int, r47 = (.int .i64 x46) ∧
  (Idx s1.a s1.len x46 1 (fun a49 =>
  (∃ x50 : Int, w48.cell? a49 = some (.int .i64 x50) ∧
  (Idx s1.a s1.len x46 1 (fun a51 =>
  (stL w48 a51 [(.int .i64 (IntKind.i64.wrap (x50 + (1 : Int))))] 0 (fun w52 =>
  (again34 ((IntKind.i64.wrap (t35.1 + (1 : Int))), ()) w52))))))))) w45))))))))) w36)))) (K s32 w36))) ((0 : Int), ()) w33)))))))))

def fn_graph_better : FuncId := 38
/-- postroad/graph.better -/
def sh_graph_better (m0_N : Int) (m0_Arcs : SV) (a0 : Int) (b0 : Int) (K : Bool → World → Prop) (w : World) : Prop :=
  (∀ b1 w2, Ext w w2 → w.heap.size ≤ b1 → b1 < w2.heap.size →
  (Idx m0_Arcs.a m0_Arcs.len a0 3 (fun a3 =>
  (∃ x4 : Int, w2.cell? (a3.add 2) = some (.int .i64 x4) ∧
  (Idx m0_Arcs.a m0_Arcs.len b0 3 (fun a5 =>
  (∃ x6 : Int, w2.cell? (a5.add 2) = some (.int .i64 x6) ∧
  (∀ w7, Ext w2 w7 →
  (K (decide (x4 < x6)) w7)))))))))

def fn_graph_numbers_bool_c1 : FuncId := 55
/-- postroad/graph.numbers[bool]$1 -/
def sh_graph_numbers_bool_c1 (CV : CVT) (Y0 : Int → (Bool → World → Prop) → World → Prop) (free1 : Addr) (free2 : Addr) (K : World → Prop) (w : World) : Prop :=
  (∃ s1 : SV, w.cell? free1 = some (.slice s1.a s1.len s1.cap) ∧
  (LoopT (Int × Unit) (fun t3 again2 w4 =>
  (cond (decide (t3.1 < (s1.len : Int))) (Idx s1.a s1.len t3.1 1 (fun a5 =>
  (∃ t6 : Bool, w4.cell? a5 = some (.bool t6) ∧
  (∃ x7 : Value, w4.cell? free2 = some x7 ∧
  (CV x7 [(.int .i64 t3.1), (.bool t6)] (fun r9 w10 => ∃ t8 : Bool, r9 = (.bool t8) ∧
  (cond t8 (Y0 t3.1 (fun t11 w12 =>
  (cond (!t11) (K w12) (again2 ((IntKind.i64.wrap (t3.1 + (1 : Int))), ()) w12))) w10) (again2 ((IntKind.i64.wrap (t3.1 + (1 : Int))), ()) w10))) w4))))) (K w4))) ((0 : Int), ()) w))

def fn_graph_numbers_bool : FuncId := 49

def fn_graph_Graph_Kept_c1 : FuncId := 50
/-- (*postroad/graph.Graph).Kept$1 -/
def sh_graph_Graph_Kept_c1 (arg0_0 : Int) (is0 : Bool) (K : Bool → World → Prop) (w : World) : Prop :=
  (K is0 w)

def fn_graph_Graph_Kept : FuncId := 39
/-- (*postroad/graph.Graph).Kept -/
def sh_graph_Graph_Kept (CV : CVT) (g0 : Option Addr) (K : SV → World → Prop) (w : World) : Prop :=
  (∀ b1 w2, Ext w w2 → w.heap.size ≤ b1 → b1 < w2.heap.size →
  (cond g0.isNone (K ⟨none, 0, 0⟩ w2) (Nn g0 (fun a3 =>
  (∃ s4 : SV, w2.cell? (a3.add 6) = some (.slice s4.a s4.len s4.cap) ∧
  (∀ b1005 w1006, Ext w2 w1006 → w2.heap.size ≤ b1005 → b1005 < w1006.heap.size →
  (∀ b1007 w1008, Ext w1006 w1008 → w1006.heap.size ≤ b1007 → b1007 < w1008.heap.size →
  (Blk w1008 b1005 [(.slice s4.a s4.len s4.cap)] →
  (Blk w1008 b1007 [(Value.func (.func fn_graph_Graph_Kept_c1) #[] #[])] →
  (Keeps [b1] w2 w1008 ∧
  (Blk w1008 b1 [(.slice none 0 0)] →
  (∀ D1009 l1010 w1011, Ext w1008 w1011 → w1008.heap.size ≤ D1009 → D1009 < l1010 → l1010 < w1011.heap.size →
  (sh_graph_numbers_bool_c1 CV (fun x1012 K1014 w1013 =>
  (w1013.heap[l1010]? = w1011.heap[l1010]? ∧
  (∀ w1015, Off l1010 w1013 w1015 →
  (∃ s1016 : SV, w1015.cell? (⟨b1, 0, none⟩ : Addr) = some (.slice s1016.a s1016.len s1016.cap) ∧
  (NewB [(.int .i64 x1012)] w1015 (fun b1017 w1018 =>
  (App 8 [(.int .i64 (0 : Int))] s1016 ⟨(some ⟨b1017, 0, none⟩), 1, 1⟩ w1018 (fun s1019 w1020 =>
  (Keeps [l1010] w1018 w1020 ∧
  (stL w1020 (⟨b1, 0, none⟩ : Addr) [(.slice s1019.a s1019.len s1019.cap)] 0 (fun w1021 =>
  (Keeps [l1010] w1020 w1021 ∧
  (∀ w1022, Off l1010 w1021 w1022 →
  (w1022.heap[l1010]? = w1011.heap[l1010]? → K1014 true w1022)))))))))))))) ⟨b1005, 0, none⟩ ⟨b1007, 0, none⟩ (fun w1023 =>
  (Keeps [D1009] w1011 w1023 ∧
  ((w1023.heap[l1010]? = w1011.heap[l1010]? ∧
  (∀ w1024, Off l1010 w1023 w1024 →
  (∃ s1025 : SV, w1024.cell? (⟨b1, 0, none⟩ : Addr) = some (.slice s1025.a s1025.len s1025.cap) ∧
  (∀ w1026, Off D1009 w1024 w1026 →
  (K s1025 w1026))))) ∨ False))) w1011)))))))))))))

def fn_graph_lay : FuncId := 40
/-- postroad/graph.lay -/
def sh_graph_lay (CV : CVT) (m0_N : Int) (m0_Arcs : SV) (l0 : SV) (from_0 : Value) (to_0 : Value) (K : SV → SV → World → Prop) (w : World) : Prop :=
  (∀ b1 w2, Ext w w2 → w.heap.size ≤ b1 → b1 < w2.heap.size →
  (∀ b3 w4, Ext w2 w4 → w2.heap.size ≤ b3 → b3 < w4.heap.size →
  (MkS 8 [(.int .i64 (0 : Int))] (IntKind.i64.wrap (m0_N + (1 : Int))) (IntKind.i64.wrap (m0_N + (1 : Int))) w4 (fun s5 w6 =>
  (∀ b7 w8, Ext w6 w8 → w6.heap.size ≤ b7 → b7 < w8.heap.size →
  (∀ w9, Off b7 w8 w9 →
  (Join ((SV × SV × Unit) × Unit) (fun J10 =>
  (∀ w12, Ext w9 w12 →
  (sh_graph_sorted CV m0_N l0 to_0 (fun s11 w13 =>
  (Keeps [b7, b3, b1] w12 w13 ∧
  (∀ w15, Ext w13 w15 →
  (sh_graph_sorted CV m0_N s11 from_0 (fun s14 w16 =>
  (Keeps [b7, b3, b1] w15 w16 ∧
  (∀ w17, Ext w16 w17 →
  (LoopT (Int × (SV × SV × Unit) × Unit) (fun t19 again18 w20 =>
  (cond (decide (t19.1 < (s14.len : Int))) (Idx s14.a s14.len t19.1 1 (fun a21 =>
  (∃ x22 : Int, w20.cell? a21 = some (.int .i64 x22) ∧
  (Idx m0_Arcs.a m0_Arcs.len x22 3 (fun a23 =>
  (∃ x24 : Int, w20.cell? (a23.add 2) = some (.int .i64 x24) ∧
  (∀ w28, Ext w20 w28 →
  (CV to_0 [(.int .i64 x22)] (fun r27 w29 => ∃ x26 : Int, r27 = (.int .i64 x26) ∧
  (Keeps [b7, b3, b1] w28 w29 ∧
  ((∃ y25 : Int, w29.cell? (a23.add 2) = some (.int .i64 y25) ∧
  ((.int .i64 y25) : Value) = (.int .i64 x24)) ∧
  (∀ w30, Ext w29 w30 →
  (NewB [(.int .i64 x26), (.int .i64 x24), (.int .i64 x22)] w30 (fun b31 w32 =>
  (∀ w33, Ext w32 w33 →
  (App 24 [(.int .i64 (0 : Int)), (.int .i64 (0 : Int)), (.int .i64 (0 : Int))] t19.2.1.2.1 ⟨(some ⟨b31, 0, none⟩), 1, 1⟩ w33 (fun s34 w35 =>
  (Keeps [b7, b3, b1] w33 w35 ∧
  (∀ w36, Ext w35 w36 →
  (∀ w37, Off b7 w36 w37 →
  (∀ w38, Ext w37 w38 →
  (∀ w41, Ext w38 w41 →
  (CV from_0 [(.int .i64 x22)] (fun r40 w42 => ∃ x39 : Int, r40 = (.int .i64 x39) ∧
  (Keeps [b7, b3, b1] w41 w42 ∧
  (Idx t19.2.1.1.a t19.2.1.1.len (IntKind.i64.wrap (x39 + (1 : Int))) 1 (fun a43 =>
  (∃ x44 : Int, w42.cell? a43 = some (.int .i64 x44) ∧
  (Idx t19.2.1.1.a t19.2.1.1.len (IntKind.i64.wrap (x39 + (1 : Int))) 1 (fun a45 =>
  (∀ w46, Ext w42 w46 →
  (stL w46 a45 [(.int .i64 (IntKind.i64.wrap (x44 + (1 : Int))))] 0 (fun w47 =>
  (Keeps [b7, b3, b1] w46 w47 ∧
  (∀ w48, Ext w47 w48 →
  (again18 ((IntKind.i64.wrap (t19.1 + (1 : Int))), (t19.2.1.1, s34, ()), ()) w48))))))))))))) w41))))))))))))))) w28)))))))) (J10 ((t19.2.1.1, t19.2.1.2.1, ()), ()) w20))) ((0 : Int), (s5, ⟨none, 0, 0⟩, ()), ()) w17)))) w15)))) w12)))
  (fun t49 w50 =>
  (Join (Unit) (fun J51 =>
  (LoopT (Int × Unit) (fun t53 again52 w54 =>
  (cond (decide (t53.1 < m0_N)) (Idx t49.1.1.a t49.1.1.len (IntKind.i64.wrap (t53.1 + (1 : Int))) 1 (fun a55 =>
  (∃ x56 : Int, w54.cell? a55 = some (.int .i64 x56) ∧
  (Idx t49.1.1.a t49.1.1.len t53.1 1 (fun a57 =>
  (∃ x58 : Int, w54.cell? a57 = some (.int .i64 x58) ∧
  (Idx t49.1.1.a t49.1.1.len (IntKind.i64.wrap (t53.1 + (1 : Int))) 1 (fun a59 =>
  (∀ w60, Ext w54 w60 →
  (stL w60 a59 [(.int .i64 (IntKind.i64.wrap (x56 + x58)))] 0 (fun w61 =>
  (Keeps [b7, b3, b1] w60 w61 ∧
  (∀ w62, Ext w61 w62 →
  (again52 ((IntKind.i64.wrap (t53.1 + (1 : Int))), ()) w62)))))))))))))) (J51 () w54))) ((0 : Int), ()) w50))
  (fun t63 w64 =>
  (∀ w65, Off b3 w64 w65 →
  (K t49.1.1 t49.1.2.1 w65))))))))))))

def fn_graph_New : FuncId := 11
/-- postroad/graph.New -/
def sh_graph_New (CV : CVT) (m0_N : Int) (m0_Arcs : SV) (K : Option Addr → World → Prop) (w : World) : Prop :=
  (∀ b1 w2, Ext w w2 → w.heap.size ≤ b1 → b1 < w2.heap.size →
  (sh_gr_Check m0_N m0_Arcs (fun x3 w4 =>
  (Keeps [b1] w2 w4 ∧
  (cond (x3 != (0 : Int)) (K none w4) (App 24 [(.int .i64 (0 : Int)), (.int .i64 (0 : Int)), (.int .i64 (0 : Int))] ⟨none, 0, 0⟩ m0_Arcs w4 (fun s5 w6 =>
  (Keeps [b1] w4 w6 ∧
  (∀ w7, Off b1 w6 w7 →
  (∀ w8, Ext w7 w8 →
  (MkS 1 [(.bool false)] (s5.len : Int) (s5.len : Int) w8 (fun s9 w10 =>
  (∀ b11 w12, Ext w10 w12 → w10.heap.size ≤ b11 → b11 < w12.heap.size →
  (∀ w13, Ext w12 w13 →
  (Blk w13 b1 [(.int .i64 m0_N), (.slice s5.a s5.len s5.cap)] →
  (∀ b14 w15, Ext w13 w15 → w13.heap.size ≤ b14 → b14 < w15.heap.size →
  (∃ s16 : SV, w15.cell? (⟨b1, 1, none⟩ : Addr) = some (.slice s16.a s16.len s16.cap) ∧
  (∀ b1017 w1018, Ext w15 w1018 → w15.heap.size ≤ b1017 → b1017 < w1018.heap.size →
  (∀ b1019 w1020, Ext w1018 w1020 → w1018.heap.size ≤ b1019 → b1019 < w1020.heap.size →
  (Blk w1020 b1017 [(.slice s16.a s16.len s16.cap)] →
  (Blk w1020 b1019 [(Value.func (.func fn_graph_New_c3) #[] #[])] →
  (Keeps [b14, b11] w15 w1020 ∧
  (Blk w1020 b11 [(.int .i64 m0_N), (.slice s5.a s5.len s5.cap), (.slice none 0 0), (.slice none 0 0), (.slice none 0 0), (.slice none 0 0), (.slice s9.a s9.len s9.cap)] →
  (Blk w1020 b14 [(.slice none 0 0)] →
  (∀ D1021 l1022 w1023, Ext w1020 w1023 → w1020.heap.size ≤ D1021 → D1021 < l1022 → l1022 < w1023.heap.size →
  (sh_graph_numbers_Arc_c1 CV (fun x1024 K1026 w1025 =>
  (w1025.heap[l1022]? = w1023.heap[l1022]? ∧
  (∀ w1027, Off l1022 w1025 w1027 →
  (∃ s1028 : SV, w1027.cell? (⟨b14, 0, none⟩ : Addr) = some (.slice s1028.a s1028.len s1028.cap) ∧
  (NewB [(.int .i64 x1024)] w1027 (fun b1029 w1030 =>
  (App 8 [(.int .i64 (0 : Int))] s1028 ⟨(some ⟨b1029, 0, none⟩), 1, 1⟩ w1030 (fun s1031 w1032 =>
  (Keeps [l1022] w1030 w1032 ∧
  (stL w1032 (⟨b14, 0, none⟩ : Addr) [(.slice s1031.a s1031.len s1031.cap)] 0 (fun w1033 =>
  (Keeps [l1022] w1032 w1033 ∧
  (∀ w1034, Off l1022 w1033 w1034 →
  (w1034.heap[l1022]? = w1023.heap[l1022]? → K1026 true w1034)))))))))))))) ⟨b1017, 0, none⟩ ⟨b1019, 0, none⟩ (fun w1035 =>
  (Keeps [D1021] w1023 w1035 ∧
  ((w1035.heap[l1022]? = w1023.heap[l1022]? ∧
  (∀ w1036, Off l1022 w1035 w1036 →
  (Join (Unit) (fun J1037 =>
  (∃ x1038 : Int, w1036.cell? ((⟨b1, 0, none⟩ : Addr).add 0) = some (.int .i64 x1038) ∧
  (∃ x1040 : Int, w1036.cell? ((⟨b1, 0, none⟩ : Addr).add 0) = some (.int .i64 x1040) ∧
  (∃ s1041 : SV, w1036.cell? (⟨b14, 0, none⟩ : Addr) = some (.slice s1041.a s1041.len s1041.cap) ∧
  (∀ w1043, Ext w1036 w1043 →
  (sh_graph_sorted CV x1040 s1041 (Value.func (.func fn_graph_New_c2) #[] #[(.pointer (some ⟨b1, 0, none⟩))]) (fun s1042 w1044 =>
  (Keeps [D1021] w1043 w1044 ∧
  ((∃ y1039 : Int, w1044.cell? ((⟨b1, 0, none⟩ : Addr).add 0) = some (.int .i64 y1039) ∧
  ((.int .i64 y1039) : Value) = (.int .i64 x1038)) ∧
  (∀ w1046, Ext w1044 w1046 →
  (sh_graph_sorted CV x1038 s1042 (Value.func (.func fn_graph_New_c1) #[] #[(.pointer (some ⟨b1, 0, none⟩))]) (fun s1045 w1047 =>
  (Keeps [D1021] w1046 w1047 ∧
  (∀ w1048, Ext w1047 w1048 →
  (LoopT (Int × Int × Unit) (fun t1050 again1049 w1051 =>
  (cond (decide (t1050.2.1 < (s1045.len : Int))) (Idx s1045.a s1045.len t1050.2.1 1 (fun a1052 =>
  (∃ x1053 : Int, w1051.cell? a1052 = some (.int .i64 x1053) ∧
  (Join (Unit) (fun J1054 =>
  (cond (decide (t1050.1 ≥ (0 : Int))) (sh_graph_New_c1 t1050.1 ⟨b1, 0, none⟩ (fun x1055 w1056 =>
  (Keeps [D1021] w1051 w1056 ∧
  (sh_graph_New_c1 x1053 ⟨b1, 0, none⟩ (fun x1057 w1058 =>
  (Keeps [D1021] w1056 w1058 ∧
  (cond (x1055 == x1057) (sh_graph_New_c2 t1050.1 ⟨b1, 0, none⟩ (fun x1059 w1060 =>
  (Keeps [D1021] w1058 w1060 ∧
  (sh_graph_New_c2 x1053 ⟨b1, 0, none⟩ (fun x1061 w1062 =>
  (Keeps [D1021] w1060 w1062 ∧
  (cond (x1059 == x1061) (∃ x1063 : Int, w1062.cell? ((⟨b1, 0, none⟩ : Addr).add 0) = some (.int .i64 x1063) ∧ ∃ s1064 : SV, w1062.cell? ((⟨b1, 0, none⟩ : Addr).add 1) = some (.slice s1064.a s1064.len s1064.cap) ∧
  (sh_graph_better x1063 s1064 x1053 t1050.1 (fun t1065 w1066 =>
  (Keeps [D1021] w1062 w1066 ∧
  (cond (!t1065) (again1049 (t1050.1, (IntKind.i64.wrap (t1050.2.1 + (1 : Int))), ()) w1066) (Nn (some (⟨b11, 0, none⟩ : Addr)) (fun a1067 =>
  (∃ s1068 : SV, w1066.cell? (a1067.add 6) = some (.slice s1068.a s1068.len s1068.cap) ∧
  (Idx s1068.a s1068.len t1050.1 1 (fun a1069 =>
  (stL w1066 a1069 [(.bool false)] 0 (fun w1070 =>
  (Keeps [D1021] w1066 w1070 ∧
  (J1054 () w1070)))))))))))) w1062)) (J1054 () w1062)))) w1060))) w1058) (J1054 () w1058)))) w1056))) w1051) (J1054 () w1051)))
  (fun t1071 w1072 =>
  (Nn (some (⟨b11, 0, none⟩ : Addr)) (fun a1073 =>
  (∃ s1074 : SV, w1072.cell? (a1073.add 6) = some (.slice s1074.a s1074.len s1074.cap) ∧
  (Idx s1074.a s1074.len x1053 1 (fun a1075 =>
  (stL w1072 a1075 [(.bool true)] 0 (fun w1076 =>
  (Keeps [D1021] w1072 w1076 ∧
  (again1049 (x1053, (IntKind.i64.wrap (t1050.2.1 + (1 : Int))), ()) w1076)))))))))))))) (J1037 () w1051))) ((-1 : Int), (0 : Int), ()) w1048)))) w1046))))) w1043))))))
  (fun t1077 w1078 =>
  (sh_graph_Graph_Kept CV (some (⟨b11, 0, none⟩ : Addr)) (fun s1079 w1080 =>
  (Keeps [D1021] w1078 w1080 ∧
  (∃ x1081 : Int, w1080.cell? ((⟨b1, 0, none⟩ : Addr).add 0) = some (.int .i64 x1081) ∧ ∃ s1082 : SV, w1080.cell? ((⟨b1, 0, none⟩ : Addr).add 1) = some (.slice s1082.a s1082.len s1082.cap) ∧
  (∃ x1083 : Int, w1080.cell? ((⟨b1, 0, none⟩ : Addr).add 0) = some (.int .i64 x1083) ∧ ∃ s1084 : SV, w1080.cell? ((⟨b1, 0, none⟩ : Addr).add 1) = some (.slice s1084.a s1084.len s1084.cap) ∧
  (∀ w1089, Ext w1080 w1089 →
  (sh_graph_lay CV x1081 s1082 s1079 (Value.func (.func fn_graph_New_c1) #[] #[(.pointer (some ⟨b1, 0, none⟩))]) (Value.func (.func fn_graph_New_c2) #[] #[(.pointer (some ⟨b1, 0, none⟩))]) (fun s1087 s1088 w1090 =>
  (Keeps [D1021] w1089 w1090 ∧
  ((∃ y1085 : Int, w1090.cell? ((⟨b1, 0, none⟩ : Addr).add 0) = some (.int .i64 y1085) ∧ ∃ y1086 : SV, w1090.cell? ((⟨b1, 0, none⟩ : Addr).add 1) = some (.slice y1086.a y1086.len y1086.cap) ∧
  ((.agg #[(.int .i64 y1085), (.slice y1086.a y1086.len y1086.cap)]) : Value) = (.agg #[(.int .i64 x1083), (.slice s1084.a s1084.len s1084.cap)])) ∧
  (∀ w1093, Ext w1090 w1093 →
  (sh_graph_lay CV x1083 s1084 s1079 (Value.func (.func fn_graph_New_c2) #[] #[(.pointer (some ⟨b1, 0, none⟩))]) (Value.func (.func fn_graph_New_c1) #[] #[(.pointer (some ⟨b1, 0, none⟩))]) (fun s1091 s1092 w1094 =>
  (Keeps [D1021] w1093 w1094 ∧
  (Nn (some (⟨b11, 0, none⟩ : Addr)) (fun a1095 =>
  (∀ w1096, Ext w1094 w1096 →
  (stL w1096 (a1095.add 2) [(.slice s1087.a s1087.len s1087.cap), (.slice s1088.a s1088.len s1088.cap)] 0 (fun w1097 =>
  (Keeps [D1021] w1096 w1097 ∧
  (Nn (some (⟨b11, 0, none⟩ : Addr)) (fun a1098 =>
  (∀ w1099, Ext w1097 w1099 →
  (stL w1099 (a1098.add 4) [(.slice s1091.a s1091.len s1091.cap), (.slice s1092.a s1092.len s1092.cap)] 0 (fun w1100 =>
  (Keeps [D1021] w1099 w1100 ∧
  (∀ w1101, Ext w1100 w1101 →
  (∀ w1102, Off D1021 w1101 w1102 →
  (K (some (⟨b11, 0, none⟩ : Addr)) w1102))))))))))))))))) w1093))))) w1089)))))) w1078))))) ∨ False))) w1023)))))))))))))))))))))))) w2))

def fn_graph_Graph_N : FuncId := 42
/-- (*postroad/graph.Graph).N -/
def sh_graph_Graph_N (g0 : Option Addr) (K : Int → World → Prop) (w : World) : Prop :=
  (cond g0.isNone (K (0 : Int) w) (Nn g0 (fun a1 => (∃ x2 : Int, w.cell? ((a1.add 0).add 0) = some (.int .i64 x2) ∧ (K x2 w)))))

def fn_graph_Graph_is : FuncId := 43
/-- (*postroad/graph.Graph).is -/
def sh_graph_Graph_is (g0 : Option Addr) (v0 : Int) (K : Bool → World → Prop) (w : World) : Prop :=
  (cond (decide (v0 ≥ (0 : Int))) (sh_graph_Graph_N g0 (fun x1 w2 => (K (decide (v0 < x1)) w2)) w) (K false w))

def fn_graph_side_all : FuncId := 44
/-- (*postroad/graph.side).all -/
def sh_graph_side_all (s0 : Option Addr) (v0 : Int) (K : SV → World → Prop) (w : World) : Prop :=
  (Nn s0 (fun a1 =>
  (∃ s2 : SV, w.cell? (a1.add 1) = some (.slice s2.a s2.len s2.cap) ∧
  (Nn s0 (fun a3 =>
  (∃ s4 : SV, w.cell? (a3.add 0) = some (.slice s4.a s4.len s4.cap) ∧
  (Idx s4.a s4.len v0 1 (fun a5 =>
  (∃ x6 : Int, w.cell? a5 = some (.int .i64 x6) ∧
  (Nn s0 (fun a7 =>
  (∃ s8 : SV, w.cell? (a7.add 0) = some (.slice s8.a s8.len s8.cap) ∧
  (Idx s8.a s8.len (IntKind.i64.wrap (v0 + (1 : Int))) 1 (fun a9 =>
  (∃ x10 : Int, w.cell? a9 = some (.int .i64 x10) ∧
  (semSlice 3 s2.a s2.len s2.cap (some x6) (some x10) (fun s11 =>
  (∀ w12, Ext w w12 →
  (App 24 [(.int .i64 (0 : Int)), (.int .i64 (0 : Int)), (.int .i64 (0 : Int))] ⟨none, 0, 0⟩ s11 w12 (fun s13 w14 =>
  (∀ w15, Ext w14 w15 →
  (K s13 w15))))))))))))))))))))))

def fn_graph_Graph_Out : FuncId := 19
/-- (*postroad/graph.Graph).Out -/
def sh_graph_Graph_Out (g0 : Option Addr) (v0 : Int) (K : SV → World → Prop) (w : World) : Prop :=
  (sh_graph_Graph_is g0 v0 (fun t1 w2 => (cond (!t1) (K ⟨none, 0, 0⟩ w2) (Nn g0 (fun a3 => (sh_graph_side_all (some (a3.add 2)) v0 (fun s4 w5 => (K s4 w5)) w2))))) w)

def fn_heap_New : FuncId := 51
/-- postroad/heap.New -/
def sh_heap_New (n0 : Int) (K : Option Addr → World → Prop) (w : World) : Prop :=
  (cond (decide (n0 < (0 : Int))) (K none w) (cond (decide (n0 > (16777216 : Int))) (K none w) (MkS 8 [(.int .i64 (0 : Int))] n0 n0 w (fun s1 w2 =>
  (∀ b3 w4, Ext w2 w4 → w2.heap.size ≤ b3 → b3 < w4.heap.size →
  (Blk w4 b3 [(.slice none 0 0), (.slice s1.a s1.len s1.cap)] →
  (K (some ⟨b3, 0, none⟩) w4)))))))

def fn_heap_Heap_may : FuncId := 56
/-- (*postroad/heap.Heap).may -/
def sh_heap_Heap_may (h0 : Option Addr) (id0 : Int) (K : Bool → World → Prop) (w : World) : Prop :=
  (cond (!h0.isNone) (cond (decide (id0 ≥ (0 : Int))) (Nn h0 (fun a1 =>
  (∃ s2 : SV, w.cell? ((a1.add 0).add 1) = some (.slice s2.a s2.len s2.cap) ∧
  (K (decide (id0 < (s2.len : Int))) w)))) (K false w)) (K false w))

def fn_heap_queue_lay : FuncId := 60
/-- (*postroad/heap.queue[int]).lay -/
def sh_heap_queue_lay (q0 : Option Addr) (i0 : Int) (e0_id : Int) (e0_key : Int) (K : World → Prop) (w : World) : Prop :=
  (∀ b1 w2, Ext w w2 → w.heap.size ≤ b1 → b1 < w2.heap.size →
  (Nn q0 (fun a3 =>
  (∃ s4 : SV, w2.cell? (a3.add 0) = some (.slice s4.a s4.len s4.cap) ∧
  (Idx s4.a s4.len i0 2 (fun a5 =>
  (∀ w6, Ext w2 w6 →
  (stL w6 a5 [(.int .i64 e0_id), (.int .i64 e0_key)] 0 (fun w7 =>
  (Keeps [b1] w6 w7 ∧
  (∀ w8, Ext w7 w8 →
  (Nn q0 (fun a9 =>
  (∃ s10 : SV, w8.cell? (a9.add 1) = some (.slice s10.a s10.len s10.cap) ∧
  (Idx s10.a s10.len e0_id 1 (fun a11 =>
  (∀ w12, Ext w8 w12 →
  (stL w12 a11 [(.int .i64 (IntKind.i64.wrap (i0 + (1 : Int))))] 0 (fun w13 =>
  (Keeps [b1] w12 w13 ∧
  (∀ w14, Ext w13 w14 →
  (K w14))))))))))))))))))))))

def fn_cmp_isNaN_int : FuncId := 67
/-- cmp.isNaN[int] -/
def sh_cmp_isNaN_int (x0 : Int) (K : Bool → World → Prop) (w : World) : Prop :=
  (K (x0 != x0) w)

def fn_cmp_Compare_int : FuncId := 66
/-- cmp.Compare[int] -/
def sh_cmp_Compare_int (x0 : Int) (y0 : Int) (K : Int → World → Prop) (w : World) : Prop :=
  (sh_cmp_isNaN_int x0 (fun t1 w2 =>
  (sh_cmp_isNaN_int y0 (fun t3 w4 =>
  (cond t1 (cond t3 (K (0 : Int) w4) (K (-1 : Int) w4)) (cond t3 (K (1 : Int) w4) (cond (decide (x0 < y0)) (K (-1 : Int) w4) (cond (decide (x0 > y0)) (K (1 : Int) w4) (K (0 : Int) w4)))))) w2)) w)

def fn_cmp_Or_int : FuncId := 65
/-- cmp.Or[int] -/
def sh_cmp_Or_int (vals0 : SV) (K : Int → World → Prop) (w : World) : Prop :=
  (LoopT (Int × Unit) (fun t2 again1 w3 =>
  (cond (decide (t2.1 < (vals0.len : Int))) (Idx vals0.a vals0.len t2.1 1 (fun a4 =>
  (∃ x5 : Int, w3.cell? a4 = some (.int .i64 x5) ∧
  (cond (x5 != (0 : Int)) (K x5 w3) (again1 ((IntKind.i64.wrap (t2.1 + (1 : Int))), ()) w3))))) (K (0 : Int) w3))) ((0 : Int), ()) w)

def fn_heap_entry_before : FuncId := 64
/-- (postroad/heap.entry[int]).before -/
def sh_heap_entry_before (e0_id : Int) (e0_key : Int) (f0_id : Int) (f0_key : Int) (K : Bool → World → Prop) (w : World) : Prop :=
  (∀ b1 w2, Ext w w2 → w.heap.size ≤ b1 → b1 < w2.heap.size →
  (∀ b3 w4, Ext w2 w4 → w2.heap.size ≤ b3 → b3 < w4.heap.size →
  (Quiet (Int) (fun r6 =>
  (.int .i64 r6)) (fun K7 w8' => sh_cmp_Compare_int e0_key f0_key (fun x5 w8 => K7 x5 w8) w8') w4 (fun r6 =>
  (Quiet (Int) (fun r10 =>
  (.int .i64 r10)) (fun K11 w12' => sh_cmp_Compare_int e0_id f0_id (fun x9 w12 => K11 x9 w12) w12') w4 (fun r10 =>
  (∀ w13, Ext w4 w13 →
  (NewB [(.int .i64 r6), (.int .i64 r10)] w13 (fun b14 w15 =>
  (Quiet (Int) (fun r17 =>
  (.int .i64 r17)) (fun K18 w19' => sh_cmp_Or_int (⟨(some ⟨b14, 0, none⟩), 2, 2⟩) (fun x16 w19 => K18 x16 w19) w19') w15 (fun r17 =>
  (∀ w20, Ext w15 w20 →
  (K (decide (r17 < (0 : Int))) w20)))))))))))))

def fn_heap_queue_sink : FuncId := 61
/-- (*postroad/heap.queue[int]).sink -/
def sh_heap_queue_sink (q0 : Option Addr) (i0 : Int) (K : World → Prop) (w : World) : Prop :=
  (Nn q0 (fun a1 =>
  (∃ s2 : SV, w.cell? (a1.add 0) = some (.slice s2.a s2.len s2.cap) ∧
  (Idx s2.a s2.len i0 2 (fun a3 =>
  (∃ x4 : Int, w.cell? (a3.add 0) = some (.int .i64 x4) ∧ ∃ x5 : Int, w.cell? (a3.add 1) = some (.int .i64 x5) ∧
  (∀ b6 w7, Ext w w7 → w.heap.size ≤ b6 → b6 < w7.heap.size →
  (∀ w8, Off b6 w7 w8 →
  (Join (Int × Unit) (fun J9 =>
  (LoopT (Int × Unit) (fun t11 again10 w12 =>
  (Join (Int × Unit) (fun J13 =>
  (Nn q0 (fun a14 =>
  (∃ s15 : SV, w12.cell? (a14.add 0) = some (.slice s15.a s15.len s15.cap) ∧
  (cond (decide ((IntKind.i64.wrap ((IntKind.i64.wrap ((IntKind.i64.wrap ((2 : Int) * t11.1)) + (1 : Int))) + (1 : Int))) < (s15.len : Int))) (Nn q0 (fun a16 =>
  (∃ s17 : SV, w12.cell? (a16.add 0) = some (.slice s17.a s17.len s17.cap) ∧
  (Idx s17.a s17.len (IntKind.i64.wrap ((IntKind.i64.wrap ((IntKind.i64.wrap ((2 : Int) * t11.1)) + (1 : Int))) + (1 : Int))) 2 (fun a18 =>
  (∃ x19 : Int, w12.cell? (a18.add 0) = some (.int .i64 x19) ∧ ∃ x20 : Int, w12.cell? (a18.add 1) = some (.int .i64 x20) ∧
  (Nn q0 (fun a21 =>
  (∃ s22 : SV, w12.cell? (a21.add 0) = some (.slice s22.a s22.len s22.cap) ∧
  (Idx s22.a s22.len (IntKind.i64.wrap ((IntKind.i64.wrap ((2 : Int) * t11.1)) + (1 : Int))) 2 (fun a23 =>
  (∃ x24 : Int, w12.cell? (a23.add 0) = some (.int .i64 x24) ∧ ∃ x25 : Int, w12.cell? (a23.add 1) = some (.int .i64 x25) ∧
  (Quiet (Bool) (fun r27 =>
  (.bool r27)) (fun K28 w29' => sh_heap_entry_before x19 x20 x24 x25 (fun t26 w29 => K28 t26 w29) w29') w12 (fun r27 =>
  (∀ w30, Ext w12 w30 →
  (cond r27 (J13 ((IntKind.i64.wrap ((IntKind.i64.wrap ((IntKind.i64.wrap ((2 : Int) * t11.1)) + (1 : Int))) + (1 : Int))), ()) w30) (J13 ((IntKind.i64.wrap ((IntKind.i64.wrap ((2 : Int) * t11.1)) + (1 : Int))), ()) w30))))))))))))))))) (∀ w31, Ext w12 w31 →
  (J13 ((IntKind.i64.wrap ((IntKind.i64.wrap ((2 : Int) * t11.1)) + (1 : Int))), ()) w31)))))))
  (fun t32 w33 =>
  (Nn q0 (fun a34 =>
  (∃ s35 : SV, w33.cell? (a34.add 0) = some (.slice s35.a s35.len s35.cap) ∧
  (cond (decide (t32.1 ≥ (s35.len : Int))) (∀ w36, Ext w33 w36 →
  (J9 (t11.1, ()) w36)) (Nn q0 (fun a37 =>
  (∃ s38 : SV, w33.cell? (a37.add 0) = some (.slice s38.a s38.len s38.cap) ∧
  (Idx s38.a s38.len t32.1 2 (fun a39 =>
  (∃ x40 : Int, w33.cell? (a39.add 0) = some (.int .i64 x40) ∧ ∃ x41 : Int, w33.cell? (a39.add 1) = some (.int .i64 x41) ∧
  (Quiet (Bool) (fun r43 =>
  (.bool r43)) (fun K44 w45' => sh_heap_entry_before x4 x5 x40 x41 (fun t42 w45 => K44 t42 w45) w45') w33 (fun r43 =>
  (∀ w46, Ext w33 w46 →
  (cond r43 (J9 (t11.1, ()) w46) (Nn q0 (fun a47 =>
  (∃ s48 : SV, w46.cell? (a47.add 0) = some (.slice s48.a s48.len s48.cap) ∧
  (Idx s48.a s48.len t32.1 2 (fun a49 =>
  (∃ x50 : Int, w46.cell? (a49.add 0) = some (.int .i64 x50) ∧ ∃ x51 : Int, w46.cell? (a49.add 1) = some (.int .i64 x51) ∧
  (sh_heap_queue_lay q0 t11.1 x50 x51 (fun w52 =>
  (Keeps [b6] w46 w52 ∧
  (again10 (t32.1, ()) w52))) w46)))))))))))))))))))))))) (i0, ()) w8))
  (fun t53 w54 =>
  (sh_heap_queue_lay q0 t53.1 x4 x5 (fun w55 =>
  (Keeps [b6] w54 w55 ∧
  (K w55))) w54)))))))))))

def fn_heap_queue_rise : FuncId := 62
/-- (*postroad/heap.queue[int]).rise -/
def sh_heap_queue_rise (q0 : Option Addr) (i0 : Int) (K : World → Prop) (w : World) : Prop :=
  (Nn q0 (fun a1 =>
  (∃ s2 : SV, w.cell? (a1.add 0) = some (.slice s2.a s2.len s2.cap) ∧
  (Idx s2.a s2.len i0 2 (fun a3 =>
  (∃ x4 : Int, w.cell? (a3.add 0) = some (.int .i64 x4) ∧ ∃ x5 : Int, w.cell? (a3.add 1) = some (.int .i64 x5) ∧
  (∀ b6 w7, Ext w w7 → w.heap.size ≤ b6 → b6 < w7.heap.size →
  (∀ w8, Off b6 w7 w8 →
  (Join (Int × Unit) (fun J9 =>
  (LoopT (Int × Unit) (fun t11 again10 w12 =>
  (cond (decide (t11.1 > (0 : Int))) (Nn q0 (fun a13 =>
  (∃ s14 : SV, w12.cell? (a13.add 0) = some (.slice s14.a s14.len s14.cap) ∧
  (Idx s14.a s14.len (IntKind.i64.wrap ((IntKind.i64.wrap (t11.1 - (1 : Int))).tdiv (2 : Int))) 2 (fun a15 =>
  (∃ x16 : Int, w12.cell? (a15.add 0) = some (.int .i64 x16) ∧ ∃ x17 : Int, w12.cell? (a15.add 1) = some (.int .i64 x17) ∧
  (Quiet (Bool) (fun r19 =>
  (.bool r19)) (fun K20 w21' => sh_heap_entry_before x4 x5 x16 x17 (fun t18 w21 => K20 t18 w21) w21') w12 (fun r19 =>
  (∀ w22, Ext w12 w22 →
  (cond r19 (Nn q0 (fun a23 =>
  (∃ s24 : SV, w22.cell? (a23.add 0) = some (.slice s24.a s24.len s24.cap) ∧
  (Idx s24.a s24.len (IntKind.i64.wrap ((IntKind.i64.wrap (t11.1 - (1 : Int))).tdiv (2 : Int))) 2 (fun a25 =>
  (∃ x26 : Int, w22.cell? (a25.add 0) = some (.int .i64 x26) ∧ ∃ x27 : Int, w22.cell? (a25.add 1) = some (.int .i64 x27) ∧
  (sh_heap_queue_lay q0 t11.1 x26 x27 (fun w28 =>
  (Keeps [b6] w22 w28 ∧
  (again10 ((IntKind.i64.wrap ((IntKind.i64.wrap (t11.1 - (1 : Int))).tdiv (2 : Int))), ()) w28))) w22))))))) (J9 (t11.1, ()) w22))))))))))) (∀ w29, Ext w12 w29 →
  (J9 (t11.1, ()) w29)))) (i0, ()) w8))
  (fun t30 w31 =>
  (sh_heap_queue_lay q0 t30.1 x4 x5 (fun w32 =>
  (Keeps [b6] w31 w32 ∧
  (K w32))) w31)))))))))))

def fn_heap_queue_put : FuncId := 57
/-- (*postroad/heap.queue[int]).put -/
def sh_heap_queue_put (q0 : Option Addr) (id0 : Int) (key0 : Int) (K : World → Prop) (w : World) : Prop :=
  (Nn q0 (fun a1 =>
  (∃ s2 : SV, w.cell? (a1.add 1) = some (.slice s2.a s2.len s2.cap) ∧
  (Idx s2.a s2.len id0 1 (fun a3 =>
  (∃ x4 : Int, w.cell? a3 = some (.int .i64 x4) ∧
  (Join (Int × Unit) (fun J5 =>
  (cond (decide ((IntKind.i64.wrap (x4 - (1 : Int))) < (0 : Int))) (Nn q0 (fun a6 =>
  (∃ s7 : SV, w.cell? (a6.add 0) = some (.slice s7.a s7.len s7.cap) ∧
  (Nn q0 (fun a8 =>
  (∃ s9 : SV, w.cell? (a8.add 0) = some (.slice s9.a s9.len s9.cap) ∧
  (NewB [(.int .i64 (0 : Int)), (.int .i64 (0 : Int))] w (fun b10 w11 =>
  (App 16 [(.int .i64 (0 : Int)), (.int .i64 (0 : Int))] s9 ⟨(some ⟨b10, 0, none⟩), 1, 1⟩ w11 (fun s12 w13 =>
  (Nn q0 (fun a14 =>
  (stL w13 (a14.add 0) [(.slice s12.a s12.len s12.cap)] 0 (fun w15 =>
  (J5 ((s7.len : Int), ()) w15))))))))))))))) (J5 ((IntKind.i64.wrap (x4 - (1 : Int))), ()) w)))
  (fun t16 w17 =>
  (sh_heap_queue_lay q0 t16.1 id0 key0 (fun w18 =>
  (sh_heap_queue_sink q0 t16.1 (fun w19 =>
  (Nn q0 (fun a20 =>
  (∃ s21 : SV, w19.cell? (a20.add 1) = some (.slice s21.a s21.len s21.cap) ∧
  (Idx s21.a s21.len id0 1 (fun a22 =>
  (∃ x23 : Int, w19.cell? a22 = some (.int .i64 x23) ∧
  (sh_heap_queue_rise q0 (IntKind.i64.wrap (x23 - (1 : Int))) (fun w24 =>
  (K w24)) w19)))))))) w18)) w17)))))))))

def fn_heap_Heap_Set : FuncId := 52
/-- (*postroad/heap.Heap).Set -/
def sh_heap_Heap_Set (h0 : Option Addr) (id0 : Int) (key0 : Int) (K : Bool → World → Prop) (w : World) : Prop :=
  (sh_heap_Heap_may h0 id0 (fun t1 w2 => (cond (!t1) (K false w2) (Nn h0 (fun a3 => (sh_heap_queue_put (some (a3.add 0)) id0 key0 (fun w4 => (K true w4)) w2))))) w)

def fn_heap_Heap_Len : FuncId := 63
/-- (*postroad/heap.Heap).Len -/
def sh_heap_Heap_Len (h0 : Option Addr) (K : Int → World → Prop) (w : World) : Prop :=
  (cond h0.isNone (K (0 : Int) w) (Nn h0 (fun a1 => (∃ s2 : SV, w.cell? ((a1.add 0).add 0) = some (.slice s2.a s2.len s2.cap) ∧ (K (s2.len : Int) w)))))

def fn_heap_Heap_First : FuncId := 58
/-- (*postroad/heap.Heap).First -/
def sh_heap_Heap_First (h0 : Option Addr) (K : Int → Int → Bool → World → Prop) (w : World) : Prop :=
  (sh_heap_Heap_Len h0 (fun x1 w2 =>
  (cond (x1 == (0 : Int)) (K (0 : Int) (0 : Int) false w2) (Nn h0 (fun a3 =>
  (∃ s4 : SV, w2.cell? ((a3.add 0).add 0) = some (.slice s4.a s4.len s4.cap) ∧
  (Idx s4.a s4.len (0 : Int) 2 (fun a5 =>
  (∃ x6 : Int, w2.cell? (a5.add 0) = some (.int .i64 x6) ∧
  (Nn h0 (fun a7 =>
  (∃ s8 : SV, w2.cell? ((a7.add 0).add 0) = some (.slice s8.a s8.len s8.cap) ∧
  (Idx s8.a s8.len (0 : Int) 2 (fun a9 =>
  (∃ x10 : Int, w2.cell? (a9.add 1) = some (.int .i64 x10) ∧
  (∀ w11, Ext w2 w11 →
  (K x6 x10 true w11)))))))))))))))) w)

def fn_heap_queue_drop : FuncId := 59
/-- (*postroad/heap.queue[int]).drop -/
def sh_heap_queue_drop (q0 : Option Addr) (id0 : Int) (K : World → Prop) (w : World) : Prop :=
  (Nn q0 (fun a1 =>
  (∃ s2 : SV, w.cell? (a1.add 1) = some (.slice s2.a s2.len s2.cap) ∧
  (Idx s2.a s2.len id0 1 (fun a3 =>
  (∃ x4 : Int, w.cell? a3 = some (.int .i64 x4) ∧
  (Nn q0 (fun a5 =>
  (∃ s6 : SV, w.cell? (a5.add 0) = some (.slice s6.a s6.len s6.cap) ∧
  (∀ w7, Ext w w7 →
  (Nn q0 (fun a8 =>
  (∃ s9 : SV, w7.cell? (a8.add 0) = some (.slice s9.a s9.len s9.cap) ∧
  (Idx s9.a s9.len (IntKind.i64.wrap ((s6.len : Int) - (1 : Int))) 2 (fun a10 =>
  (∃ x11 : Int, w7.cell? (a10.add 0) = some (.int .i64 x11) ∧ ∃ x12 : Int, w7.cell? (a10.add 1) = some (.int .i64 x12) ∧
  (∀ b13 w14, Ext w7 w14 → w7.heap.size ≤ b13 → b13 < w14.heap.size →
  (∀ w15, Off b13 w14 w15 →
  (Nn q0 (fun a16 =>
  (∃ s17 : SV, w15.cell? (a16.add 1) = some (.slice s17.a s17.len s17.cap) ∧
  (Nn q0 (fun a18 =>
  (∃ s19 : SV, w15.cell? (a18.add 0) = some (.slice s19.a s19.len s19.cap) ∧
  (semSlice 2 s19.a s19.len s19.cap none (some (IntKind.i64.wrap ((s6.len : Int) - (1 : Int)))) (fun s20 =>
  (Nn q0 (fun a21 =>
  (∀ w22, Ext w15 w22 →
  (stL w22 (a21.add 0) [(.slice s20.a s20.len s20.cap)] 0 (fun w23 =>
  (Keeps [b13] w22 w23 ∧
  (Idx s17.a s17.len id0 1 (fun a24 =>
  (∀ w25, Ext w23 w25 →
  (stL w25 a24 [(.int .i64 (0 : Int))] 0 (fun w26 =>
  (Keeps [b13] w25 w26 ∧
  (∀ w27, Ext w26 w27 →
  (cond (x11 == id0) (K w27) (sh_heap_queue_lay q0 (IntKind.i64.wrap (x4 - (1 : Int))) x11 x12 (fun w28 =>
  (Keeps [b13] w27 w28 ∧
  (sh_heap_queue_sink q0 (IntKind.i64.wrap (x4 - (1 : Int))) (fun w29 =>
  (Keeps [b13] w28 w29 ∧
  (Nn q0 (fun a30 =>
  (∃ s31 : SV, w29.cell? (a30.add 1) = some (.slice s31.a s31.len s31.cap) ∧
  (Idx s31.a s31.len x11 1 (fun a32 =>
  (∃ x33 : Int, w29.cell? a32 = some (.int .i64 x33) ∧
  (∀ w34, Ext w29 w34 →
  (sh_heap_queue_rise q0 (IntKind.i64.wrap (x33 - (1 : Int))) (fun w35 =>
  (Keeps [b13] w34 w35 ∧
  (∀ w36, Ext w35 w36 →
  (K w36)))) w34)))))))))) w28))) w27)))))))))))))))))))))))))))))))))))))))))

def fn_heap_Heap_Pop : FuncId := 53
/-- (*postroad/heap.Heap).Pop -/
def sh_heap_Heap_Pop (h0 : Option Addr) (K : Int → Int → Bool → World → Prop) (w : World) : Prop :=
  (sh_heap_Heap_First h0 (fun x1 x2 t3 w4 =>
  (Join (Unit) (fun J5 =>
  (cond t3 (Nn h0 (fun a6 =>
  (sh_heap_queue_drop (some (a6.add 0)) x1 (fun w7 =>
  (J5 () w7)) w4))) (J5 () w4)))
  (fun t8 w9 =>
  (K x1 x2 t3 w9)))) w)

def fn_heap_Heap_Key : FuncId := 54
/-- (*postroad/heap.Heap).Key -/
def sh_heap_Heap_Key (h0 : Option Addr) (id0 : Int) (K : Int → Bool → World → Prop) (w : World) : Prop :=
  (sh_heap_Heap_may h0 id0 (fun t1 w2 =>
  (cond (!t1) (K (0 : Int) false w2) (Nn h0 (fun a3 =>
  (∃ s4 : SV, w2.cell? ((a3.add 0).add 1) = some (.slice s4.a s4.len s4.cap) ∧
  (Idx s4.a s4.len id0 1 (fun a5 =>
  (∃ x6 : Int, w2.cell? a5 = some (.int .i64 x6) ∧
  (cond (x6 == (0 : Int)) (K (0 : Int) false w2) (Nn h0 (fun a7 =>
  (∃ s8 : SV, w2.cell? ((a7.add 0).add 0) = some (.slice s8.a s8.len s8.cap) ∧
  (Nn h0 (fun a9 =>
  (∃ s10 : SV, w2.cell? ((a9.add 0).add 1) = some (.slice s10.a s10.len s10.cap) ∧
  (Idx s10.a s10.len id0 1 (fun a11 =>
  (∃ x12 : Int, w2.cell? a11 = some (.int .i64 x12) ∧
  (Idx s8.a s8.len (IntKind.i64.wrap (x12 - (1 : Int))) 2 (fun a13 =>
  (∃ x14 : Int, w2.cell? (a13.add 1) = some (.int .i64 x14) ∧
  (∀ w15, Ext w2 w15 →
  (K x14 true w15))))))))))))))))))))))) w)

def fn_dist_least : FuncId := 41
/-- postroad/dist.least -/
def sh_dist_least (CV : CVT) (n0 : Int) (s0 : Int) (edges0 : Value) (K : SV → World → Prop) (w : World) : Prop :=
  (cond (decide (s0 < (0 : Int))) (K ⟨none, 0, 0⟩ w) (cond (decide (s0 ≥ n0)) (K ⟨none, 0, 0⟩ w) (MkS 8 [(.int .i64 (0 : Int))] n0 n0 w (fun s1 w2 =>
  (Join (Unit) (fun J3 =>
  (LoopT (Int × Unit) (fun t5 again4 w6 =>
  (cond (decide (t5.1 < (s1.len : Int))) (Idx s1.a s1.len t5.1 1 (fun a7 =>
  (stL w6 a7 [(.int .i64 (-1 : Int))] 0 (fun w8 =>
  (again4 ((IntKind.i64.wrap (t5.1 + (1 : Int))), ()) w8))))) (J3 () w6))) ((0 : Int), ()) w2))
  (fun t9 w10 =>
  (sh_heap_New n0 (fun p11 w12 =>
  (sh_heap_Heap_Set p11 s0 (0 : Int) (fun t13 w14 =>
  (LoopT (Unit) (fun t16 again15 w17 =>
  (sh_heap_Heap_Pop p11 (fun x18 x19 t20 w21 =>
  (cond (!t20) (K s1 w21) (Idx s1.a s1.len x18 1 (fun a22 =>
  (stL w21 a22 [(.int .i64 x19)] 0 (fun w23 =>
  (CV edges0 [(.int .i64 x18)] (fun r25 w26 => ∃ s24 : SV, r25 = (.slice s24.a s24.len s24.cap) ∧
  (LoopT (Int × Unit) (fun t28 again27 w29 =>
  (cond (decide (t28.1 < (s24.len : Int))) (Idx s24.a s24.len t28.1 3 (fun a30 =>
  (∃ x31 : Int, w29.cell? (a30.add 0) = some (.int .i64 x31) ∧ ∃ x32 : Int, w29.cell? (a30.add 1) = some (.int .i64 x32) ∧ ∃ x33 : Int, w29.cell? (a30.add 2) = some (.int .i64 x33) ∧
  (∀ b34 w35, Ext w29 w35 → w29.heap.size ≤ b34 → b34 < w35.heap.size →
  (∀ w36, Off b34 w35 w36 →
  (sh_heap_Heap_Key p11 x31 (fun x37 t38 w39 =>
  (Keeps [b34] w36 w39 ∧
  (Idx s1.a s1.len x31 1 (fun a40 =>
  (∃ x41 : Int, w39.cell? a40 = some (.int .i64 x41) ∧
  (cond (x41 == (-1 : Int)) (cond (!t38) (sh_heap_Heap_Set p11 x31 (IntKind.i64.wrap (x19 + x32)) (fun t42 w43 =>
  (Keeps [b34] w39 w43 ∧
  (again27 ((IntKind.i64.wrap (t28.1 + (1 : Int))), ()) w43))) w39) (cond (decide ((IntKind.i64.wrap (x19 + x32)) < x37)) (sh_heap_Heap_Set p11 x31 (IntKind.i64.wrap (x19 + x32)) (fun t44 w45 =>
  (Keeps [b34] w39 w45 ∧
  (again27 ((IntKind.i64.wrap (t28.1 + (1 : Int))), ()) w45))) w39) (again27 ((IntKind.i64.wrap (t28.1 + (1 : Int))), ()) w39))) (again27 ((IntKind.i64.wrap (t28.1 + (1 : Int))), ()) w39))))))) w36)))))) (again15 () w29))) ((0 : Int), ()) w26)) w23))))))) w17)) () w14)) w12)) w10)))))))

def fn_dist_From : FuncId := 12
/-- postroad/dist.From -/
def sh_dist_From (CV : CVT) (g0 : Option Addr) (s0 : Int) (K : SV → World → Prop) (w : World) : Prop :=
  (sh_graph_Graph_N g0 (fun x1 w2 => (sh_dist_least CV x1 s0 (Value.func (.func fn_graph_Graph_Out) #[(.pointer g0)] #[]) (fun s3 w4 => (K s3 w4)) w2)) w)

def fn_graph_Graph_In : FuncId := 13
/-- (*postroad/graph.Graph).In -/
def sh_graph_Graph_In (g0 : Option Addr) (v0 : Int) (K : SV → World → Prop) (w : World) : Prop :=
  (sh_graph_Graph_is g0 v0 (fun t1 w2 => (cond (!t1) (K ⟨none, 0, 0⟩ w2) (Nn g0 (fun a3 => (sh_graph_side_all (some (a3.add 4)) v0 (fun s4 w5 => (K s4 w5)) w2))))) w)

def fn_postroadref00_SameInts : FuncId := 15
/-- postroad/postroadref00.SameInts -/
def sh_postroadref00_SameInts (a0 : SV) (b0 : SV) (K : Bool → World → Prop) (w : World) : Prop :=
  (cond ((a0.len : Int) != (b0.len : Int)) (K false w) (LoopT (Int × Unit) (fun t2 again1 w3 =>
  (cond (decide (t2.1 < (a0.len : Int))) (Idx a0.a a0.len t2.1 1 (fun a4 =>
  (∃ x5 : Int, w3.cell? a4 = some (.int .i64 x5) ∧
  (Idx b0.a b0.len t2.1 1 (fun a6 =>
  (∃ x7 : Int, w3.cell? a6 = some (.int .i64 x7) ∧
  (∀ w8, Ext w3 w8 →
  (cond (x5 != x7) (K false w8) (again1 ((IntKind.i64.wrap (t2.1 + (1 : Int))), ()) w8))))))))) (K true w3))) ((0 : Int), ()) w))

def fn_dist_To : FuncId := 16
/-- postroad/dist.To -/
def sh_dist_To (CV : CVT) (g0 : Option Addr) (t0 : Int) (K : SV → World → Prop) (w : World) : Prop :=
  (sh_graph_Graph_N g0 (fun x1 w2 => (sh_dist_least CV x1 t0 (Value.func (.func fn_graph_Graph_In) #[(.pointer g0)] #[]) (fun s3 w4 => (K s3 w4)) w2)) w)

def fn_postroadlaw07_known : FuncId := 14
/-- postroad/postroadlaw07.known -/
def sh_postroadlaw07_known (CV : CVT) (K : Bool → World → Prop) (w : World) : Prop :=
  (NewB [(.int .i64 (0 : Int)), (.int .i64 (1 : Int)), (.int .i64 (5 : Int)), (.int .i64 (1 : Int)), (.int .i64 (2 : Int)), (.int .i64 (1 : Int)), (.int .i64 (0 : Int)), (.int .i64 (2 : Int)), (.int .i64 (9 : Int))] w (fun b1 w2 =>
  (sh_graph_New CV (3 : Int) (⟨(some ⟨b1, 0, none⟩), 3, 3⟩) (fun p3 w4 =>
  (sh_dist_From CV p3 (0 : Int) (fun s5 w6 =>
  (NewB [(.int .i64 (0 : Int)), (.int .i64 (5 : Int)), (.int .i64 (6 : Int))] w6 (fun b7 w8 =>
  (sh_postroadref00_SameInts s5 (⟨(some ⟨b7, 0, none⟩), 3, 3⟩) (fun t9 w10 =>
  (cond t9 (sh_dist_To CV p3 (0 : Int) (fun s11 w12 =>
  (NewB [(.int .i64 (0 : Int)), (.int .i64 (-1 : Int)), (.int .i64 (-1 : Int))] w12 (fun b13 w14 =>
  (sh_postroadref00_SameInts s11 (⟨(some ⟨b13, 0, none⟩), 3, 3⟩) (fun t15 w16 =>
  (K t15 w16)) w14)))) w10) (K false w10))) w8)))) w4)) w2)))

def fn_postroadlaw07_DistSteps : FuncId := 3
/-- postroad/postroadlaw07.DistSteps -/
def sh_postroadlaw07_DistSteps (CV : CVT) (n0 : Int) (arcs0 : SV) (a0 : Int) (K : Bool → World → Prop) (w : World) : Prop :=
  (sh_postroadref07_Of n0 arcs0 (fun x1 s2 w3 =>
  (∀ b4 w5, Ext w3 w5 → w3.heap.size ≤ b4 → b4 < w5.heap.size →
  (∀ w6, Off b4 w5 w6 →
  (sh_graph_New CV x1 s2 (fun p7 w8 =>
  (Keeps [b4] w6 w8 ∧
  (if x1 = 0 then False else (sh_dist_From CV p7 ((IntKind.i64.wrap (a0)).tmod x1) (fun s9 w10 =>
  (Keeps [b4] w8 w10 ∧
  (cond ((s9.len : Int) != x1) (K false w10) (Join (Unit) (fun J11 =>
  (LoopT (Int × Unit) (fun t13 again12 w14 =>
  (cond (decide (t13.1 < x1)) (Join (Unit) (fun J15 =>
  (sh_graph_Graph_In p7 t13.1 (fun s16 w17 =>
  (Keeps [b4] w14 w17 ∧
  (cond (t13.1 == ((IntKind.i64.wrap (a0)).tmod x1)) (Idx s9.a s9.len t13.1 1 (fun a18 =>
  (∃ x19 : Int, w17.cell? a18 = some (.int .i64 x19) ∧
  (Join (Bool × Unit) (fun J20 =>
  (LoopT (Bool × Int × Unit) (fun t22 again21 w23 =>
  (cond (decide (t22.2.1 < (s16.len : Int))) (Join (Bool × Unit) (fun J24 =>
  (Idx s16.a s16.len t22.2.1 3 (fun a25 =>
  (∃ x26 : Int, w23.cell? (a25.add 0) = some (.int .i64 x26) ∧
  (Idx s9.a s9.len x26 1 (fun a27 =>
  (∃ x28 : Int, w23.cell? a27 = some (.int .i64 x28) ∧
  (Join (Unit) (fun J29 =>
  (cond (decide (x28 ≥ (0 : Int))) (Idx s9.a s9.len t13.1 1 (fun a30 =>
  (∃ x31 : Int, w23.cell? a30 = some (.int .i64 x31) ∧
  (cond (decide (x31 < (0 : Int))) (∀ w32, Ext w23 w32 →
  (K false w32)) (Idx s9.a s9.len t13.1 1 (fun a33 =>
  (∃ x34 : Int, w23.cell? a33 = some (.int .i64 x34) ∧
  (Idx s16.a s16.len t22.2.1 3 (fun a35 =>
  (∃ x36 : Int, w23.cell? (a35.add 1) = some (.int .i64 x36) ∧
  (∀ w37, Ext w23 w37 →
  (cond (decide (x34 > (IntKind.i64.wrap (x28 + x36)))) (K false w37) (J29 () w37))))))))))))) (∀ w38, Ext w23 w38 →
  (J29 () w38))))
  (fun t39 w40 =>
  (cond t22.1 (∀ w41, Ext w40 w41 →
  (J24 (true, ()) w41)) (cond (decide (x28 ≥ (0 : Int))) (Idx s9.a s9.len t13.1 1 (fun a42 =>
  (∃ x43 : Int, w40.cell? a42 = some (.int .i64 x43) ∧
  (Idx s16.a s16.len t22.2.1 3 (fun a44 =>
  (∃ x45 : Int, w40.cell? (a44.add 1) = some (.int .i64 x45) ∧
  (∀ w46, Ext w40 w46 →
  (J24 (x43 == (IntKind.i64.wrap (x28 + x45)), ()) w46)))))))) (∀ w47, Ext w40 w47 →
  (J24 (false, ()) w47)))))))))))))
  (fun t48 w49 =>
  (again21 (t48.1, (IntKind.i64.wrap (t22.2.1 + (1 : Int))), ()) w49))) (J20 (t22.1, ()) w23))) (x19 == (0 : Int), (0 : Int), ()) w17))
  (fun t50 w51 =>
  (cond (!t50.1) (Idx s9.a s9.len t13.1 1 (fun a52 =>
  (∃ x53 : Int, w51.cell? a52 = some (.int .i64 x53) ∧
  (cond (decide (x53 ≥ (0 : Int))) (K false w51) (J15 () w51))))) (J15 () w51))))))) (Join (Bool × Unit) (fun J54 =>
  (LoopT (Bool × Int × Unit) (fun t56 again55 w57 =>
  (cond (decide (t56.2.1 < (s16.len : Int))) (Join (Bool × Unit) (fun J58 =>
  (Idx s16.a s16.len t56.2.1 3 (fun a59 =>
  (∃ x60 : Int, w57.cell? (a59.add 0) = some (.int .i64 x60) ∧
  (Idx s9.a s9.len x60 1 (fun a61 =>
  (∃ x62 : Int, w57.cell? a61 = some (.int .i64 x62) ∧
  (Join (Unit) (fun J63 =>
  (cond (decide (x62 ≥ (0 : Int))) (Idx s9.a s9.len t13.1 1 (fun a64 =>
  (∃ x65 : Int, w57.cell? a64 = some (.int .i64 x65) ∧
  (cond (decide (x65 < (0 : Int))) (∀ w66, Ext w57 w66 →
  (K false w66)) (Idx s9.a s9.len t13.1 1 (fun a67 =>
  (∃ x68 : Int, w57.cell? a67 = some (.int .i64 x68) ∧
  (Idx s16.a s16.len t56.2.1 3 (fun a69 =>
  (∃ x70 : Int, w57.cell? (a69.add 1) = some (.int .i64 x70) ∧
  (∀ w71, Ext w57 w71 →
  (cond (decide (x68 > (IntKind.i64.wrap (x62 + x70)))) (K false w71) (J63 () w71))))))))))))) (∀ w72, Ext w57 w72 →
  (J63 () w72))))
  (fun t73 w74 =>
  (cond t56.1 (∀ w75, Ext w74 w75 →
  (J58 (true, ()) w75)) (cond (decide (x62 ≥ (0 : Int))) (Idx s9.a s9.len t13.1 1 (fun a76 =>
  (∃ x77 : Int, w74.cell? a76 = some (.int .i64 x77) ∧
  (Idx s16.a s16.len t56.2.1 3 (fun a78 =>
  (∃ x79 : Int, w74.cell? (a78.add 1) = some (.int .i64 x79) ∧
  (∀ w80, Ext w74 w80 →
  (J58 (x77 == (IntKind.i64.wrap (x62 + x79)), ()) w80)))))))) (∀ w81, Ext w74 w81 →
  (J58 (false, ()) w81)))))))))))))
  (fun t82 w83 =>
  (again55 (t82.1, (IntKind.i64.wrap (t56.2.1 + (1 : Int))), ()) w83))) (J54 (t56.1, ()) w57))) (false, (0 : Int), ()) w17))
  (fun t84 w85 =>
  (cond (!t84.1) (Idx s9.a s9.len t13.1 1 (fun a86 =>
  (∃ x87 : Int, w85.cell? a86 = some (.int .i64 x87) ∧
  (cond (decide (x87 ≥ (0 : Int))) (K false w85) (J15 () w85))))) (J15 () w85))))))) w14))
  (fun t88 w89 =>
  (again12 ((IntKind.i64.wrap (t13.1 + (1 : Int))), ()) w89))) (J11 () w14))) ((0 : Int), ()) w10))
  (fun t90 w91 =>
  (sh_postroadlaw07_known CV (fun t92 w93 =>
  (Keeps [b4] w91 w93 ∧
  (K t92 w93))) w91)))))) w8)))) w6)))) w)

def fn_postroadlaw07_DistTimes : FuncId := 4
/-- postroad/postroadlaw07.DistTimes -/
def sh_postroadlaw07_DistTimes (CV : CVT) (n0 : Int) (arcs0 : SV) (a0 : Int) (times0 : Int) (K : Bool → World → Prop) (w : World) : Prop :=
  (sh_postroadref07_Of n0 arcs0 (fun x1 s2 w3 =>
  (∀ b4 w5, Ext w3 w5 → w3.heap.size ≤ b4 → b4 < w5.heap.size →
  (∀ w6, Off b4 w5 w6 →
  (∀ b7 w8, Ext w6 w8 → w6.heap.size ≤ b7 → b7 < w8.heap.size →
  (∀ w9, Off b7 w8 w9 →
  (Join ((Int × SV × Unit) × Unit) (fun J10 =>
  (LoopT (Int × (Int × SV × Unit) × Unit) (fun t12 again11 w13 =>
  (cond (decide (t12.1 < (s2.len : Int))) (Idx s2.a s2.len t12.1 3 (fun a14 =>
  (∃ x15 : Int, w13.cell? (a14.add 2) = some (.int .i64 x15) ∧
  (Idx s2.a s2.len t12.1 3 (fun a16 =>
  (∀ w17, Ext w13 w17 →
  (stL w17 (a16.add 2) [(.int .i64 (x15.tmod (1000000 : Int)))] 0 (fun w18 =>
  (Keeps [b7, b4] w17 w18 ∧
  (∀ w19, Ext w18 w19 →
  (Idx s2.a s2.len t12.1 3 (fun a20 =>
  (∃ x21 : Int, w19.cell? (a20.add 0) = some (.int .i64 x21) ∧
  (Idx s2.a s2.len t12.1 3 (fun a22 =>
  (∃ x23 : Int, w19.cell? (a22.add 1) = some (.int .i64 x23) ∧
  (Idx s2.a s2.len t12.1 3 (fun a24 =>
  (∃ x25 : Int, w19.cell? (a24.add 2) = some (.int .i64 x25) ∧
  (∀ w26, Ext w19 w26 →
  (NewB [(.int .i64 x21), (.int .i64 x23), (.int .i64 (IntKind.i64.wrap (x25 * (IntKind.i64.wrap (times0)))))] w26 (fun b27 w28 =>
  (∀ w29, Ext w28 w29 →
  (App 24 [(.int .i64 (0 : Int)), (.int .i64 (0 : Int)), (.int .i64 (0 : Int))] t12.2.1.2.1 ⟨(some ⟨b27, 0, none⟩), 1, 1⟩ w29 (fun s30 w31 =>
  (Keeps [b7, b4] w29 w31 ∧
  (∀ w32, Ext w31 w32 →
  (∀ w33, Off b7 w32 w33 →
  (∀ w34, Ext w33 w34 →
  (again11 ((IntKind.i64.wrap (t12.1 + (1 : Int))), (t12.2.1.1, s30, ()), ()) w34)))))))))))))))))))))))))))))) (J10 ((t12.2.1.1, t12.2.1.2.1, ()), ()) w13))) ((0 : Int), (x1, ⟨none, 0, 0⟩, ()), ()) w9))
  (fun t35 w36 =>
  (if x1 = 0 then False else (sh_graph_New CV x1 s2 (fun p37 w38 =>
  (Keeps [b7, b4] w36 w38 ∧
  (sh_dist_From CV p37 ((IntKind.i64.wrap (a0)).tmod x1) (fun s39 w40 =>
  (Keeps [b7, b4] w38 w40 ∧
  (sh_graph_New CV t35.1.1 t35.1.2.1 (fun p41 w42 =>
  (Keeps [b7, b4] w40 w42 ∧
  (sh_dist_From CV p41 ((IntKind.i64.wrap (a0)).tmod x1) (fun s43 w44 =>
  (Keeps [b7, b4] w42 w44 ∧
  (cond ((s39.len : Int) != x1) (K false w44) (cond ((s43.len : Int) != x1) (K false w44) (Join (Unit) (fun J45 =>
  (LoopT (Int × Unit) (fun t47 again46 w48 =>
  (cond (decide (t47.1 < x1)) (Join (Unit) (fun J49 =>
  (Idx s39.a s39.len t47.1 1 (fun a50 =>
  (∃ x51 : Int, w48.cell? a50 = some (.int .i64 x51) ∧
  (Idx s43.a s43.len t47.1 1 (fun a52 =>
  (∃ x53 : Int, w48.cell? a52 = some (.int .i64 x53) ∧
  (cond (!((decide (x51 < (0 : Int))) == (decide (x53 < (0 : Int))))) (∀ w54, Ext w48 w54 →
  (K false w54)) (Idx s39.a s39.len t47.1 1 (fun a55 =>
  (∃ x56 : Int, w48.cell? a55 = some (.int .i64 x56) ∧
  (cond (decide (x56 ≥ (0 : Int))) (Idx s43.a s43.len t47.1 1 (fun a57 =>
  (∃ x58 : Int, w48.cell? a57 = some (.int .i64 x58) ∧
  (Idx s39.a s39.len t47.1 1 (fun a59 =>
  (∃ x60 : Int, w48.cell? a59 = some (.int .i64 x60) ∧
  (∀ w61, Ext w48 w61 →
  (cond (x58 != (IntKind.i64.wrap (x60 * (IntKind.i64.wrap (times0))))) (K false w61) (J49 () w61))))))))) (∀ w62, Ext w48 w62 →
  (J49 () w62))))))))))))))
  (fun t63 w64 =>
  (again46 ((IntKind.i64.wrap (t47.1 + (1 : Int))), ()) w64))) (J45 () w48))) ((0 : Int), ()) w44))
  (fun t65 w66 =>
  (sh_postroadlaw07_known CV (fun t67 w68 =>
  (Keeps [b7, b4] w66 w68 ∧
  (K t67 w68))) w66))))))) w42))) w40))) w38))) w36))))))))) w)

def fn_dist_Total : FuncId := 17
/-- postroad/dist.Total -/
def sh_dist_Total (CV : CVT) (m0_N : Int) (m0_Arcs : SV) (K : Int → World → Prop) (w : World) : Prop :=
  (∀ b1 w2, Ext w w2 → w.heap.size ≤ b1 → b1 < w2.heap.size →
  (sh_graph_New CV m0_N m0_Arcs (fun p3 w4 =>
  (Keeps [b1] w2 w4 ∧
  (cond p3.isNone (K (-1 : Int) w4) (LoopT (Int × Int × Unit) (fun t6 again5 w7 =>
  (cond (decide (t6.2.1 < (m0_Arcs.len : Int))) (Idx m0_Arcs.a m0_Arcs.len t6.2.1 3 (fun a8 =>
  (∃ x9 : Int, w7.cell? (a8.add 0) = some (.int .i64 x9) ∧ ∃ x10 : Int, w7.cell? (a8.add 1) = some (.int .i64 x10) ∧ ∃ x11 : Int, w7.cell? (a8.add 2) = some (.int .i64 x11) ∧
  (∀ b12 w13, Ext w7 w13 → w7.heap.size ≤ b12 → b12 < w13.heap.size →
  (∀ w14, Off b12 w13 w14 →
  (again5 ((IntKind.i64.wrap (t6.1 + x11)), (IntKind.i64.wrap (t6.2.1 + (1 : Int))), ()) w14)))))) (K t6.1 w7))) ((0 : Int), (0 : Int), ()) w4)))) w2))

def fn_postroadlaw07_DistTurned : FuncId := 5
/-- postroad/postroadlaw07.DistTurned -/
def sh_postroadlaw07_DistTurned (CV : CVT) (n0 : Int) (arcs0 : SV) (a0 : Int) (K : Bool → World → Prop) (w : World) : Prop :=
  (sh_postroadref07_Of n0 arcs0 (fun x1 s2 w3 =>
  (∀ b4 w5, Ext w3 w5 → w3.heap.size ≤ b4 → b4 < w5.heap.size →
  (∀ w6, Off b4 w5 w6 →
  (∀ b7 w8, Ext w6 w8 → w6.heap.size ≤ b7 → b7 < w8.heap.size →
  (∀ w9, Off b7 w8 w9 →
  (Join ((Int × SV × Unit) × Unit) (fun J10 =>
  (LoopT (Int × (Int × SV × Unit) × Unit) (fun t12 again11 w13 =>
  (cond (decide (t12.1 < (s2.len : Int))) (Idx s2.a s2.len t12.1 3 (fun a14 =>
  (∃ x15 : Int, w13.cell? (a14.add 1) = some (.int .i64 x15) ∧
  (Idx s2.a s2.len t12.1 3 (fun a16 =>
  (∃ x17 : Int, w13.cell? (a16.add 0) = some (.int .i64 x17) ∧
  (Idx s2.a s2.len t12.1 3 (fun a18 =>
  (∃ x19 : Int, w13.cell? (a18.add 2) = some (.int .i64 x19) ∧
  (∀ w20, Ext w13 w20 →
  (NewB [(.int .i64 x15), (.int .i64 x17), (.int .i64 x19)] w20 (fun b21 w22 =>
  (∀ w23, Ext w22 w23 →
  (App 24 [(.int .i64 (0 : Int)), (.int .i64 (0 : Int)), (.int .i64 (0 : Int))] t12.2.1.2.1 ⟨(some ⟨b21, 0, none⟩), 1, 1⟩ w23 (fun s24 w25 =>
  (Keeps [b7, b4] w23 w25 ∧
  (∀ w26, Ext w25 w26 →
  (∀ w27, Off b7 w26 w27 →
  (∀ w28, Ext w27 w28 →
  (again11 ((IntKind.i64.wrap (t12.1 + (1 : Int))), (t12.2.1.1, s24, ()), ()) w28)))))))))))))))))))) (J10 ((t12.2.1.1, t12.2.1.2.1, ()), ()) w13))) ((0 : Int), (x1, ⟨none, 0, 0⟩, ()), ()) w9))
  (fun t29 w30 =>
  (if x1 = 0 then False else (sh_graph_New CV x1 s2 (fun p31 w32 =>
  (Keeps [b7, b4] w30 w32 ∧
  (sh_dist_From CV p31 ((IntKind.i64.wrap (a0)).tmod x1) (fun s33 w34 =>
  (Keeps [b7, b4] w32 w34 ∧
  (cond ((s33.len : Int) == x1) (∀ w36, Ext w34 w36 →
  (sh_graph_New CV t29.1.1 t29.1.2.1 (fun p35 w37 =>
  (Keeps [b7, b4] w36 w37 ∧
  (∀ w39, Ext w37 w39 →
  (sh_dist_To CV p35 ((IntKind.i64.wrap (a0)).tmod x1) (fun s38 w40 =>
  (Keeps [b7, b4] w39 w40 ∧
  (Quiet (Bool) (fun r42 =>
  (.bool r42)) (fun K43 w44' => sh_postroadref00_SameInts s33 s38 (fun t41 w44 => K43 t41 w44) w44') w40 (fun r42 =>
  (cond r42 (∀ w46, Ext w40 w46 →
  (sh_dist_Total CV x1 s2 (fun x45 w47 =>
  (Keeps [b7, b4] w46 w47 ∧
  (∀ w49, Ext w47 w49 →
  (sh_dist_Total CV t29.1.1 t29.1.2.1 (fun x48 w50 =>
  (Keeps [b7, b4] w49 w50 ∧
  (cond (x45 == x48) (∀ w52, Ext w50 w52 →
  (sh_postroadlaw07_known CV (fun t51 w53 =>
  (Keeps [b7, b4] w52 w53 ∧
  (∀ w54, Ext w53 w54 →
  (K t51 w54)))) w52)) (∀ w55, Ext w50 w55 →
  (K false w55))))) w49)))) w46)) (∀ w56, Ext w40 w56 →
  (K false w56))))))) w39)))) w36)) (∀ w57, Ext w34 w57 →
  (K false w57))))) w32))) w30))))))))) w)

def fn_dist_Between : FuncId := 18
/-- postroad/dist.Between -/
def sh_dist_Between (CV : CVT) (g0 : Option Addr) (s0 : Int) (t0 : Int) (K : Int → World → Prop) (w : World) : Prop :=
  (sh_dist_From CV g0 s0 (fun s1 w2 =>
  (cond (decide (t0 < (0 : Int))) (K (-1 : Int) w2) (cond (decide (t0 ≥ (s1.len : Int))) (K (-1 : Int) w2) (Idx s1.a s1.len t0 1 (fun a3 =>
  (∃ x4 : Int, w2.cell? a3 = some (.int .i64 x4) ∧
  (K x4 w2))))))) w)

def fn_postroadlaw07_DistBy : FuncId := 6
/-- postroad/postroadlaw07.DistBy -/
def sh_postroadlaw07_DistBy (CV : CVT) (n0 : Int) (arcs0 : SV) (a0 : Int) (b0 : Int) (c0 : Int) (K : Bool → World → Prop) (w : World) : Prop :=
  (sh_postroadref07_Of n0 arcs0 (fun x1 s2 w3 =>
  (∀ b4 w5, Ext w3 w5 → w3.heap.size ≤ b4 → b4 < w5.heap.size →
  (∀ w6, Off b4 w5 w6 →
  (sh_graph_New CV x1 s2 (fun p7 w8 =>
  (Keeps [b4] w6 w8 ∧
  (if x1 = 0 then False else (if x1 = 0 then False else (if x1 = 0 then False else (sh_dist_Between CV p7 ((IntKind.i64.wrap (a0)).tmod x1) ((IntKind.i64.wrap (b0)).tmod x1) (fun x9 w10 =>
  (Keeps [b4] w8 w10 ∧
  (sh_dist_Between CV p7 ((IntKind.i64.wrap (b0)).tmod x1) ((IntKind.i64.wrap (c0)).tmod x1) (fun x11 w12 =>
  (Keeps [b4] w10 w12 ∧
  (sh_dist_Between CV p7 ((IntKind.i64.wrap (a0)).tmod x1) ((IntKind.i64.wrap (c0)).tmod x1) (fun x13 w14 =>
  (Keeps [b4] w12 w14 ∧
  (Join (Unit) (fun J15 =>
  (cond (decide (x9 ≥ (0 : Int))) (cond (decide (x11 ≥ (0 : Int))) (cond (decide (x13 < (0 : Int))) (K false w14) (cond (decide (x13 > (IntKind.i64.wrap (x9 + x11)))) (K false w14) (sh_dist_Between CV p7 ((IntKind.i64.wrap (a0)).tmod x1) ((IntKind.i64.wrap (a0)).tmod x1) (fun x16 w17 =>
  (Keeps [b4] w14 w17 ∧
  (cond (x16 != (0 : Int)) (K false w17) (sh_dist_Total CV x1 s2 (fun x18 w19 =>
  (Keeps [b4] w17 w19 ∧
  (cond (decide (x9 > x18)) (K false w19) (J15 () w19)))) w17)))) w14))) (sh_dist_Between CV p7 ((IntKind.i64.wrap (a0)).tmod x1) ((IntKind.i64.wrap (a0)).tmod x1) (fun x20 w21 =>
  (Keeps [b4] w14 w21 ∧
  (cond (x20 != (0 : Int)) (K false w21) (sh_dist_Total CV x1 s2 (fun x22 w23 =>
  (Keeps [b4] w21 w23 ∧
  (cond (decide (x9 > x22)) (K false w23) (J15 () w23)))) w21)))) w14)) (sh_dist_Between CV p7 ((IntKind.i64.wrap (a0)).tmod x1) ((IntKind.i64.wrap (a0)).tmod x1) (fun x24 w25 =>
  (Keeps [b4] w14 w25 ∧
  (cond (x24 != (0 : Int)) (K false w25) (sh_dist_Total CV x1 s2 (fun x26 w27 =>
  (Keeps [b4] w25 w27 ∧
  (cond (decide (x9 > x26)) (K false w27) (J15 () w27)))) w25)))) w14)))
  (fun t28 w29 =>
  (sh_graph_Graph_Out p7 ((IntKind.i64.wrap (a0)).tmod x1) (fun s30 w31 =>
  (Keeps [b4] w29 w31 ∧
  (Join (Unit) (fun J32 =>
  (LoopT (Int × Unit) (fun t34 again33 w35 =>
  (cond (decide (t34.1 < (s30.len : Int))) (Idx s30.a s30.len t34.1 3 (fun a36 =>
  (∃ x37 : Int, w35.cell? (a36.add 0) = some (.int .i64 x37) ∧
  (sh_dist_Between CV p7 ((IntKind.i64.wrap (a0)).tmod x1) x37 (fun x38 w39 =>
  (Keeps [b4] w35 w39 ∧
  (cond (decide (x38 < (0 : Int))) (K false w39) (Idx s30.a s30.len t34.1 3 (fun a40 =>
  (∃ x41 : Int, w39.cell? (a40.add 1) = some (.int .i64 x41) ∧
  (cond (decide (x38 > x41)) (K false w39) (again33 ((IntKind.i64.wrap (t34.1 + (1 : Int))), ()) w39)))))))) w35)))) (J32 () w35))) ((0 : Int), ()) w31))
  (fun t42 w43 =>
  (sh_postroadlaw07_known CV (fun t44 w45 =>
  (Keeps [b4] w43 w45 ∧
  (K t44 w45))) w43))))) w29))))) w12))) w10))) w8)))))) w6)))) w)

def fn_postroadref06_Small : FuncId := 20
/-- postroad/postroadref06.Small -/
def sh_postroadref06_Small (m0_N : Int) (m0_Arcs : SV) (n0 : Int) (arcs0 : Int) (K : Bool → World → Prop) (w : World) : Prop :=
  (∀ b1 w2, Ext w w2 → w.heap.size ≤ b1 → b1 < w2.heap.size →
  (cond (decide ((m0_Arcs.len : Int) ≤ arcs0)) (cond (decide (m0_N ≤ n0)) (K true w2) (K (decide (m0_N > (16777216 : Int))) w2)) (K false w2)))

def fn_dist_Walk : FuncId := 21
/-- postroad/dist.Walk -/
def sh_dist_Walk (CV : CVT) (m0_N : Int) (m0_Arcs : SV) (s0 : Int) (arcs0 : SV) (K : Int → Int → Bool → World → Prop) (w : World) : Prop :=
  (∀ b1 w2, Ext w w2 → w.heap.size ≤ b1 → b1 < w2.heap.size →
  (sh_graph_New CV m0_N m0_Arcs (fun p3 w4 =>
  (Keeps [b1] w2 w4 ∧
  (cond p3.isNone (K (0 : Int) (0 : Int) false w4) (cond (decide (s0 < (0 : Int))) (K (0 : Int) (0 : Int) false w4) (cond (decide (s0 ≥ m0_N)) (K (0 : Int) (0 : Int) false w4) (Join (Int × Int × Unit) (fun J5 =>
  (LoopT (Int × Int × Int × Unit) (fun t7 again6 w8 =>
  (cond (decide (t7.2.2.1 < (arcs0.len : Int))) (Idx arcs0.a arcs0.len t7.2.2.1 1 (fun a9 =>
  (∃ x10 : Int, w8.cell? a9 = some (.int .i64 x10) ∧
  (cond (decide (x10 < (0 : Int))) (K (0 : Int) (0 : Int) false w8) (cond (decide (x10 ≥ (m0_Arcs.len : Int))) (K (0 : Int) (0 : Int) false w8) (Idx m0_Arcs.a m0_Arcs.len x10 3 (fun a11 =>
  (∃ x12 : Int, w8.cell? (a11.add 0) = some (.int .i64 x12) ∧
  (cond (x12 != t7.1) (K (0 : Int) (0 : Int) false w8) (Idx m0_Arcs.a m0_Arcs.len x10 3 (fun a13 =>
  (∃ x14 : Int, w8.cell? (a13.add 1) = some (.int .i64 x14) ∧
  (Idx m0_Arcs.a m0_Arcs.len x10 3 (fun a15 =>
  (∃ x16 : Int, w8.cell? (a15.add 2) = some (.int .i64 x16) ∧
  (∀ w17, Ext w8 w17 →
  (again6 (x14, (IntKind.i64.wrap (t7.2.1 + x16)), (IntKind.i64.wrap (t7.2.2.1 + (1 : Int))), ()) w17))))))))))))))))) (J5 (t7.1, t7.2.1, ()) w8))) (s0, (0 : Int), (0 : Int), ()) w4))
  (fun t18 w19 =>
  (K t18.1 t18.2.1 true w19)))))))) w2))

def fn_postroadref05_Check : FuncId := 45
/-- postroad/postroadref05.Check -/
def sh_postroadref05_Check (m0_N : Int) (m0_Arcs : SV) (K : Int → World → Prop) (w : World) : Prop :=
  (∀ b1 w2, Ext w w2 → w.heap.size ≤ b1 → b1 < w2.heap.size →
  (cond (decide (m0_N > (16777216 : Int))) (K (3 : Int) w2) (cond (decide ((m0_Arcs.len : Int) > (67108864 : Int))) (K (3 : Int) w2) (cond (decide (m0_N < (0 : Int))) (K (2 : Int) w2) (LoopT (Int × Unit) (fun t4 again3 w5 =>
  (cond (decide (t4.1 < (m0_Arcs.len : Int))) (Idx m0_Arcs.a m0_Arcs.len t4.1 3 (fun a6 =>
  (∃ x7 : Int, w5.cell? (a6.add 0) = some (.int .i64 x7) ∧ ∃ x8 : Int, w5.cell? (a6.add 1) = some (.int .i64 x8) ∧ ∃ x9 : Int, w5.cell? (a6.add 2) = some (.int .i64 x9) ∧
  (∀ b10 w11, Ext w5 w11 → w5.heap.size ≤ b10 → b10 < w11.heap.size →
  (∀ w12, Off b10 w11 w12 →
  (cond (decide (x7 < (0 : Int))) (K (2 : Int) w12) (cond (decide (x7 ≥ m0_N)) (K (2 : Int) w12) (cond (decide (x8 < (0 : Int))) (K (2 : Int) w12) (cond (decide (x8 ≥ m0_N)) (K (2 : Int) w12) (cond (decide (x9 < (0 : Int))) (K (2 : Int) w12) (cond (decide (x9 > (2147483648 : Int))) (K (2 : Int) w12) (again3 ((IntKind.i64.wrap (t4.1 + (1 : Int))), ()) w12)))))))))))) (K (0 : Int) w5))) ((0 : Int), ()) w2)))))

def fn_postroadref07_Walk : FuncId := 22
/-- postroad/postroadref07.Walk -/
def sh_postroadref07_Walk (m0_N : Int) (m0_Arcs : SV) (s0 : Int) (arcs0 : SV) (K : Int → Int → Bool → World → Prop) (w : World) : Prop :=
  (∀ b1 w2, Ext w w2 → w.heap.size ≤ b1 → b1 < w2.heap.size →
  (sh_postroadref05_Check m0_N m0_Arcs (fun x3 w4 =>
  (Keeps [b1] w2 w4 ∧
  (cond (x3 != (0 : Int)) (K (0 : Int) (0 : Int) false w4) (cond (decide (s0 < (0 : Int))) (K (0 : Int) (0 : Int) false w4) (cond (decide (s0 ≥ m0_N)) (K (0 : Int) (0 : Int) false w4) (Join (Int × Int × Unit) (fun J5 =>
  (LoopT (Int × Int × Int × Unit) (fun t7 again6 w8 =>
  (cond (decide (t7.2.2.1 < (arcs0.len : Int))) (Idx arcs0.a arcs0.len t7.2.2.1 1 (fun a9 =>
  (∃ x10 : Int, w8.cell? a9 = some (.int .i64 x10) ∧
  (cond (decide (x10 < (0 : Int))) (K (0 : Int) (0 : Int) false w8) (cond (decide (x10 ≥ (m0_Arcs.len : Int))) (K (0 : Int) (0 : Int) false w8) (Idx m0_Arcs.a m0_Arcs.len x10 3 (fun a11 =>
  (∃ x12 : Int, w8.cell? (a11.add 0) = some (.int .i64 x12) ∧
  (cond (x12 != t7.1) (K (0 : Int) (0 : Int) false w8) (Idx m0_Arcs.a m0_Arcs.len x10 3 (fun a13 =>
  (∃ x14 : Int, w8.cell? (a13.add 2) = some (.int .i64 x14) ∧
  (Idx m0_Arcs.a m0_Arcs.len x10 3 (fun a15 =>
  (∃ x16 : Int, w8.cell? (a15.add 1) = some (.int .i64 x16) ∧
  (again6 (x16, (IntKind.i64.wrap (t7.2.1 + x14)), (IntKind.i64.wrap (t7.2.2.1 + (1 : Int))), ()) w8)))))))))))))))) (J5 (t7.1, t7.2.1, ()) w8))) (s0, (0 : Int), (0 : Int), ()) w4))
  (fun t17 w18 =>
  (K t17.1 t17.2.1 true w18)))))))) w2))

def fn_postroadlaw07_DistWalks : FuncId := 7
/-- postroad/postroadlaw07.DistWalks -/
def sh_postroadlaw07_DistWalks (CV : CVT) (m0_N : Int) (m0_Arcs : SV) (s0 : Int) (arcs0 : SV) (K : Bool → World → Prop) (w : World) : Prop :=
  (∀ b1 w2, Ext w w2 → w.heap.size ≤ b1 → b1 < w2.heap.size →
  (sh_postroadref06_Small m0_N m0_Arcs (30 : Int) (80 : Int) (fun t3 w4 =>
  (Keeps [b1] w2 w4 ∧
  (cond (!t3) (sh_postroadlaw07_known CV (fun t5 w6 =>
  (Keeps [b1] w4 w6 ∧
  (K t5 w6))) w4) (cond (decide ((arcs0.len : Int) > (100 : Int))) (sh_postroadlaw07_known CV (fun t7 w8 =>
  (Keeps [b1] w4 w8 ∧
  (K t7 w8))) w4) (sh_dist_Walk CV m0_N m0_Arcs s0 arcs0 (fun x9 x10 t11 w12 =>
  (Keeps [b1] w4 w12 ∧
  (sh_postroadref07_Walk m0_N m0_Arcs s0 arcs0 (fun x13 x14 t15 w16 =>
  (Keeps [b1] w12 w16 ∧
  (cond (x9 != x13) (K false w16) (cond (x10 != x14) (K false w16) (cond (!(t11 == t15)) (K false w16) (cond (!t11) (sh_postroadlaw07_known CV (fun t17 w18 =>
  (Keeps [b1] w16 w18 ∧
  (K t17 w18))) w16) (sh_graph_New CV m0_N m0_Arcs (fun p19 w20 =>
  (Keeps [b1] w16 w20 ∧
  (sh_dist_Between CV p19 s0 x9 (fun x21 w22 =>
  (Keeps [b1] w20 w22 ∧
  (cond (decide (x21 ≥ (0 : Int))) (cond (decide (x21 ≤ x10)) (sh_postroadlaw07_known CV (fun t23 w24 =>
  (Keeps [b1] w22 w24 ∧
  (K t23 w24))) w22) (K false w22)) (K false w22)))) w20))) w16))))))) w12))) w4))))) w2))

def fn_postroadref06_Right : FuncId := 46
/-- postroad/postroadref06.Right -/
def sh_postroadref06_Right (m0_N : Int) (m0_Arcs : SV) (n0 : Int) (arcs0 : Int) (K : Bool → World → Prop) (w : World) : Prop :=
  (∀ b1 w2, Ext w w2 → w.heap.size ≤ b1 → b1 < w2.heap.size →
  (sh_postroadref06_Small m0_N m0_Arcs n0 arcs0 (fun t3 w4 =>
  (Keeps [b1] w2 w4 ∧
  (cond t3 (sh_postroadref05_Check m0_N m0_Arcs (fun x5 w6 =>
  (Keeps [b1] w4 w6 ∧
  (K (x5 == (0 : Int)) w6))) w4) (K false w4)))) w2))

def fn_postroadref07_Right : FuncId := 23
/-- postroad/postroadref07.Right -/
def sh_postroadref07_Right (m0_N : Int) (m0_Arcs : SV) (n0 : Int) (arcs0 : Int) (K : Bool → World → Prop) (w : World) : Prop :=
  (∀ b1 w2, Ext w w2 → w.heap.size ≤ b1 → b1 < w2.heap.size → (sh_postroadref06_Right m0_N m0_Arcs n0 arcs0 (fun t3 w4 => (Keeps [b1] w2 w4 ∧ (K t3 w4))) w2))

def fn_dist_Around : FuncId := 24
/-- postroad/dist.Around -/
def sh_dist_Around (CV : CVT) (g0 : Option Addr) (s0 : Int) (most0 : Int) (K : SV → World → Prop) (w : World) : Prop :=
  (sh_dist_From CV g0 s0 (fun s1 w2 =>
  (LoopT (SV × Int × Unit) (fun t4 again3 w5 =>
  (cond (decide (t4.2.1 < (s1.len : Int))) (Idx s1.a s1.len t4.2.1 1 (fun a6 =>
  (∃ x7 : Int, w5.cell? a6 = some (.int .i64 x7) ∧
  (cond (x7 != (-1 : Int)) (cond (decide (x7 ≤ most0)) (NewB [(.int .i64 t4.2.1)] w5 (fun b8 w9 =>
  (App 8 [(.int .i64 (0 : Int))] t4.1 ⟨(some ⟨b8, 0, none⟩), 1, 1⟩ w9 (fun s10 w11 =>
  (again3 (s10, (IntKind.i64.wrap (t4.2.1 + (1 : Int))), ()) w11))))) (again3 (t4.1, (IntKind.i64.wrap (t4.2.1 + (1 : Int))), ()) w5)) (again3 (t4.1, (IntKind.i64.wrap (t4.2.1 + (1 : Int))), ()) w5))))) (K t4.1 w5))) (⟨none, 0, 0⟩, (0 : Int), ()) w2)) w)

def fn_postroadlaw07_DistJoins : FuncId := 8
/-- postroad/postroadlaw07.DistJoins -/
def sh_postroadlaw07_DistJoins (CV : CVT) (m0_N : Int) (m0_Arcs : SV) (s0 : Int) (a0 : SV) (b0 : SV) (most0 : Int) (K : Bool → World → Prop) (w : World) : Prop :=
  (∀ b1 w2, Ext w w2 → w.heap.size ≤ b1 → b1 < w2.heap.size →
  (sh_postroadref07_Right m0_N m0_Arcs (30 : Int) (80 : Int) (fun t3 w4 =>
  (Keeps [b1] w2 w4 ∧
  (cond (!t3) (sh_postroadlaw07_known CV (fun t5 w6 =>
  (Keeps [b1] w4 w6 ∧
  (K t5 w6))) w4) (cond (decide ((IntKind.i64.wrap ((a0.len : Int) + (b0.len : Int))) > (100 : Int))) (sh_postroadlaw07_known CV (fun t7 w8 =>
  (Keeps [b1] w4 w8 ∧
  (K t7 w8))) w4) (sh_dist_Walk CV m0_N m0_Arcs s0 a0 (fun x9 x10 t11 w12 =>
  (Keeps [b1] w4 w12 ∧
  (sh_dist_Walk CV m0_N m0_Arcs x9 b0 (fun x13 x14 t15 w16 =>
  (Keeps [b1] w12 w16 ∧
  (App 8 [(.int .i64 (0 : Int))] ⟨none, 0, 0⟩ a0 w16 (fun s17 w18 =>
  (Keeps [b1] w16 w18 ∧
  (App 8 [(.int .i64 (0 : Int))] s17 b0 w18 (fun s19 w20 =>
  (Keeps [b1] w18 w20 ∧
  (sh_dist_Walk CV m0_N m0_Arcs s0 s19 (fun x21 x22 t23 w24 =>
  (Keeps [b1] w20 w24 ∧
  (Join (Unit) (fun J25 =>
  (cond t11 (cond (!(t23 == t15)) (K false w24) (cond t11 (cond t15 (cond (x21 != x13) (K false w24) (cond (x22 != (IntKind.i64.wrap (x10 + x14))) (K false w24) (cond (!t11) (cond t23 (K false w24) (J25 () w24)) (J25 () w24)))) (cond (!t11) (cond t23 (K false w24) (J25 () w24)) (J25 () w24))) (cond (!t11) (cond t23 (K false w24) (J25 () w24)) (J25 () w24)))) (cond t11 (cond t15 (cond (x21 != x13) (K false w24) (cond (x22 != (IntKind.i64.wrap (x10 + x14))) (K false w24) (cond (!t11) (cond t23 (K false w24) (J25 () w24)) (J25 () w24)))) (cond (!t11) (cond t23 (K false w24) (J25 () w24)) (J25 () w24))) (cond (!t11) (cond t23 (K false w24) (J25 () w24)) (J25 () w24)))))
  (fun t26 w27 =>
  (sh_graph_New CV m0_N m0_Arcs (fun p28 w29 =>
  (Keeps [b1] w27 w29 ∧
  (sh_dist_Around CV p28 s0 (IntKind.i64.wrap (most0)) (fun s30 w31 =>
  (Keeps [b1] w29 w31 ∧
  (sh_dist_Around CV p28 s0 (IntKind.i64.wrap ((IntKind.i64.wrap (most0)) + (1 : Int))) (fun s32 w33 =>
  (Keeps [b1] w31 w33 ∧
  (Join (Int × Unit) (fun J34 =>
  (LoopT (Int × Int × Unit) (fun t36 again35 w37 =>
  (cond (decide (t36.2.1 < (s32.len : Int))) (Join (Int × Unit) (fun J38 =>
  (cond (decide (t36.1 < (s30.len : Int))) (Idx s30.a s30.len t36.1 1 (fun a39 =>
  (∃ x40 : Int, w37.cell? a39 = some (.int .i64 x40) ∧
  (Idx s32.a s32.len t36.2.1 1 (fun a41 =>
  (∃ x42 : Int, w37.cell? a41 = some (.int .i64 x42) ∧
  (∀ w43, Ext w37 w43 →
  (cond (x40 == x42) (J38 ((IntKind.i64.wrap (t36.1 + (1 : Int))), ()) w43) (J38 (t36.1, ()) w43))))))))) (∀ w44, Ext w37 w44 →
  (J38 (t36.1, ()) w44))))
  (fun t45 w46 =>
  (again35 (t45.1, (IntKind.i64.wrap (t36.2.1 + (1 : Int))), ()) w46))) (J34 (t36.1, ()) w37))) ((0 : Int), (0 : Int), ()) w33))
  (fun t47 w48 =>
  (cond (t47.1 == (s30.len : Int)) (sh_postroadlaw07_known CV (fun t49 w50 =>
  (Keeps [b1] w48 w50 ∧
  (K t49 w50))) w48) (K false w48)))))) w31))) w29))) w27))))) w20))))))))) w12))) w4))))) w2))

def fn_postroadref07_All : FuncId := 25
/-- postroad/postroadref07.All -/
def sh_postroadref07_All (m0_N : Int) (m0_Arcs : SV) (K : SV → World → Prop) (w : World) : Prop :=
  (∀ b1 w2, Ext w w2 → w.heap.size ≤ b1 → b1 < w2.heap.size →
  (LoopT (SV × Int × Unit) (fun t4 again3 w5 =>
  (cond (decide (t4.2.1 < m0_N)) (Join (SV × Unit) (fun J6 =>
  (MkS 8 [(.int .i64 (0 : Int))] m0_N m0_N w5 (fun s7 w8 =>
  (Join (Unit) (fun J9 =>
  (LoopT (Int × Unit) (fun t11 again10 w12 =>
  (cond (decide (t11.1 < m0_N)) (Idx s7.a s7.len t11.1 1 (fun a13 =>
  (stL w12 a13 [(.int .i64 (-1 : Int))] 0 (fun w14 =>
  (Keeps [b1] w12 w14 ∧
  (again10 ((IntKind.i64.wrap (t11.1 + (1 : Int))), ()) w14)))))) (J9 () w12))) ((0 : Int), ()) w8))
  (fun t15 w16 =>
  (Idx s7.a s7.len t4.2.1 1 (fun a17 =>
  (stL w16 a17 [(.int .i64 (0 : Int))] 0 (fun w18 =>
  (Keeps [b1] w16 w18 ∧
  (Join (Unit) (fun J19 =>
  (LoopT (Bool × Unit) (fun t21 again20 w22 =>
  (cond t21.1 (LoopT (Bool × Int × Unit) (fun t24 again23 w25 =>
  (cond (decide (t24.2.1 < (m0_Arcs.len : Int))) (Join (Bool × Unit) (fun J26 =>
  (Idx m0_Arcs.a m0_Arcs.len t24.2.1 3 (fun a27 =>
  (∃ x28 : Int, w25.cell? (a27.add 0) = some (.int .i64 x28) ∧ ∃ x29 : Int, w25.cell? (a27.add 1) = some (.int .i64 x29) ∧ ∃ x30 : Int, w25.cell? (a27.add 2) = some (.int .i64 x30) ∧
  (∀ b31 w32, Ext w25 w32 → w25.heap.size ≤ b31 → b31 < w32.heap.size →
  (∀ w33, Off b31 w32 w33 →
  (Idx s7.a s7.len x28 1 (fun a34 =>
  (∃ x35 : Int, w33.cell? a34 = some (.int .i64 x35) ∧
  (cond (decide (x35 ≥ (0 : Int))) (Idx s7.a s7.len x29 1 (fun a36 =>
  (∃ x37 : Int, w33.cell? a36 = some (.int .i64 x37) ∧
  (cond (decide (x37 < (0 : Int))) (∀ w38, Ext w33 w38 →
  (Idx s7.a s7.len x28 1 (fun a39 =>
  (∃ x40 : Int, w38.cell? a39 = some (.int .i64 x40) ∧
  (Idx s7.a s7.len x29 1 (fun a41 =>
  (∀ w42, Ext w38 w42 →
  (stL w42 a41 [(.int .i64 (IntKind.i64.wrap (x40 + x30)))] 0 (fun w43 =>
  (Keeps [b31, b1] w42 w43 ∧
  (∀ w44, Ext w43 w44 →
  (J26 (true, ()) w44)))))))))))) (Idx s7.a s7.len x28 1 (fun a45 =>
  (∃ x46 : Int, w33.cell? a45 = some (.int .i64 x46) ∧
  (Idx s7.a s7.len x29 1 (fun a47 =>
  (∃ x48 : Int, w33.cell? a47 = some (.int .i64 x48) ∧
  (∀ w49, Ext w33 w49 →
  (cond (decide ((IntKind.i64.wrap (x46 + x30)) < x48)) (Idx s7.a s7.len x28 1 (fun a50 =>
  (∃ x51 : Int, w49.cell? a50 = some (.int .i64 x51) ∧
  (Idx s7.a s7.len x29 1 (fun a52 =>
  (∀ w53, Ext w49 w53 →
  (stL w53 a52 [(.int .i64 (IntKind.i64.wrap (x51 + x30)))] 0 (fun w54 =>
  (Keeps [b31, b1] w53 w54 ∧
  (∀ w55, Ext w54 w55 →
  (J26 (true, ()) w55))))))))))) (J26 (t24.1, ()) w49))))))))))))) (∀ w56, Ext w33 w56 →
  (J26 (t24.1, ()) w56))))))))))))
  (fun t57 w58 =>
  (again23 (t57.1, (IntKind.i64.wrap (t24.2.1 + (1 : Int))), ()) w58))) (again20 (t24.1, ()) w25))) (false, (0 : Int), ()) w22) (J19 () w22))) (true, ()) w18))
  (fun t59 w60 =>
  (NewB [(.slice s7.a s7.len s7.cap)] w60 (fun b61 w62 =>
  (App 24 [(.slice none 0 0)] t4.1 ⟨(some ⟨b61, 0, none⟩), 1, 1⟩ w62 (fun s63 w64 =>
  (Keeps [b1] w62 w64 ∧
  (J6 (s63, ()) w64))))))))))))))))))
  (fun t65 w66 =>
  (again3 (t65.1, (IntKind.i64.wrap (t4.2.1 + (1 : Int))), ()) w66))) (K t4.1 w5))) (⟨none, 0, 0⟩, (0 : Int), ()) w2))

def fn_postroadref07_From : FuncId := 26
/-- postroad/postroadref07.From -/
def sh_postroadref07_From (all0 : SV) (s0 : Int) (K : SV → World → Prop) (w : World) : Prop :=
  (cond (decide (s0 < (0 : Int))) (K ⟨none, 0, 0⟩ w) (cond (decide (s0 ≥ (all0.len : Int))) (K ⟨none, 0, 0⟩ w) (Idx all0.a all0.len s0 1 (fun a1 =>
  (∃ s2 : SV, w.cell? a1 = some (.slice s2.a s2.len s2.cap) ∧
  (K s2 w))))))

def fn_postroadref07_To : FuncId := 27
/-- postroad/postroadref07.To -/
def sh_postroadref07_To (all0 : SV) (t0 : Int) (K : SV → World → Prop) (w : World) : Prop :=
  (cond (decide (t0 < (0 : Int))) (K ⟨none, 0, 0⟩ w) (cond (decide (t0 ≥ (all0.len : Int))) (K ⟨none, 0, 0⟩ w) (LoopT (SV × Int × Unit) (fun t2 again1 w3 =>
  (cond (decide (t2.2.1 < (all0.len : Int))) (Idx all0.a all0.len t2.2.1 1 (fun a4 =>
  (∃ s5 : SV, w3.cell? a4 = some (.slice s5.a s5.len s5.cap) ∧
  (Idx s5.a s5.len t0 1 (fun a6 =>
  (∃ x7 : Int, w3.cell? a6 = some (.int .i64 x7) ∧
  (NewB [(.int .i64 x7)] w3 (fun b8 w9 =>
  (App 8 [(.int .i64 (0 : Int))] t2.1 ⟨(some ⟨b8, 0, none⟩), 1, 1⟩ w9 (fun s10 w11 =>
  (again1 (s10, (IntKind.i64.wrap (t2.2.1 + (1 : Int))), ()) w11))))))))))) (K t2.1 w3))) (⟨none, 0, 0⟩, (0 : Int), ()) w)))

def fn_postroadref07_Between : FuncId := 28
/-- postroad/postroadref07.Between -/
def sh_postroadref07_Between (all0 : SV) (s0 : Int) (t0 : Int) (K : Int → World → Prop) (w : World) : Prop :=
  (cond (decide (s0 < (0 : Int))) (K (-1 : Int) w) (cond (decide (s0 ≥ (all0.len : Int))) (K (-1 : Int) w) (cond (decide (t0 < (0 : Int))) (K (-1 : Int) w) (cond (decide (t0 ≥ (all0.len : Int))) (K (-1 : Int) w) (Idx all0.a all0.len s0 1 (fun a1 =>
  (∃ s2 : SV, w.cell? a1 = some (.slice s2.a s2.len s2.cap) ∧
  (Idx s2.a s2.len t0 1 (fun a3 =>
  (∃ x4 : Int, w.cell? a3 = some (.int .i64 x4) ∧
  (K x4 w)))))))))))

def fn_postroadref07_Around : FuncId := 29
/-- postroad/postroadref07.Around -/
def sh_postroadref07_Around (all0 : SV) (s0 : Int) (most0 : Int) (K : SV → World → Prop) (w : World) : Prop :=
  (sh_postroadref07_From all0 s0 (fun s1 w2 =>
  (LoopT (SV × Int × Unit) (fun t4 again3 w5 =>
  (cond (decide (t4.2.1 < (s1.len : Int))) (Join (SV × Unit) (fun J6 =>
  (Idx s1.a s1.len t4.2.1 1 (fun a7 =>
  (∃ x8 : Int, w5.cell? a7 = some (.int .i64 x8) ∧
  (cond (decide (x8 ≥ (0 : Int))) (Idx s1.a s1.len t4.2.1 1 (fun a9 =>
  (∃ x10 : Int, w5.cell? a9 = some (.int .i64 x10) ∧
  (cond (decide (x10 ≤ most0)) (NewB [(.int .i64 t4.2.1)] w5 (fun b11 w12 =>
  (App 8 [(.int .i64 (0 : Int))] t4.1 ⟨(some ⟨b11, 0, none⟩), 1, 1⟩ w12 (fun s13 w14 =>
  (J6 (s13, ()) w14))))) (J6 (t4.1, ()) w5))))) (J6 (t4.1, ()) w5))))))
  (fun t15 w16 =>
  (again3 (t15.1, (IntKind.i64.wrap (t4.2.1 + (1 : Int))), ()) w16))) (K t4.1 w5))) (⟨none, 0, 0⟩, (0 : Int), ()) w2)) w)

def fn_postroadref07_Total : FuncId := 30
/-- postroad/postroadref07.Total -/
def sh_postroadref07_Total (m0_N : Int) (m0_Arcs : SV) (K : Int → World → Prop) (w : World) : Prop :=
  (∀ b1 w2, Ext w w2 → w.heap.size ≤ b1 → b1 < w2.heap.size →
  (sh_postroadref05_Check m0_N m0_Arcs (fun x3 w4 =>
  (Keeps [b1] w2 w4 ∧
  (cond (x3 != (0 : Int)) (K (-1 : Int) w4) (LoopT (Int × Int × Unit) (fun t6 again5 w7 =>
  (cond (decide (t6.2.1 < (m0_Arcs.len : Int))) (Idx m0_Arcs.a m0_Arcs.len t6.2.1 3 (fun a8 =>
  (∃ x9 : Int, w7.cell? (a8.add 2) = some (.int .i64 x9) ∧
  (again5 ((IntKind.i64.wrap (t6.1 + x9)), (IntKind.i64.wrap (t6.2.1 + (1 : Int))), ()) w7)))) (K t6.1 w7))) ((0 : Int), (0 : Int), ()) w4)))) w2))

def fn_postroadlaw07_DistAll : FuncId := 9
/-- postroad/postroadlaw07.DistAll -/
def sh_postroadlaw07_DistAll (CV : CVT) (m0_N : Int) (m0_Arcs : SV) (s0 : Int) (t0 : Int) (most0 : Int) (K : Bool → World → Prop) (w : World) : Prop :=
  (∀ b1 w2, Ext w w2 → w.heap.size ≤ b1 → b1 < w2.heap.size →
  (sh_postroadref06_Small m0_N m0_Arcs (30 : Int) (80 : Int) (fun t3 w4 =>
  (Keeps [b1] w2 w4 ∧
  (cond (!t3) (sh_postroadlaw07_known CV (fun t5 w6 =>
  (Keeps [b1] w4 w6 ∧
  (K t5 w6))) w4) (sh_graph_New CV m0_N m0_Arcs (fun p7 w8 =>
  (Keeps [b1] w4 w8 ∧
  (sh_postroadref07_Right m0_N m0_Arcs (30 : Int) (80 : Int) (fun t9 w10 =>
  (Keeps [b1] w8 w10 ∧
  (cond (!t9) (cond p7.isNone (sh_dist_Between CV p7 s0 t0 (fun x11 w12 =>
  (Keeps [b1] w10 w12 ∧
  (cond (x11 == (-1 : Int)) (sh_dist_From CV p7 s0 (fun s13 w14 =>
  (Keeps [b1] w12 w14 ∧
  (cond ((s13.len : Int) == (0 : Int)) (sh_dist_Total CV m0_N m0_Arcs (fun x15 w16 =>
  (Keeps [b1] w14 w16 ∧
  (cond (x15 == (-1 : Int)) (sh_postroadlaw07_known CV (fun t17 w18 =>
  (Keeps [b1] w16 w18 ∧
  (K t17 w18))) w16) (K false w16)))) w14) (K false w14)))) w12) (K false w12)))) w10) (K false w10)) (sh_postroadref07_All m0_N m0_Arcs (fun s19 w20 =>
  (Keeps [b1] w10 w20 ∧
  (∀ w22, Ext w20 w22 →
  (sh_dist_From CV p7 s0 (fun s21 w23 =>
  (Keeps [b1] w22 w23 ∧
  (∀ w25, Ext w23 w25 →
  (sh_postroadref07_From s19 s0 (fun s24 w26 =>
  (Keeps [b1] w25 w26 ∧
  (Quiet (Bool) (fun r28 =>
  (.bool r28)) (fun K29 w30' => sh_postroadref00_SameInts s21 s24 (fun t27 w30 => K29 t27 w30) w30') w26 (fun r28 =>
  (cond r28 (∀ w32, Ext w26 w32 →
  (sh_dist_To CV p7 t0 (fun s31 w33 =>
  (Keeps [b1] w32 w33 ∧
  (∀ w35, Ext w33 w35 →
  (sh_postroadref07_To s19 t0 (fun s34 w36 =>
  (Keeps [b1] w35 w36 ∧
  (Quiet (Bool) (fun r38 =>
  (.bool r38)) (fun K39 w40' => sh_postroadref00_SameInts s31 s34 (fun t37 w40 => K39 t37 w40) w40') w36 (fun r38 =>
  (cond r38 (∀ w42, Ext w36 w42 →
  (sh_dist_Between CV p7 s0 t0 (fun x41 w43 =>
  (Keeps [b1] w42 w43 ∧
  (Quiet (Int) (fun r45 =>
  (.int .i64 r45)) (fun K46 w47' => sh_postroadref07_Between s19 s0 t0 (fun x44 w47 => K46 x44 w47) w47') w43 (fun r45 =>
  (cond (x41 == r45) (∀ w49, Ext w43 w49 →
  (sh_dist_Around CV p7 s0 most0 (fun s48 w50 =>
  (Keeps [b1] w49 w50 ∧
  (∀ w52, Ext w50 w52 →
  (sh_postroadref07_Around s19 s0 most0 (fun s51 w53 =>
  (Keeps [b1] w52 w53 ∧
  (Quiet (Bool) (fun r55 =>
  (.bool r55)) (fun K56 w57' => sh_postroadref00_SameInts s48 s51 (fun t54 w57 => K56 t54 w57) w57') w53 (fun r55 =>
  (cond r55 (∀ w59, Ext w53 w59 →
  (sh_dist_Total CV m0_N m0_Arcs (fun x58 w60 =>
  (Keeps [b1] w59 w60 ∧
  (Quiet (Int) (fun r62 =>
  (.int .i64 r62)) (fun K63 w64' => sh_postroadref07_Total m0_N m0_Arcs (fun x61 w64 => K63 x61 w64) w64') w60 (fun r62 =>
  (cond (x58 == r62) (∀ w66, Ext w60 w66 →
  (sh_postroadlaw07_known CV (fun t65 w67 =>
  (Keeps [b1] w66 w67 ∧
  (∀ w68, Ext w67 w68 →
  (K t65 w68)))) w66)) (∀ w69, Ext w60 w69 →
  (K false w69))))))) w59)) (∀ w70, Ext w53 w70 →
  (K false w70))))))) w52)))) w49)) (∀ w71, Ext w43 w71 →
  (K false w71))))))) w42)) (∀ w72, Ext w36 w72 →
  (K false w72))))))) w35)))) w32)) (∀ w73, Ext w26 w73 →
  (K false w73))))))) w25)))) w22)))) w10)))) w8))) w4)))) w2))
end Go.Sh
