/- AllDef, HeapMem, HeapPure, HeapWalk, HeapPut, HeapDrop, HeapApi, DistLeast, GraphPure, GraphMap, GraphSort, GraphWalk, GraphLay, GraphNew, GraphApi, GraphRef, GraphTurned, GraphLoops, GraphLeast, Contr, Contr2, DistPure, DistSum, DistApi, DistRef, UnPure, HierCheck, HierPut: merged into one text. -/
import Derived.Test.YtagidkbhehpeoaaP1
import Derived.Test.YtagidkbhehpeoaaP2
/- Shallow definitions, printed by gen.py of these sessions. -/
set_option maxRecDepth 100000
set_option linter.unusedVariables false
namespace Go.Sh
/-- postroad/postroadref10.At -/
def sh_postroadref10_At (h0_Rank : SV) (h0_Ways : SV) (rank0 : Int) (K : Int → World → Prop) (w : World) : Prop :=
  (∀ b1 w2, Ext w w2 → w.heap.size ≤ b1 → b1 < w2.heap.size →
  (LoopT (Int × Unit) (fun t4 again3 w5 =>
  (cond (decide (t4.1 < (h0_Rank.len : Int))) (Idx h0_Rank.a h0_Rank.len t4.1 1 (fun a6 =>
  (∃ x7 : Int, w5.cell? a6 = some (.int .i64 x7) ∧
  (cond (x7 == rank0) (K t4.1 w5) (again3 ((IntKind.i64.wrap (t4.1 + (1 : Int))), ()) w5))))) (K (-1 : Int) w5))) ((0 : Int), ()) w2))

/-- postroad/postroadref10.place -/
def sh_postroadref10_place (h0_Rank : SV) (h0_Ways : SV) (v0 : Int) (K : Bool → World → Prop) (w : World) : Prop :=
  (∀ b1 w2, Ext w w2 → w.heap.size ≤ b1 → b1 < w2.heap.size → (cond (decide (v0 ≥ (0 : Int))) (K (decide (v0 < (h0_Rank.len : Int))) w2) (K false w2)))

/-- postroad/postroadref10.Find -/
def sh_postroadref10_Find (h0_Rank : SV) (h0_Ways : SV) (u0 : Int) (v0 : Int) (K : Int → World → Prop) (w : World) : Prop :=
  (∀ b1 w2, Ext w w2 → w.heap.size ≤ b1 → b1 < w2.heap.size →
  (LoopT (Int × Unit) (fun t4 again3 w5 =>
  (cond (decide (t4.1 < (h0_Ways.len : Int))) (Join (Unit) (fun J6 =>
  (Idx h0_Ways.a h0_Ways.len t4.1 5 (fun a7 =>
  (∃ x8 : Int, w5.cell? (a7.add 0) = some (.int .i64 x8) ∧
  (cond (x8 == u0) (Idx h0_Ways.a h0_Ways.len t4.1 5 (fun a9 =>
  (∃ x10 : Int, w5.cell? (a9.add 1) = some (.int .i64 x10) ∧
  (cond (x10 == v0) (K t4.1 w5) (J6 () w5))))) (J6 () w5))))))
  (fun t11 w12 =>
  (again3 ((IntKind.i64.wrap (t4.1 + (1 : Int))), ()) w12))) (K (-1 : Int) w5))) ((0 : Int), ()) w2))

/-- postroad/postroadref10.right -/
def sh_postroadref10_right (h0_Rank : SV) (h0_Ways : SV) (i0 : Int) (K : Bool → World → Prop) (w : World) : Prop :=
  (∀ b1 w2, Ext w w2 → w.heap.size ≤ b1 → b1 < w2.heap.size →
  (Idx h0_Ways.a h0_Ways.len i0 5 (fun a3 =>
  (∃ x4 : Int, w2.cell? (a3.add 0) = some (.int .i64 x4) ∧ ∃ x5 : Int, w2.cell? (a3.add 1) = some (.int .i64 x5) ∧ ∃ x6 : Int, w2.cell? (a3.add 2) = some (.int .i64 x6) ∧ ∃ x7 : Int, w2.cell? (a3.add 3) = some (.int .i64 x7) ∧ ∃ x8 : Int, w2.cell? (a3.add 4) = some (.int .i64 x8) ∧
  (∀ b9 w10, Ext w2 w10 → w2.heap.size ≤ b9 → b9 < w10.heap.size →
  (∀ w11, Off b9 w10 w11 →
  (sh_postroadref10_place h0_Rank h0_Ways x4 (fun t12 w13 =>
  (Keeps [b9, b1] w11 w13 ∧
  (cond (!t12) (K false w13) (sh_postroadref10_place h0_Rank h0_Ways x5 (fun t14 w15 =>
  (Keeps [b9, b1] w13 w15 ∧
  (cond (!t14) (K false w15) (cond (x4 == x5) (K false w15) (cond (decide (x6 < (0 : Int))) (K false w15) (cond (decide (x6 > (1152921504606846976 : Int))) (K false w15) (sh_postroadref10_Find h0_Rank h0_Ways x4 x5 (fun x16 w17 =>
  (Keeps [b9, b1] w15 w17 ∧
  (cond (x16 != i0) (K false w17) (cond (x7 == (-1 : Int)) (cond (decide (x8 ≥ (0 : Int))) (K (decide (x8 < (67108864 : Int))) w17) (K false w17)) (cond (x8 != (-1 : Int)) (∀ w18, Ext w17 w18 →
  (K false w18)) (Quiet (Bool) (fun r20 =>
  (.bool r20)) (fun K21 w22' => sh_postroadref10_place h0_Rank h0_Ways x7 (fun t19 w22 => K21 t19 w22) w22') w17 (fun r20 =>
  (cond (!r20) (∀ w23, Ext w17 w23 →
  (K false w23)) (Idx h0_Rank.a h0_Rank.len x7 1 (fun a24 =>
  (∃ x25 : Int, w17.cell? a24 = some (.int .i64 x25) ∧
  (Idx h0_Rank.a h0_Rank.len x4 1 (fun a26 =>
  (∃ x27 : Int, w17.cell? a26 = some (.int .i64 x27) ∧
  (cond (decide (x25 ≥ x27)) (∀ w28, Ext w17 w28 →
  (K false w28)) (Idx h0_Rank.a h0_Rank.len x7 1 (fun a29 =>
  (∃ x30 : Int, w17.cell? a29 = some (.int .i64 x30) ∧
  (Idx h0_Rank.a h0_Rank.len x5 1 (fun a31 =>
  (∃ x32 : Int, w17.cell? a31 = some (.int .i64 x32) ∧
  (∀ w33, Ext w17 w33 →
  (cond (decide (x30 ≥ x32)) (K false w33) (sh_postroadref10_Find h0_Rank h0_Ways x4 x7 (fun x34 w35 =>
  (Keeps [b9, b1] w33 w35 ∧
  (sh_postroadref10_Find h0_Rank h0_Ways x7 x5 (fun x36 w37 =>
  (Keeps [b9, b1] w35 w37 ∧
  (cond (decide (x34 ≥ (0 : Int))) (cond (decide (x36 ≥ (0 : Int))) (Idx h0_Ways.a h0_Ways.len x34 5 (fun a38 =>
  (∃ x39 : Int, w37.cell? ((a38.add 2).add 0) = some (.int .i64 x39) ∧
  (Idx h0_Ways.a h0_Ways.len x36 5 (fun a40 =>
  (∃ x41 : Int, w37.cell? ((a40.add 2).add 0) = some (.int .i64 x41) ∧
  (∀ w42, Ext w37 w42 →
  (K ((IntKind.i64.wrap (x39 + x41)) == x6) w42)))))))) (∀ w43, Ext w37 w43 →
  (K false w43))) (∀ w44, Ext w37 w44 →
  (K false w44))))) w35))) w33)))))))))))))))))))))))) w15))))))) w13)))) w11)))))))

/-- postroad/postroadref10.Check -/
def sh_postroadref10_Check (h0_Rank : SV) (h0_Ways : SV) (K : Int → World → Prop) (w : World) : Prop :=
  (∀ b1 w2, Ext w w2 → w.heap.size ≤ b1 → b1 < w2.heap.size →
  (cond (decide ((h0_Rank.len : Int) > (16777216 : Int))) (K (3 : Int) w2) (cond (decide ((h0_Ways.len : Int) > (67108864 : Int))) (K (3 : Int) w2) (Join (Unit) (fun J3 =>
  (LoopT (Int × Unit) (fun t5 again4 w6 =>
  (cond (decide (t5.1 < (h0_Rank.len : Int))) (sh_postroadref10_At h0_Rank h0_Ways t5.1 (fun x7 w8 =>
  (Keeps [b1] w6 w8 ∧
  (cond (decide (x7 < (0 : Int))) (K (2 : Int) w8) (again4 ((IntKind.i64.wrap (t5.1 + (1 : Int))), ()) w8)))) w6) (J3 () w6))) ((0 : Int), ()) w2))
  (fun t9 w10 =>
  (LoopT (Int × Unit) (fun t12 again11 w13 =>
  (cond (decide (t12.1 < (h0_Ways.len : Int))) (sh_postroadref10_right h0_Rank h0_Ways t12.1 (fun t14 w15 =>
  (Keeps [b1] w13 w15 ∧
  (cond (!t14) (K (2 : Int) w15) (again11 ((IntKind.i64.wrap (t12.1 + (1 : Int))), ()) w15)))) w13) (K (0 : Int) w13))) ((0 : Int), ()) w10))))))

/-- postroad/postroadref11.Fit -/
def sh_postroadref11_Fit (h0_Rank : SV) (h0_Ways : SV) (K : Bool → World → Prop) (w : World) : Prop :=
  (∀ b1 w2, Ext w w2 → w.heap.size ≤ b1 → b1 < w2.heap.size →
  (cond (decide ((h0_Rank.len : Int) > (14 : Int))) (K false w2) (cond (decide ((h0_Ways.len : Int) > (80 : Int))) (K false w2) (sh_postroadref10_Check h0_Rank h0_Ways (fun x3 w4 =>
  (Keeps [b1] w2 w4 ∧
  (cond (x3 != (0 : Int)) (K false w4) (LoopT (Int × Unit) (fun t6 again5 w7 =>
  (cond (decide (t6.1 < (h0_Ways.len : Int))) (Idx h0_Ways.a h0_Ways.len t6.1 5 (fun a8 =>
  (∃ x9 : Int, w7.cell? ((a8.add 2).add 0) = some (.int .i64 x9) ∧
  (cond (decide (x9 > (1125899906842624 : Int))) (K false w7) (again5 ((IntKind.i64.wrap (t6.1 + (1 : Int))), ()) w7))))) (K true w7))) ((0 : Int), ()) w4)))) w2))))

/-- postroad/hier.placed -/
def sh_hier_placed (rank0 : SV) (K : SV → Bool → World → Prop) (w : World) : Prop :=
  (MkS 8 [(.int .i64 (0 : Int))] (rank0.len : Int) (rank0.len : Int) w (fun s1 w2 =>
  (Join (Unit) (fun J3 =>
  (LoopT (Int × Unit) (fun t5 again4 w6 =>
  (cond (decide (t5.1 < (s1.len : Int))) (Idx s1.a s1.len t5.1 1 (fun a7 =>
  (stL w6 a7 [(.int .i64 (-1 : Int))] 0 (fun w8 =>
  (again4 ((IntKind.i64.wrap (t5.1 + (1 : Int))), ()) w8))))) (J3 () w6))) ((0 : Int), ()) w2))
  (fun t9 w10 =>
  (Join (Unit) (fun J11 =>
  (LoopT (Int × Unit) (fun t13 again12 w14 =>
  (cond (decide (t13.1 < (rank0.len : Int))) (Idx rank0.a rank0.len t13.1 1 (fun a15 =>
  (∃ x16 : Int, w14.cell? a15 = some (.int .i64 x16) ∧
  (cond (decide (x16 < (0 : Int))) (K ⟨none, 0, 0⟩ false w14) (cond (decide (x16 ≥ (s1.len : Int))) (K ⟨none, 0, 0⟩ false w14) (Idx s1.a s1.len x16 1 (fun a17 =>
  (∃ x18 : Int, w14.cell? a17 = some (.int .i64 x18) ∧
  (cond (x18 != (-1 : Int)) (K ⟨none, 0, 0⟩ false w14) (Idx s1.a s1.len x16 1 (fun a19 =>
  (stL w14 a19 [(.int .i64 t13.1)] 0 (fun w20 =>
  (again12 ((IntKind.i64.wrap (t13.1 + (1 : Int))), ()) w20)))))))))))))) (J11 () w14))) ((0 : Int), ()) w10))
  (fun t21 w22 =>
  (K s1 true w22)))))))

/-- postroad/hier.found -/
def sh_hier_found (h0_Rank : SV) (h0_Ways : SV) (K : Option Nat → Bool → World → Prop) (w : World) : Prop :=
  (∀ b1 w2, Ext w w2 → w.heap.size ≤ b1 → b1 < w2.heap.size →
  (MkM w2 (fun m3 w4 =>
  (Join (Unit) (fun J5 =>
  (LoopT (Int × Unit) (fun t7 again6 w8 =>
  (cond (decide (t7.1 < (h0_Ways.len : Int))) (Idx h0_Ways.a h0_Ways.len t7.1 5 (fun a9 =>
  (∃ x10 : Int, w8.cell? (a9.add 0) = some (.int .i64 x10) ∧ ∃ x11 : Int, w8.cell? (a9.add 1) = some (.int .i64 x11) ∧ ∃ x12 : Int, w8.cell? (a9.add 2) = some (.int .i64 x12) ∧ ∃ x13 : Int, w8.cell? (a9.add 3) = some (.int .i64 x13) ∧ ∃ x14 : Int, w8.cell? (a9.add 4) = some (.int .i64 x14) ∧
  (∀ b15 w16, Ext w8 w16 → w8.heap.size ≤ b15 → b15 < w16.heap.size →
  (∀ w17, Off b15 w16 w17 →
  (Join (Unit) (fun J18 =>
  (∃ mm19, MapR true 2 w17 m3 mm19 ∧ ∃ x20 : Int, (assoc mm19 [x10, x11]).getD (.int .i64 (0 : Int)) = (.int .i64 x20) ∧
  (cond ((assoc mm19 [x10, x11]).isSome) (cond ((assoc mm19 [x10, x11]).isSome) (K none false w17) (J18 () w17)) (cond (x10 == x11) (cond (x10 == x11) (K none false w17) (J18 () w17)) (cond (decide ((if x12 < (if x11 < x10 then x11 else x10) then x12 else (if x11 < x10 then x11 else x10)) < (0 : Int))) (cond (decide ((if x12 < (if x11 < x10 then x11 else x10) then x12 else (if x11 < x10 then x11 else x10)) < (0 : Int))) (K none false w17) (J18 () w17)) (cond (decide ((if x11 > x10 then x11 else x10) ≥ (h0_Rank.len : Int))) (cond (decide ((if x11 > x10 then x11 else x10) ≥ (h0_Rank.len : Int))) (K none false w17) (J18 () w17)) (cond (decide (x12 > (1152921504606846976 : Int))) (K none false w17) (J18 () w17))))))))
  (fun t21 w22 =>
  (MUp true m3 [x10, x11] (.int .i64 t7.1) w22 (fun w23 =>
  (Keeps [b15, b1] w22 w23 ∧
  (again6 ((IntKind.i64.wrap (t7.1 + (1 : Int))), ()) w23))))))))))) (J5 () w8))) ((0 : Int), ()) w4))
  (fun t24 w25 =>
  (K m3 true w25))))))

/-- postroad/hier.halves -/
def sh_hier_halves (h0_Rank : SV) (h0_Ways : SV) (find0 : Option Nat) (w_0_From : Int) (w_0_To : Int) (w_0_Way_W : Int) (w_0_Way_Mid : Int) (w_0_Way_Arc : Int) (K : Int → Int → Bool → World → Prop) (w : World) : Prop :=
  (∀ b1 w2, Ext w w2 → w.heap.size ≤ b1 → b1 < w2.heap.size →
  (∀ b3 w4, Ext w2 w4 → w2.heap.size ≤ b3 → b3 < w4.heap.size →
  (∃ mm5, MapR true 2 w4 find0 mm5 ∧ ∃ x6 : Int, (assoc mm5 [w_0_From, w_0_Way_Mid]).getD (.int .i64 (0 : Int)) = (.int .i64 x6) ∧
  (∃ mm7, MapR true 2 w4 find0 mm7 ∧ ∃ x8 : Int, (assoc mm7 [w_0_Way_Mid, w_0_To]).getD (.int .i64 (0 : Int)) = (.int .i64 x8) ∧
  (cond ((assoc mm5 [w_0_From, w_0_Way_Mid]).isSome) (K x6 x8 ((assoc mm7 [w_0_Way_Mid, w_0_To]).isSome) w4) (K x6 x8 false w4))))))

/-- postroad/hier.right -/
def sh_hier_right (h0_Rank : SV) (h0_Ways : SV) (find0 : Option Nat) (w_0_From : Int) (w_0_To : Int) (w_0_Way_W : Int) (w_0_Way_Mid : Int) (w_0_Way_Arc : Int) (K : Bool → World → Prop) (w : World) : Prop :=
  (∀ b1 w2, Ext w w2 → w.heap.size ≤ b1 → b1 < w2.heap.size →
  (∀ b3 w4, Ext w2 w4 → w2.heap.size ≤ b3 → b3 < w4.heap.size →
  (cond (w_0_Way_Mid == (-1 : Int)) (cond (decide (w_0_Way_Arc ≥ (0 : Int))) (K (decide (w_0_Way_Arc < (67108864 : Int))) w4) (K false w4)) (cond (w_0_Way_Arc != (-1 : Int)) (∀ w5, Ext w4 w5 →
  (K false w5)) (cond (decide (w_0_Way_Mid < (0 : Int))) (∀ w6, Ext w4 w6 →
  (K false w6)) (cond (decide (w_0_Way_Mid ≥ (h0_Rank.len : Int))) (∀ w7, Ext w4 w7 →
  (K false w7)) (Idx h0_Rank.a h0_Rank.len w_0_Way_Mid 1 (fun a8 =>
  (∃ x9 : Int, w4.cell? a8 = some (.int .i64 x9) ∧
  (Idx h0_Rank.a h0_Rank.len w_0_From 1 (fun a10 =>
  (∃ x11 : Int, w4.cell? a10 = some (.int .i64 x11) ∧
  (Idx h0_Rank.a h0_Rank.len w_0_To 1 (fun a12 =>
  (∃ x13 : Int, w4.cell? a12 = some (.int .i64 x13) ∧
  (∀ w14, Ext w4 w14 →
  (cond (decide (x9 ≥ (if x13 < x11 then x13 else x11))) (K false w14) (sh_hier_halves h0_Rank h0_Ways find0 w_0_From w_0_To w_0_Way_W w_0_Way_Mid w_0_Way_Arc (fun x15 x16 t17 w18 =>
  (Keeps [b3, b1] w14 w18 ∧
  (cond t17 (Idx h0_Ways.a h0_Ways.len x15 5 (fun a19 =>
  (∃ x20 : Int, w18.cell? ((a19.add 2).add 0) = some (.int .i64 x20) ∧
  (Idx h0_Ways.a h0_Ways.len x16 5 (fun a21 =>
  (∃ x22 : Int, w18.cell? ((a21.add 2).add 0) = some (.int .i64 x22) ∧
  (∀ w23, Ext w18 w23 →
  (K ((IntKind.i64.wrap (x20 + x22)) == w_0_Way_W) w23)))))))) (∀ w24, Ext w18 w24 →
  (K false w24))))) w14))))))))))))))))))

/-- postroad/hier.check -/
def sh_hier_check (h0_Rank : SV) (h0_Ways : SV) (K : Option Addr → Int → World → Prop) (w : World) : Prop :=
  (∀ b1 w2, Ext w w2 → w.heap.size ≤ b1 → b1 < w2.heap.size →
  (cond (decide ((h0_Rank.len : Int) > (16777216 : Int))) (K none (3 : Int) w2) (cond (decide ((h0_Ways.len : Int) > (67108864 : Int))) (K none (3 : Int) w2) (sh_hier_placed h0_Rank (fun s3 t4 w5 =>
  (Keeps [b1] w2 w5 ∧
  (sh_hier_found h0_Rank h0_Ways (fun m6 t7 w8 =>
  (Keeps [b1] w5 w8 ∧
  (cond (!t4) (K none (2 : Int) w8) (cond (!t7) (K none (2 : Int) w8) (Join (Unit) (fun J9 =>
  (LoopT (Int × Unit) (fun t11 again10 w12 =>
  (cond (decide (t11.1 < (h0_Ways.len : Int))) (Idx h0_Ways.a h0_Ways.len t11.1 5 (fun a13 =>
  (∃ x14 : Int, w12.cell? (a13.add 0) = some (.int .i64 x14) ∧ ∃ x15 : Int, w12.cell? (a13.add 1) = some (.int .i64 x15) ∧ ∃ x16 : Int, w12.cell? (a13.add 2) = some (.int .i64 x16) ∧ ∃ x17 : Int, w12.cell? (a13.add 3) = some (.int .i64 x17) ∧ ∃ x18 : Int, w12.cell? (a13.add 4) = some (.int .i64 x18) ∧
  (∀ b19 w20, Ext w12 w20 → w12.heap.size ≤ b19 → b19 < w20.heap.size →
  (∀ w21, Off b19 w20 w21 →
  (sh_hier_right h0_Rank h0_Ways m6 x14 x15 x16 x17 x18 (fun t22 w23 =>
  (Keeps [b19, b1] w21 w23 ∧
  (cond (!t22) (K none (2 : Int) w23) (again10 ((IntKind.i64.wrap (t11.1 + (1 : Int))), ()) w23)))) w21)))))) (J9 () w12))) ((0 : Int), ()) w8))
  (fun t24 w25 =>
  (∀ b26 w27, Ext w25 w27 → w25.heap.size ≤ b26 → b26 < w27.heap.size →
  (Blk w27 b26 [(.slice h0_Rank.a h0_Rank.len h0_Rank.cap), (.slice h0_Ways.a h0_Ways.len h0_Ways.cap), (.slice s3.a s3.len s3.cap), (.map m6), (.slice none 0 0), (.slice none 0 0)] →
  (K (some ⟨b26, 0, none⟩) (0 : Int) w27))))))))) w5))) w2))))

/-- postroad/hier.put -/
def sh_hier_put (l0 : SV) (e0_V : Int) (e0_W : Int) (e0_Arc : Int) (K : SV → World → Prop) (w : World) : Prop :=
  (∀ b1 w2, Ext w w2 → w.heap.size ≤ b1 → b1 < w2.heap.size →
  (Join (Int × Unit) (fun J3 =>
  (LoopT (Int × Unit) (fun t5 again4 w6 =>
  (cond (decide (t5.1 > (0 : Int))) (Idx l0.a l0.len (IntKind.i64.wrap (t5.1 - (1 : Int))) 3 (fun a7 =>
  (∃ x8 : Int, w6.cell? (a7.add 0) = some (.int .i64 x8) ∧
  (∀ w9, Ext w6 w9 →
  (cond (decide (x8 < e0_V)) (J3 (t5.1, ()) w9) (again4 ((IntKind.i64.wrap (t5.1 - (1 : Int))), ()) w9)))))) (J3 (t5.1, ()) w6))) ((l0.len : Int), ()) w2))
  (fun t10 w11 =>
  (NewB [(.int .i64 e0_V), (.int .i64 e0_W), (.int .i64 e0_Arc)] w11 (fun b12 w13 =>
  (App 24 [(.int .i64 (0 : Int)), (.int .i64 (0 : Int)), (.int .i64 (0 : Int))] l0 ⟨(some ⟨b12, 0, none⟩), 1, 1⟩ w13 (fun s14 w15 =>
  (Keeps [b1] w13 w15 ∧
  (semSlice 3 s14.a s14.len s14.cap (some (IntKind.i64.wrap (t10.1 + (1 : Int)))) none (fun s16 =>
  (semSlice 3 s14.a s14.len s14.cap (some t10.1) none (fun s17 =>
  (∀ w18, Ext w15 w18 →
  (Cpy 3 s16 s17 w18 (fun w19 =>
  (Keeps [b1] w18 w19 ∧
  (∀ w20, Ext w19 w20 →
  (Idx s14.a s14.len t10.1 3 (fun a21 =>
  (stL w20 a21 [(.int .i64 e0_V), (.int .i64 e0_W), (.int .i64 e0_Arc)] 0 (fun w22 =>
  (Keeps [b1] w20 w22 ∧
  (K s14 w22)))))))))))))))))))))))

/-- postroad/hier.New -/
def sh_hier_New (h0_Rank : SV) (h0_Ways : SV) (K : Option Addr → World → Prop) (w : World) : Prop :=
  (∀ b1 w2, Ext w w2 → w.heap.size ≤ b1 → b1 < w2.heap.size →
  (App 8 [(.int .i64 (0 : Int))] ⟨none, 0, 0⟩ h0_Rank w2 (fun s3 w4 =>
  (Keeps [b1] w2 w4 ∧
  (∀ w5, Off b1 w4 w5 →
  (App 40 [(.int .i64 (0 : Int)), (.int .i64 (0 : Int)), (.int .i64 (0 : Int)), (.int .i64 (0 : Int)), (.int .i64 (0 : Int))] ⟨none, 0, 0⟩ h0_Ways w5 (fun s6 w7 =>
  (Keeps [b1] w5 w7 ∧
  (∀ w8, Off b1 w7 w8 →
  (sh_hier_check s3 s6 (fun p9 x10 w11 =>
  (Keeps [b1] w8 w11 ∧
  (cond (x10 != (0 : Int)) (K none w11) (∀ w12, Ext w11 w12 →
  (MkS 24 [(.slice none 0 0)] (s3.len : Int) (s3.len : Int) w12 (fun s13 w14 =>
  (Nn p9 (fun a15 =>
  (∀ w16, Ext w14 w16 →
  (stL w16 (a15.add 4) [(.slice s13.a s13.len s13.cap)] 0 (fun w17 =>
  (KeepZ (zI (zI (fun _ => False) w11 w12) w14 w16) w16 w17 ∧
  (Keeps [b1] w16 w17 ∧
  (MkA 24 [(.slice none 0 0)] (s3.len : Int) (s3.len : Int) (zI (zI (fun _ => False) w11 w12) w14 w16) w17 (fun b18 w19 =>
  (Nn p9 (fun a20 =>
  (∀ w21, Ext w19 w21 →
  (stL w21 (a20.add 5) [(.slice (some ⟨b18, 0, none⟩) (((s3.len : Int)).toNat) (((s3.len : Int)).toNat))] 0 (fun w22 =>
  (Keeps [b1] w21 w22 ∧
  (∀ w23, Ext w22 w23 →
  (LoopT (Int × Unit) (fun t25 again24 w26 =>
  (cond (decide (t25.1 < (s6.len : Int))) (Idx s6.a s6.len t25.1 5 (fun a27 =>
  (∃ x28 : Int, w26.cell? (a27.add 0) = some (.int .i64 x28) ∧ ∃ x29 : Int, w26.cell? (a27.add 1) = some (.int .i64 x29) ∧ ∃ x30 : Int, w26.cell? (a27.add 2) = some (.int .i64 x30) ∧ ∃ x31 : Int, w26.cell? (a27.add 3) = some (.int .i64 x31) ∧ ∃ x32 : Int, w26.cell? (a27.add 4) = some (.int .i64 x32) ∧
  (∀ b33 w34, Ext w26 w34 → w26.heap.size ≤ b33 → b33 < w34.heap.size →
  (∀ w35, Off b33 w34 w35 →
  (Idx s3.a s3.len x28 1 (fun a36 =>
  (∃ x37 : Int, w35.cell? a36 = some (.int .i64 x37) ∧
  (Idx s3.a s3.len x29 1 (fun a38 =>
  (∃ x39 : Int, w35.cell? a38 = some (.int .i64 x39) ∧
  (∀ w40, Ext w35 w40 →
  (cond (decide (x37 < x39)) (Nn p9 (fun a41 =>
  (∃ s42 : SV, w40.cell? (a41.add 4) = some (.slice s42.a s42.len s42.cap) ∧
  (Nn p9 (fun a44 =>
  (∃ s45 : SV, w40.cell? (a44.add 4) = some (.slice s45.a s45.len s45.cap) ∧
  (Idx s45.a s45.len x28 1 (fun a46 =>
  (∃ s47 : SV, w40.cell? a46 = some (.slice s47.a s47.len s47.cap) ∧
  (∀ w49, Ext w40 w49 →
  (sh_hier_put s47 x29 x30 t25.1 (fun s48 w50 =>
  (Keeps [b33, b1] w49 w50 ∧
  ((∃ y43 : SV, w50.cell? (a41.add 4) = some (.slice y43.a y43.len y43.cap) ∧
  ((.slice y43.a y43.len y43.cap) : Value) = (.slice s42.a s42.len s42.cap)) ∧
  (Idx s42.a s42.len x28 1 (fun a51 =>
  (∀ w52, Ext w50 w52 →
  (stL w52 a51 [(.slice s48.a s48.len s48.cap)] 0 (fun w53 =>
  (Keeps [b33, b1] w52 w53 ∧
  (∀ w54, Ext w53 w54 →
  (again24 ((IntKind.i64.wrap (t25.1 + (1 : Int))), ()) w54))))))))))) w49))))))))))) (Nn p9 (fun a55 =>
  (∃ s56 : SV, w40.cell? (a55.add 5) = some (.slice s56.a s56.len s56.cap) ∧
  (Nn p9 (fun a58 =>
  (∃ s59 : SV, w40.cell? (a58.add 5) = some (.slice s59.a s59.len s59.cap) ∧
  (Idx s59.a s59.len x29 1 (fun a60 =>
  (∃ s61 : SV, w40.cell? a60 = some (.slice s61.a s61.len s61.cap) ∧
  (∀ w63, Ext w40 w63 →
  (sh_hier_put s61 x28 x30 t25.1 (fun s62 w64 =>
  (Keeps [b33, b1] w63 w64 ∧
  ((∃ y57 : SV, w64.cell? (a55.add 5) = some (.slice y57.a y57.len y57.cap) ∧
  ((.slice y57.a y57.len y57.cap) : Value) = (.slice s56.a s56.len s56.cap)) ∧
  (Idx s56.a s56.len x29 1 (fun a65 =>
  (∀ w66, Ext w64 w66 →
  (stL w66 a65 [(.slice s62.a s62.len s62.cap)] 0 (fun w67 =>
  (Keeps [b33, b1] w66 w67 ∧
  (∀ w68, Ext w67 w68 →
  (again24 ((IntKind.i64.wrap (t25.1 + (1 : Int))), ()) w68))))))))))) w63)))))))))))))))))))))))) (K p9 w26))) ((0 : Int), ()) w23))))))))))))))))))))))) w8))))))))))

/-- slices.Clone[[]int,int] -/
def sh_slices_Clone_int_int (s0 : SV) (K : SV → World → Prop) (w : World) : Prop :=
  (cond s0.a.isNone (K ⟨none, 0, 0⟩ w) (NewB [] w (fun b1 w2 => (App 8 [(.int .i64 (0 : Int))] ⟨(some ⟨b1, 0, none⟩), 0, 0⟩ s0 w2 (fun s3 w4 => (K s3 w4))))))

/-- slices.Reverse[[]int,int] -/
def sh_slices_Reverse_int_int (s0 : SV) (K : World → Prop) (w : World) : Prop :=
  (LoopT (Int × Int × Unit) (fun t2 again1 w3 =>
  (cond (decide (t2.1 < t2.2.1)) (Idx s0.a s0.len t2.2.1 1 (fun a4 =>
  (∃ x5 : Int, w3.cell? a4 = some (.int .i64 x5) ∧
  (Idx s0.a s0.len t2.1 1 (fun a6 =>
  (∃ x7 : Int, w3.cell? a6 = some (.int .i64 x7) ∧
  (Idx s0.a s0.len t2.1 1 (fun a8 =>
  (∀ w9, Ext w3 w9 →
  (stL w9 a8 [(.int .i64 x5)] 0 (fun w10 =>
  (Idx s0.a s0.len t2.2.1 1 (fun a11 =>
  (∀ w12, Ext w10 w12 →
  (stL w12 a11 [(.int .i64 x7)] 0 (fun w13 =>
  (∀ w14, Ext w13 w14 →
  (again1 ((IntKind.i64.wrap (t2.1 + (1 : Int))), (IntKind.i64.wrap (t2.2.1 - (1 : Int))), ()) w14)))))))))))))))))) (K w3))) ((0 : Int), (IntKind.i64.wrap ((s0.len : Int) - (1 : Int))), ()) w)

/-- (*postroad/hier.Hier).Way -/
def sh_hier_Hier_Way (h0 : Option Addr) (k0 : Int) (K : Int → Int → Int → Int → Int → Bool → World → Prop) (w : World) : Prop :=
  (∀ b1 w2, Ext w w2 → w.heap.size ≤ b1 → b1 < w2.heap.size →
  (cond h0.isNone (∀ w3, Off b1 w2 w3 →
  (K (0 : Int) (0 : Int) (0 : Int) (0 : Int) (0 : Int) false w3)) (cond (decide (k0 < (0 : Int))) (∀ w4, Off b1 w2 w4 →
  (K (0 : Int) (0 : Int) (0 : Int) (0 : Int) (0 : Int) false w4)) (Nn h0 (fun a5 =>
  (∃ s6 : SV, w2.cell? ((a5.add 0).add 1) = some (.slice s6.a s6.len s6.cap) ∧
  (cond (decide (k0 ≥ (s6.len : Int))) (∀ w7, Off b1 w2 w7 →
  (K (0 : Int) (0 : Int) (0 : Int) (0 : Int) (0 : Int) false w7)) (Nn h0 (fun a8 =>
  (∃ s9 : SV, w2.cell? ((a8.add 0).add 1) = some (.slice s9.a s9.len s9.cap) ∧
  (Idx s9.a s9.len k0 5 (fun a10 =>
  (∃ x11 : Int, w2.cell? (a10.add 0) = some (.int .i64 x11) ∧ ∃ x12 : Int, w2.cell? (a10.add 1) = some (.int .i64 x12) ∧ ∃ x13 : Int, w2.cell? (a10.add 2) = some (.int .i64 x13) ∧ ∃ x14 : Int, w2.cell? (a10.add 3) = some (.int .i64 x14) ∧ ∃ x15 : Int, w2.cell? (a10.add 4) = some (.int .i64 x15) ∧
  (∀ w16, Off b1 w2 w16 →
  (K x11 x12 x13 x14 x15 true w16)))))))))))))))

/-- (*postroad/hier.Hier).Halves -/
def sh_hier_Hier_Halves (h0 : Option Addr) (k0 : Int) (K : Int → Int → Bool → World → Prop) (w : World) : Prop :=
  (sh_hier_Hier_Way h0 k0 (fun x1 x2 x3 x4 x5 t6 w7 =>
  (∀ b8 w9, Ext w7 w9 → w7.heap.size ≤ b8 → b8 < w9.heap.size →
  (∀ w10, Off b8 w9 w10 →
  (cond (!t6) (K (0 : Int) (0 : Int) false w10) (cond (x4 == (-1 : Int)) (K (0 : Int) (0 : Int) false w10) (Nn h0 (fun a11 =>
  (∃ s12 : SV, w10.cell? ((a11.add 0).add 0) = some (.slice s12.a s12.len s12.cap) ∧ ∃ s13 : SV, w10.cell? ((a11.add 0).add 1) = some (.slice s13.a s13.len s13.cap) ∧
  (Nn h0 (fun a14 =>
  (∃ m15 : Option Nat, w10.cell? (a14.add 3) = some (.map m15) ∧
  (Quiet (Int × Int × Bool) (fun r19 =>
  (.tuple #[(.int .i64 r19.1), (.int .i64 r19.2.1), (.bool r19.2.2)])) (fun K20 w21' => sh_hier_halves s12 s13 m15 x1 x2 x3 x4 x5 (fun x16 x17 t18 w21 => K20 (x16, x17, t18) w21) w21') w10 (fun r19 =>
  (∀ w22, Ext w10 w22 →
  (K r19.1 r19.2.1 r19.2.2 w22))))))))))))))) w)

/-- postroad/unpack.open -/
def sh_unpack_open (h0 : Option Addr) (l0 : SV) (K : SV → World → Prop) (w : World) : Prop :=
  (sh_slices_Clone_int_int l0 (fun s1 w2 =>
  (sh_slices_Reverse_int_int s1 (fun w3 =>
  (LoopT (SV × SV × Unit) (fun t5 again4 w6 =>
  (cond (decide ((t5.2.1.len : Int) > (0 : Int))) (Idx t5.2.1.a t5.2.1.len (IntKind.i64.wrap ((t5.2.1.len : Int) - (1 : Int))) 1 (fun a7 =>
  (∃ x8 : Int, w6.cell? a7 = some (.int .i64 x8) ∧
  (semSlice 1 t5.2.1.a t5.2.1.len t5.2.1.cap none (some (IntKind.i64.wrap ((t5.2.1.len : Int) - (1 : Int)))) (fun s9 =>
  (sh_hier_Hier_Halves h0 x8 (fun x10 x11 t12 w13 =>
  (cond t12 (NewB [(.int .i64 x11), (.int .i64 x10)] w13 (fun b14 w15 =>
  (App 8 [(.int .i64 (0 : Int))] s9 ⟨(some ⟨b14, 0, none⟩), 2, 2⟩ w15 (fun s16 w17 =>
  (again4 (t5.1, s16, ()) w17))))) (sh_hier_Hier_Way h0 x8 (fun x18 x19 x20 x21 x22 t23 w24 =>
  (∀ b25 w26, Ext w24 w26 → w24.heap.size ≤ b25 → b25 < w26.heap.size →
  (∀ w27, Off b25 w26 w27 →
  (cond t23 (NewB [(.int .i64 x22)] w27 (fun b28 w29 =>
  (App 8 [(.int .i64 (0 : Int))] t5.1 ⟨(some ⟨b28, 0, none⟩), 1, 1⟩ w29 (fun s30 w31 =>
  (Keeps [b25] w29 w31 ∧
  (again4 (s30, s9, ()) w31)))))) (again4 (t5.1, s9, ()) w27))))) w13))) w6)))))) (K t5.1 w6))) (⟨none, 0, 0⟩, s1, ()) w3)) w2)) w)

/-- postroad/unpack.Open -/
def sh_unpack_Open (h0 : Option Addr) (k0 : Int) (K : SV → World → Prop) (w : World) : Prop :=
  (NewB [(.int .i64 k0)] w (fun b1 w2 => (sh_unpack_open h0 (⟨(some ⟨b1, 0, none⟩), 1, 1⟩) (fun s3 w4 => (K s3 w4)) w2)))

/-- postroad/postroadref00.SameInts -/
def sh_postroadref00_SameInts (a0 : SV) (b0 : SV) (K : Bool → World → Prop) (w : World) : Prop :=
  (cond ((a0.len : Int) != (b0.len : Int)) (K false w) (LoopT (Int × Unit) (fun t2 again1 w3 =>
  (cond (decide (t2.1 < (a0.len : Int))) (Idx a0.a a0.len t2.1 1 (fun a4 =>
  (∃ x5 : Int, w3.cell? a4 = some (.int .i64 x5) ∧
  (Idx b0.a b0.len t2.1 1 (fun a6 =>
  (∃ x7 : Int, w3.cell? a6 = some (.int .i64 x7) ∧
  (∀ w8, Ext w3 w8 →
  (cond (x5 != x7) (K false w8) (again1 ((IntKind.i64.wrap (t2.1 + (1 : Int))), ()) w8))))))))) (K true w3))) ((0 : Int), ()) w))

/-- postroad/unpack.Deep: once, over what is known of itself -/
def sh_unpack_Deep.step (rec_ : Option Addr → Int → (Int → World → Prop) → World → Prop) (h0 : Option Addr) (k0 : Int) (K : Int → World → Prop) (w : World) : Prop :=
  (sh_hier_Hier_Way h0 k0 (fun x1 x2 x3 x4 x5 t6 w7 =>
  (∀ b8 w9, Ext w7 w9 → w7.heap.size ≤ b8 → b8 < w9.heap.size →
  (∀ w10, Off b8 w9 w10 →
  (cond (!t6) (K (0 : Int) w10) (sh_hier_Hier_Halves h0 k0 (fun x11 x12 t13 w14 =>
  (Keeps [b8] w10 w14 ∧
  (cond (!t13) (K (1 : Int) w14) (rec_ h0 x11 (fun x15 w16 =>
  (Keeps [b8] w14 w16 ∧
  (rec_ h0 x12 (fun x17 w18 =>
  (Keeps [b8] w16 w18 ∧
  (K (IntKind.i64.wrap ((1 : Int) + (if x17 > x15 then x17 else x15))) w18))) w16))) w14)))) w10))))) w)
def sh_unpack_Deep.n : Nat → Option Addr → Int → (Int → World → Prop) → World → Prop
  | 0 => fun _ _ _ _ => False
  | n + 1 => sh_unpack_Deep.step (sh_unpack_Deep.n n)
/-- postroad/unpack.Deep -/
def sh_unpack_Deep (h0 : Option Addr) (k0 : Int) (K : Int → World → Prop) (w : World) : Prop := ∃ n, sh_unpack_Deep.n n h0 k0 K w

/-- postroad/postroadlaw13.known -/
def sh_postroadlaw13_known  (K : Bool → World → Prop) (w : World) : Prop :=
  (NewB [(.int .i64 (1 : Int)), (.int .i64 (0 : Int)), (.int .i64 (2 : Int))] w (fun b1 w2 =>
  (NewB [(.int .i64 (0 : Int)), (.int .i64 (1 : Int)), (.int .i64 (2 : Int)), (.int .i64 (-1 : Int)), (.int .i64 (5 : Int)), (.int .i64 (1 : Int)), (.int .i64 (2 : Int)), (.int .i64 (3 : Int)), (.int .i64 (-1 : Int)), (.int .i64 (3 : Int)), (.int .i64 (0 : Int)), (.int .i64 (2 : Int)), (.int .i64 (5 : Int)), (.int .i64 (1 : Int)), (.int .i64 (-1 : Int))] w2 (fun b3 w4 =>
  (sh_hier_New (⟨(some ⟨b1, 0, none⟩), 3, 3⟩) (⟨(some ⟨b3, 0, none⟩), 3, 3⟩) (fun p5 w6 =>
  (sh_unpack_Open p5 (2 : Int) (fun s7 w8 =>
  (NewB [(.int .i64 (5 : Int)), (.int .i64 (3 : Int))] w8 (fun b9 w10 =>
  (sh_postroadref00_SameInts s7 (⟨(some ⟨b9, 0, none⟩), 2, 2⟩) (fun t11 w12 =>
  (cond t11 (sh_unpack_Deep p5 (2 : Int) (fun x13 w14 =>
  (cond (x13 == (2 : Int)) (sh_unpack_Deep p5 (3 : Int) (fun x15 w16 =>
  (K (x15 == (0 : Int)) w16)) w14) (K false w14))) w12) (K false w12))) w10)))) w6)) w4)))))

/-- postroad/postroadref10.Halves -/
def sh_postroadref10_Halves (h0_Rank : SV) (h0_Ways : SV) (k0 : Int) (K : Int → Int → Bool → World → Prop) (w : World) : Prop :=
  (∀ b1 w2, Ext w w2 → w.heap.size ≤ b1 → b1 < w2.heap.size →
  (cond (decide (k0 < (0 : Int))) (K (0 : Int) (0 : Int) false w2) (cond (decide (k0 ≥ (h0_Ways.len : Int))) (K (0 : Int) (0 : Int) false w2) (Idx h0_Ways.a h0_Ways.len k0 5 (fun a3 =>
  (∃ x4 : Int, w2.cell? ((a3.add 2).add 1) = some (.int .i64 x4) ∧
  (cond (x4 == (-1 : Int)) (K (0 : Int) (0 : Int) false w2) (Idx h0_Ways.a h0_Ways.len k0 5 (fun a5 =>
  (∃ x6 : Int, w2.cell? (a5.add 0) = some (.int .i64 x6) ∧ ∃ x7 : Int, w2.cell? (a5.add 1) = some (.int .i64 x7) ∧ ∃ x8 : Int, w2.cell? (a5.add 2) = some (.int .i64 x8) ∧ ∃ x9 : Int, w2.cell? (a5.add 3) = some (.int .i64 x9) ∧ ∃ x10 : Int, w2.cell? (a5.add 4) = some (.int .i64 x10) ∧
  (∀ b11 w12, Ext w2 w12 → w2.heap.size ≤ b11 → b11 < w12.heap.size →
  (∀ w13, Off b11 w12 w13 →
  (Quiet (Int) (fun r15 =>
  (.int .i64 r15)) (fun K16 w17' => sh_postroadref10_Find h0_Rank h0_Ways x6 x9 (fun x14 w17 => K16 x14 w17) w17') w13 (fun r15 =>
  (Quiet (Int) (fun r19 =>
  (.int .i64 r19)) (fun K20 w21' => sh_postroadref10_Find h0_Rank h0_Ways x9 x7 (fun x18 w21 => K20 x18 w21) w21') w13 (fun r19 =>
  (∀ w22, Ext w13 w22 →
  (K r15 r19 true w22))))))))))))))))))

/-- postroad/postroadref13.Open: once, over what is known of itself -/
def sh_postroadref13_Open.step (rec_ : SV → SV → Int → (SV → World → Prop) → World → Prop) (h0_Rank : SV) (h0_Ways : SV) (k0 : Int) (K : SV → World → Prop) (w : World) : Prop :=
  (∀ b1 w2, Ext w w2 → w.heap.size ≤ b1 → b1 < w2.heap.size →
  (cond (decide (k0 < (0 : Int))) (K ⟨none, 0, 0⟩ w2) (cond (decide (k0 ≥ (h0_Ways.len : Int))) (K ⟨none, 0, 0⟩ w2) (sh_postroadref10_Halves h0_Rank h0_Ways k0 (fun x3 x4 t5 w6 =>
  (Keeps [b1] w2 w6 ∧
  (cond (!t5) (Idx h0_Ways.a h0_Ways.len k0 5 (fun a7 =>
  (∃ x8 : Int, w6.cell? ((a7.add 2).add 2) = some (.int .i64 x8) ∧
  (NewB [(.int .i64 x8)] w6 (fun b9 w10 =>
  (K (⟨(some ⟨b9, 0, none⟩), 1, 1⟩) w10)))))) (rec_ h0_Rank h0_Ways x3 (fun s11 w12 =>
  (Keeps [b1] w6 w12 ∧
  (rec_ h0_Rank h0_Ways x4 (fun s13 w14 =>
  (Keeps [b1] w12 w14 ∧
  (App 8 [(.int .i64 (0 : Int))] s11 s13 w14 (fun s15 w16 =>
  (Keeps [b1] w14 w16 ∧
  (K s15 w16)))))) w12))) w6)))) w2))))
def sh_postroadref13_Open.n : Nat → SV → SV → Int → (SV → World → Prop) → World → Prop
  | 0 => fun _ _ _ _ _ => False
  | n + 1 => sh_postroadref13_Open.step (sh_postroadref13_Open.n n)
/-- postroad/postroadref13.Open -/
def sh_postroadref13_Open (h0_Rank : SV) (h0_Ways : SV) (k0 : Int) (K : SV → World → Prop) (w : World) : Prop := ∃ n, sh_postroadref13_Open.n n h0_Rank h0_Ways k0 K w

/-- postroad/postroadref13.Deep: once, over what is known of itself -/
def sh_postroadref13_Deep.step (rec_ : SV → SV → Int → (Int → World → Prop) → World → Prop) (h0_Rank : SV) (h0_Ways : SV) (k0 : Int) (K : Int → World → Prop) (w : World) : Prop :=
  (∀ b1 w2, Ext w w2 → w.heap.size ≤ b1 → b1 < w2.heap.size →
  (cond (decide (k0 < (0 : Int))) (K (0 : Int) w2) (cond (decide (k0 ≥ (h0_Ways.len : Int))) (K (0 : Int) w2) (sh_postroadref10_Halves h0_Rank h0_Ways k0 (fun x3 x4 t5 w6 =>
  (Keeps [b1] w2 w6 ∧
  (cond (!t5) (K (1 : Int) w6) (Quiet (Int) (fun r8 =>
  (.int .i64 r8)) (fun K9 w10' => rec_ h0_Rank h0_Ways x3 (fun x7 w10 => K9 x7 w10) w10') w6 (fun r8 =>
  (Quiet (Int) (fun r12 =>
  (.int .i64 r12)) (fun K13 w14' => rec_ h0_Rank h0_Ways x4 (fun x11 w14 => K13 x11 w14) w14') w6 (fun r12 =>
  (∀ w15, Ext w6 w15 →
  (K (IntKind.i64.wrap ((1 : Int) + (if r12 > r8 then r12 else r8))) w15))))))))) w2))))
def sh_postroadref13_Deep.n : Nat → SV → SV → Int → (Int → World → Prop) → World → Prop
  | 0 => fun _ _ _ _ _ => False
  | n + 1 => sh_postroadref13_Deep.step (sh_postroadref13_Deep.n n)
/-- postroad/postroadref13.Deep -/
def sh_postroadref13_Deep (h0_Rank : SV) (h0_Ways : SV) (k0 : Int) (K : Int → World → Prop) (w : World) : Prop := ∃ n, sh_postroadref13_Deep.n n h0_Rank h0_Ways k0 K w

/-- postroad/postroadlaw13.UnpackOpens -/
def sh_postroadlaw13_UnpackOpens (h0_Rank : SV) (h0_Ways : SV) (K : Bool → World → Prop) (w : World) : Prop :=
  (∀ b1 w2, Ext w w2 → w.heap.size ≤ b1 → b1 < w2.heap.size →
  (sh_postroadref11_Fit h0_Rank h0_Ways (fun t3 w4 =>
  (Keeps [b1] w2 w4 ∧
  (cond (!t3) (sh_postroadlaw13_known  (fun t5 w6 =>
  (Keeps [b1] w4 w6 ∧
  (K t5 w6))) w4) (sh_hier_New h0_Rank h0_Ways (fun p7 w8 =>
  (Keeps [b1] w4 w8 ∧
  (Join (Unit) (fun J9 =>
  (LoopT (Int × Unit) (fun t11 again10 w12 =>
  (cond (decide (t11.1 ≤ (h0_Ways.len : Int))) (∀ w14, Ext w12 w14 →
  (sh_unpack_Open p7 t11.1 (fun s13 w15 =>
  (Keeps [b1] w14 w15 ∧
  (∀ w17, Ext w15 w17 →
  (sh_postroadref13_Open h0_Rank h0_Ways t11.1 (fun s16 w18 =>
  (Keeps [b1] w17 w18 ∧
  (Quiet (Bool) (fun r20 =>
  (.bool r20)) (fun K21 w22' => sh_postroadref00_SameInts s13 s16 (fun t19 w22 => K21 t19 w22) w22') w18 (fun r20 =>
  (cond (!r20) (∀ w23, Ext w18 w23 →
  (K false w23)) (Quiet (Int) (fun r25 =>
  (.int .i64 r25)) (fun K26 w27' => sh_unpack_Deep p7 t11.1 (fun x24 w27 => K26 x24 w27) w27') w18 (fun r25 =>
  (Quiet (Int) (fun r29 =>
  (.int .i64 r29)) (fun K30 w31' => sh_postroadref13_Deep h0_Rank h0_Ways t11.1 (fun x28 w31 => K30 x28 w31) w31') w18 (fun r29 =>
  (∀ w32, Ext w18 w32 →
  (cond (r25 != r29) (K false w32) (again10 ((IntKind.i64.wrap (t11.1 + (1 : Int))), ()) w32)))))))))))) w17)))) w14)) (J9 () w12))) ((-1 : Int), ()) w8))
  (fun t33 w34 =>
  (sh_postroadlaw13_known  (fun t35 w36 =>
  (Keeps [b1] w34 w36 ∧
  (K t35 w36))) w34))))) w4)))) w2))

/-- postroad/postroadref06.part -/
def sh_postroadref06_part (x0 : Int) (n0 : Int) (K : Int → World → Prop) (w : World) : Prop :=
  (if n0 = 0 then False else (cond (decide ((x0.tmod n0) < (0 : Int))) (K (IntKind.i64.wrap ((x0.tmod n0) + n0)) w) (K (x0.tmod n0) w)))

/-- postroad/postroadref06.Of -/
def sh_postroadref06_Of (n0 : Int) (arcs0 : SV) (K : Int → SV → World → Prop) (w : World) : Prop :=
  (∀ b1 w2, Ext w w2 → w.heap.size ≤ b1 → b1 < w2.heap.size →
  (∀ b3 w4, Ext w2 w4 → w2.heap.size ≤ b3 → b3 < w4.heap.size →
  (∀ w5, Off b3 w4 w5 →
  (Join ((Int × SV × Unit) × Unit) (fun J6 =>
  (LoopT (Int × (Int × SV × Unit) × Unit) (fun t8 again7 w9 =>
  (cond (decide (t8.1 < (arcs0.len : Int))) (cond (decide (t8.1 < (40 : Int))) (Idx arcs0.a arcs0.len t8.1 3 (fun a10 =>
  (∃ x11 : Int, w9.cell? (a10.add 0) = some (.int .i64 x11) ∧ ∃ x12 : Int, w9.cell? (a10.add 1) = some (.int .i64 x12) ∧ ∃ x13 : Int, w9.cell? (a10.add 2) = some (.int .i64 x13) ∧
  (∀ b14 w15, Ext w9 w15 → w9.heap.size ≤ b14 → b14 < w15.heap.size →
  (∀ w16, Off b14 w15 w16 →
  (Quiet (Int) (fun r18 =>
  (.int .i64 r18)) (fun K19 w20' => sh_postroadref06_part x11 (if (if (12 : Int) < n0 then (12 : Int) else n0) > (1 : Int) then (if (12 : Int) < n0 then (12 : Int) else n0) else (1 : Int)) (fun x17 w20 => K19 x17 w20) w20') w16 (fun r18 =>
  (Quiet (Int) (fun r22 =>
  (.int .i64 r22)) (fun K23 w24' => sh_postroadref06_part x12 (if (if (12 : Int) < n0 then (12 : Int) else n0) > (1 : Int) then (if (12 : Int) < n0 then (12 : Int) else n0) else (1 : Int)) (fun x21 w24 => K23 x21 w24) w24') w16 (fun r22 =>
  (Quiet (Int) (fun r26 =>
  (.int .i64 r26)) (fun K27 w28' => sh_postroadref06_part x13 (2147483649 : Int) (fun x25 w28 => K27 x25 w28) w28') w16 (fun r26 =>
  (∀ w29, Ext w16 w29 →
  (NewB [(.int .i64 r18), (.int .i64 r22), (.int .i64 r26)] w29 (fun b30 w31 =>
  (∀ w32, Ext w31 w32 →
  (App 24 [(.int .i64 (0 : Int)), (.int .i64 (0 : Int)), (.int .i64 (0 : Int))] t8.2.1.2.1 ⟨(some ⟨b30, 0, none⟩), 1, 1⟩ w32 (fun s33 w34 =>
  (Keeps [b14, b3, b1] w32 w34 ∧
  (∀ w35, Ext w34 w35 →
  (∀ w36, Off b3 w35 w36 →
  (∀ w37, Ext w36 w37 →
  (again7 ((IntKind.i64.wrap (t8.1 + (1 : Int))), (t8.2.1.1, s33, ()), ()) w37)))))))))))))))))))))) (J6 ((t8.2.1.1, t8.2.1.2.1, ()), ()) w9)) (J6 ((t8.2.1.1, t8.2.1.2.1, ()), ()) w9))) ((0 : Int), ((if (if (12 : Int) < n0 then (12 : Int) else n0) > (1 : Int) then (if (12 : Int) < n0 then (12 : Int) else n0) else (1 : Int)), ⟨none, 0, 0⟩, ()), ()) w5))
  (fun t38 w39 =>
  (∀ w40, Off b1 w39 w40 →
  (K t38.1.1 t38.1.2.1 w40)))))))

/-- postroad/postroadref07.Of -/
def sh_postroadref07_Of (n0 : Int) (arcs0 : SV) (K : Int → SV → World → Prop) (w : World) : Prop :=
  (∀ b1 w2, Ext w w2 → w.heap.size ≤ b1 → b1 < w2.heap.size → (sh_postroadref06_Of n0 arcs0 (fun x3 s4 w5 => (Keeps [b1] w2 w5 ∧ (∀ w6, Off b1 w5 w6 → (K x3 s4 w6)))) w2))

/-- postroad/postroadref05.Check -/
def sh_postroadref05_Check (m0_N : Int) (m0_Arcs : SV) (K : Int → World → Prop) (w : World) : Prop :=
  (∀ b1 w2, Ext w w2 → w.heap.size ≤ b1 → b1 < w2.heap.size →
  (cond (decide (m0_N > (16777216 : Int))) (K (3 : Int) w2) (cond (decide ((m0_Arcs.len : Int) > (67108864 : Int))) (K (3 : Int) w2) (cond (decide (m0_N < (0 : Int))) (K (2 : Int) w2) (LoopT (Int × Unit) (fun t4 again3 w5 =>
  (cond (decide (t4.1 < (m0_Arcs.len : Int))) (Idx m0_Arcs.a m0_Arcs.len t4.1 3 (fun a6 =>
  (∃ x7 : Int, w5.cell? (a6.add 0) = some (.int .i64 x7) ∧ ∃ x8 : Int, w5.cell? (a6.add 1) = some (.int .i64 x8) ∧ ∃ x9 : Int, w5.cell? (a6.add 2) = some (.int .i64 x9) ∧
  (∀ b10 w11, Ext w5 w11 → w5.heap.size ≤ b10 → b10 < w11.heap.size →
  (∀ w12, Off b10 w11 w12 →
  (cond (decide (x7 < (0 : Int))) (K (2 : Int) w12) (cond (decide (x7 ≥ m0_N)) (K (2 : Int) w12) (cond (decide (x8 < (0 : Int))) (K (2 : Int) w12) (cond (decide (x8 ≥ m0_N)) (K (2 : Int) w12) (cond (decide (x9 < (0 : Int))) (K (2 : Int) w12) (cond (decide (x9 > (2147483648 : Int))) (K (2 : Int) w12) (again3 ((IntKind.i64.wrap (t4.1 + (1 : Int))), ()) w12)))))))))))) (K (0 : Int) w5))) ((0 : Int), ()) w2)))))

/-- postroad/postroadref06.counts -/
def sh_postroadref06_counts (m0_N : Int) (m0_Arcs : SV) (k0 : Int) (K : Bool → World → Prop) (w : World) : Prop :=
  (∀ b1 w2, Ext w w2 → w.heap.size ≤ b1 → b1 < w2.heap.size →
  (Idx m0_Arcs.a m0_Arcs.len k0 3 (fun a3 =>
  (∃ x4 : Int, w2.cell? (a3.add 0) = some (.int .i64 x4) ∧ ∃ x5 : Int, w2.cell? (a3.add 1) = some (.int .i64 x5) ∧ ∃ x6 : Int, w2.cell? (a3.add 2) = some (.int .i64 x6) ∧
  (∀ b7 w8, Ext w2 w8 → w2.heap.size ≤ b7 → b7 < w8.heap.size →
  (∀ w9, Off b7 w8 w9 →
  (cond (x4 == x5) (K false w9) (LoopT (Int × Unit) (fun t11 again10 w12 =>
  (cond (decide (t11.1 < (m0_Arcs.len : Int))) (Join (Unit) (fun J13 =>
  (Idx m0_Arcs.a m0_Arcs.len t11.1 3 (fun a14 =>
  (∃ x15 : Int, w12.cell? (a14.add 0) = some (.int .i64 x15) ∧ ∃ x16 : Int, w12.cell? (a14.add 1) = some (.int .i64 x16) ∧ ∃ x17 : Int, w12.cell? (a14.add 2) = some (.int .i64 x17) ∧
  (∀ b18 w19, Ext w12 w19 → w12.heap.size ≤ b18 → b18 < w19.heap.size →
  (∀ w20, Off b18 w19 w20 →
  (cond (x15 == x4) (cond (x16 == x5) (cond (decide (x17 < x6)) (K false w20) (cond (x17 == x6) (cond (decide (t11.1 < k0)) (K false w20) (J13 () w20)) (J13 () w20))) (J13 () w20)) (J13 () w20))))))))
  (fun t21 w22 =>
  (again10 ((IntKind.i64.wrap (t11.1 + (1 : Int))), ()) w22))) (K true w12))) ((0 : Int), ()) w9))))))))

/-- postroad/postroadref06.New -/
def sh_postroadref06_New (m0_N : Int) (m0_Arcs : SV) (K : Int → SV → SV → Bool → World → Prop) (w : World) : Prop :=
  (∀ b1 w2, Ext w w2 → w.heap.size ≤ b1 → b1 < w2.heap.size →
  (∀ b3 w4, Ext w2 w4 → w2.heap.size ≤ b3 → b3 < w4.heap.size →
  (sh_postroadref05_Check m0_N m0_Arcs (fun x5 w6 =>
  (Keeps [b3, b1] w4 w6 ∧
  (cond (x5 != (0 : Int)) (∀ w7, Off b3 w6 w7 →
  (K (0 : Int) ⟨none, 0, 0⟩ ⟨none, 0, 0⟩ false w7)) (∀ b8 w9, Ext w6 w9 → w6.heap.size ≤ b8 → b8 < w9.heap.size →
  (∀ w10, Off b8 w9 w10 →
  (Join ((Int × SV × SV × Unit) × Unit) (fun J11 =>
  (LoopT (Int × (Int × SV × SV × Unit) × Unit) (fun t13 again12 w14 =>
  (cond (decide (t13.1 < (m0_Arcs.len : Int))) (Join (Int × Unit) (fun J15 =>
  (sh_postroadref06_counts m0_N m0_Arcs t13.1 (fun t16 w17 =>
  (Keeps [b8, b3, b1] w14 w17 ∧
  (cond t16 (J15 ((1 : Int), ()) w17) (J15 ((0 : Int), ()) w17)))) w14))
  (fun t18 w19 =>
  (NewB [(.int .i64 t18.1)] w19 (fun b20 w21 =>
  (App 8 [(.int .i64 (0 : Int))] t13.2.1.2.2.1 ⟨(some ⟨b20, 0, none⟩), 1, 1⟩ w21 (fun s22 w23 =>
  (Keeps [b8, b3, b1] w21 w23 ∧
  (∀ w24, Off b8 w23 w24 →
  (again12 ((IntKind.i64.wrap (t13.1 + (1 : Int))), (t13.2.1.1, t13.2.1.2.1, s22, ()), ()) w24))))))))) (J11 ((t13.2.1.1, t13.2.1.2.1, t13.2.1.2.2.1, ()), ()) w14))) ((0 : Int), (m0_N, m0_Arcs, ⟨none, 0, 0⟩, ()), ()) w10))
  (fun t25 w26 =>
  (∀ w27, Off b3 w26 w27 →
  (K t25.1.1 t25.1.2.1 t25.1.2.2.1 true w27))))))))) w4)))

/-- postroad/postroadref06.put -/
def sh_postroadref06_put (l0 : SV) (e0_V : Int) (e0_W : Int) (e0_Arc : Int) (K : SV → World → Prop) (w : World) : Prop :=
  (∀ b1 w2, Ext w w2 → w.heap.size ≤ b1 → b1 < w2.heap.size →
  (Join (Int × Unit) (fun J3 =>
  (LoopT (Int × Unit) (fun t5 again4 w6 =>
  (cond (decide (t5.1 < (l0.len : Int))) (Idx l0.a l0.len t5.1 3 (fun a7 =>
  (∃ x8 : Int, w6.cell? (a7.add 0) = some (.int .i64 x8) ∧
  (∀ w9, Ext w6 w9 →
  (cond (decide (x8 < e0_V)) (again4 ((IntKind.i64.wrap (t5.1 + (1 : Int))), ()) w9) (J3 (t5.1, ()) w9)))))) (∀ w10, Ext w6 w10 →
  (J3 (t5.1, ()) w10)))) ((0 : Int), ()) w2))
  (fun t11 w12 =>
  (semSlice 3 l0.a l0.len l0.cap none (some t11.1) (fun s13 =>
  (App 24 [(.int .i64 (0 : Int)), (.int .i64 (0 : Int)), (.int .i64 (0 : Int))] ⟨none, 0, 0⟩ s13 w12 (fun s14 w15 =>
  (Keeps [b1] w12 w15 ∧
  (NewB [(.int .i64 e0_V), (.int .i64 e0_W), (.int .i64 e0_Arc)] w15 (fun b16 w17 =>
  (App 24 [(.int .i64 (0 : Int)), (.int .i64 (0 : Int)), (.int .i64 (0 : Int))] s14 ⟨(some ⟨b16, 0, none⟩), 1, 1⟩ w17 (fun s18 w19 =>
  (Keeps [b1] w17 w19 ∧
  (semSlice 3 l0.a l0.len l0.cap (some t11.1) none (fun s20 =>
  (App 24 [(.int .i64 (0 : Int)), (.int .i64 (0 : Int)), (.int .i64 (0 : Int))] s18 s20 w19 (fun s21 w22 =>
  (Keeps [b1] w19 w22 ∧
  (K s21 w22)))))))))))))))))))

/-- postroad/postroadref06.Out -/
def sh_postroadref06_Out (g0_M_N : Int) (g0_M_Arcs : SV) (g0_Kept : SV) (v0 : Int) (K : SV → World → Prop) (w : World) : Prop :=
  (∀ b1 w2, Ext w w2 → w.heap.size ≤ b1 → b1 < w2.heap.size →
  (LoopT (SV × Int × Unit) (fun t4 again3 w5 =>
  (cond (decide (t4.2.1 < (g0_Kept.len : Int))) (Join (SV × Unit) (fun J6 =>
  (Idx g0_Kept.a g0_Kept.len t4.2.1 1 (fun a7 =>
  (∃ x8 : Int, w5.cell? a7 = some (.int .i64 x8) ∧
  (cond (x8 == (1 : Int)) (Idx g0_M_Arcs.a g0_M_Arcs.len t4.2.1 3 (fun a9 =>
  (∃ x10 : Int, w5.cell? (a9.add 0) = some (.int .i64 x10) ∧
  (cond (x10 == v0) (Idx g0_M_Arcs.a g0_M_Arcs.len t4.2.1 3 (fun a11 =>
  (∃ x12 : Int, w5.cell? (a11.add 1) = some (.int .i64 x12) ∧
  (Idx g0_M_Arcs.a g0_M_Arcs.len t4.2.1 3 (fun a13 =>
  (∃ x14 : Int, w5.cell? (a13.add 2) = some (.int .i64 x14) ∧
  (∀ w16, Ext w5 w16 →
  (sh_postroadref06_put t4.1 x12 x14 t4.2.1 (fun s15 w17 =>
  (Keeps [b1] w16 w17 ∧
  (∀ w18, Ext w17 w18 →
  (J6 (s15, ()) w18)))) w16)))))))) (J6 (t4.1, ()) w5))))) (J6 (t4.1, ()) w5))))))
  (fun t19 w20 =>
  (again3 (t19.1, (IntKind.i64.wrap (t4.2.1 + (1 : Int))), ()) w20))) (K t4.1 w5))) (⟨none, 0, 0⟩, (0 : Int), ()) w2))

/-- postroad/postroadref08.New -/
def sh_postroadref08_New (g0_M_N : Int) (g0_M_Arcs : SV) (g0_Kept : SV) (K : Int → SV → SV → SV → World → Prop) (w : World) : Prop :=
  (∀ b1 w2, Ext w w2 → w.heap.size ≤ b1 → b1 < w2.heap.size →
  (∀ b3 w4, Ext w2 w4 → w2.heap.size ≤ b3 → b3 < w4.heap.size →
  (∀ b5 w6, Ext w4 w6 → w4.heap.size ≤ b5 → b5 < w6.heap.size →
  (∀ w7, Off b5 w6 w7 →
  (Join ((Int × SV × SV × SV × Unit) × Unit) (fun J8 =>
  (LoopT (Int × (Int × SV × SV × SV × Unit) × Unit) (fun t10 again9 w11 =>
  (cond (decide (t10.1 < t10.2.1.1)) (Join ((Int × SV × SV × SV × Unit) × Unit) (fun J12 =>
  (NewB [(.int .i64 (1 : Int))] w11 (fun b13 w14 =>
  (App 8 [(.int .i64 (0 : Int))] t10.2.1.2.1 ⟨(some ⟨b13, 0, none⟩), 1, 1⟩ w14 (fun s15 w16 =>
  (Keeps [b5, b3, b1] w14 w16 ∧
  (∀ w17, Off b5 w16 w17 →
  (NewB [(.int .i64 (0 : Int))] w17 (fun b18 w19 =>
  (App 8 [(.int .i64 (0 : Int))] t10.2.1.2.2.2.1 ⟨(some ⟨b18, 0, none⟩), 1, 1⟩ w19 (fun s20 w21 =>
  (Keeps [b5, b3, b1] w19 w21 ∧
  (∀ w22, Off b5 w21 w22 →
  (sh_postroadref06_Out g0_M_N g0_M_Arcs g0_Kept t10.1 (fun s23 w24 =>
  (Keeps [b5, b3, b1] w22 w24 ∧
  (LoopT (Int × (Int × SV × SV × SV × Unit) × Unit) (fun t26 again25 w27 =>
  (cond (decide (t26.1 < (s23.len : Int))) (Idx s23.a s23.len t26.1 3 (fun a28 =>
  (∃ x29 : Int, w27.cell? (a28.add 0) = some (.int .i64 x29) ∧
  (Idx s23.a s23.len t26.1 3 (fun a30 =>
  (∃ x31 : Int, w27.cell? (a30.add 1) = some (.int .i64 x31) ∧
  (Idx s23.a s23.len t26.1 3 (fun a32 =>
  (∃ x33 : Int, w27.cell? (a32.add 2) = some (.int .i64 x33) ∧
  (∀ w34, Ext w27 w34 →
  (NewB [(.int .i64 t10.1), (.int .i64 x29), (.int .i64 x31), (.int .i64 (-1 : Int)), (.int .i64 x33)] w34 (fun b35 w36 =>
  (∀ w37, Ext w36 w37 →
  (App 40 [(.int .i64 (0 : Int)), (.int .i64 (0 : Int)), (.int .i64 (0 : Int)), (.int .i64 (0 : Int)), (.int .i64 (0 : Int))] t26.2.1.2.2.1 ⟨(some ⟨b35, 0, none⟩), 1, 1⟩ w37 (fun s38 w39 =>
  (Keeps [b5, b3, b1] w37 w39 ∧
  (∀ w40, Ext w39 w40 →
  (∀ w41, Off b5 w40 w41 →
  (∀ w42, Ext w41 w42 →
  (again25 ((IntKind.i64.wrap (t26.1 + (1 : Int))), (t26.2.1.1, t26.2.1.2.1, s38, t26.2.1.2.2.2.1, ()), ()) w42)))))))))))))))))))) (J12 ((t26.2.1.1, t26.2.1.2.1, t26.2.1.2.2.1, t26.2.1.2.2.2.1, ()), ()) w27))) ((0 : Int), (t10.2.1.1, s15, t10.2.1.2.2.1, s20, ()), ()) w24))) w22))))))))))))))
  (fun t43 w44 =>
  (again9 ((IntKind.i64.wrap (t10.1 + (1 : Int))), (t43.1.1, t43.1.2.1, t43.1.2.2.1, t43.1.2.2.2.1, ()), ()) w44))) (J8 ((t10.2.1.1, t10.2.1.2.1, t10.2.1.2.2.1, t10.2.1.2.2.2.1, ()), ()) w11))) ((0 : Int), (g0_M_N, ⟨none, 0, 0⟩, ⟨none, 0, 0⟩, ⟨none, 0, 0⟩, ()), ()) w7))
  (fun t45 w46 =>
  (∀ w47, Off b3 w46 w47 →
  (K t45.1.1 t45.1.2.1 t45.1.2.2.1 t45.1.2.2.2.1 w47))))))))

/-- postroad/postroadref08.Places -/
def sh_postroadref08_Places (t0_N : Int) (t0_In : SV) (t0_L : SV) (t0_Lost : SV) (K : SV → World → Prop) (w : World) : Prop :=
  (∀ b1 w2, Ext w w2 → w.heap.size ≤ b1 → b1 < w2.heap.size →
  (LoopT (SV × Int × Unit) (fun t4 again3 w5 =>
  (cond (decide (t4.2.1 < t0_N)) (Join (SV × Unit) (fun J6 =>
  (Idx t0_In.a t0_In.len t4.2.1 1 (fun a7 =>
  (∃ x8 : Int, w5.cell? a7 = some (.int .i64 x8) ∧
  (cond (x8 == (1 : Int)) (NewB [(.int .i64 t4.2.1)] w5 (fun b9 w10 =>
  (App 8 [(.int .i64 (0 : Int))] t4.1 ⟨(some ⟨b9, 0, none⟩), 1, 1⟩ w10 (fun s11 w12 =>
  (Keeps [b1] w10 w12 ∧
  (J6 (s11, ()) w12)))))) (J6 (t4.1, ()) w5))))))
  (fun t13 w14 =>
  (again3 (t13.1, (IntKind.i64.wrap (t4.2.1 + (1 : Int))), ()) w14))) (K t4.1 w5))) (⟨none, 0, 0⟩, (0 : Int), ()) w2))

/-- postroad/postroadref08.is -/
def sh_postroadref08_is (t0_N : Int) (t0_In : SV) (t0_L : SV) (t0_Lost : SV) (v0 : Int) (K : Bool → World → Prop) (w : World) : Prop :=
  (∀ b1 w2, Ext w w2 → w.heap.size ≤ b1 → b1 < w2.heap.size →
  (cond (decide (v0 ≥ (0 : Int))) (cond (decide (v0 < t0_N)) (Idx t0_In.a t0_In.len v0 1 (fun a3 =>
  (∃ x4 : Int, w2.cell? a3 = some (.int .i64 x4) ∧
  (K (x4 == (1 : Int)) w2)))) (K false w2)) (K false w2)))

/-- postroad/postroadref08.Way -/
def sh_postroadref08_Way (t0_N : Int) (t0_In : SV) (t0_L : SV) (t0_Lost : SV) (u0 : Int) (v0 : Int) (K : Int → Int → Int → Bool → World → Prop) (w : World) : Prop :=
  (∀ b1 w2, Ext w w2 → w.heap.size ≤ b1 → b1 < w2.heap.size →
  (∀ b3 w4, Ext w2 w4 → w2.heap.size ≤ b3 → b3 < w4.heap.size →
  (Join ((Int × Int × Int × Unit) × Unit) (fun J5 =>
  (LoopT (Int × (Int × Int × Int × Unit) × Unit) (fun t7 again6 w8 =>
  (cond (decide (t7.1 < (t0_L.len : Int))) (Join ((Int × Int × Int × Unit) × Unit) (fun J9 =>
  (Idx t0_L.a t0_L.len t7.1 5 (fun a10 =>
  (∃ x11 : Int, w8.cell? (a10.add 0) = some (.int .i64 x11) ∧
  (cond (x11 == u0) (Idx t0_L.a t0_L.len t7.1 5 (fun a12 =>
  (∃ x13 : Int, w8.cell? (a12.add 1) = some (.int .i64 x13) ∧
  (cond (x13 == v0) (Idx t0_L.a t0_L.len t7.1 5 (fun a14 =>
  (∃ x15 : Int, w8.cell? ((a14.add 2).add 0) = some (.int .i64 x15) ∧ ∃ x16 : Int, w8.cell? ((a14.add 2).add 1) = some (.int .i64 x16) ∧ ∃ x17 : Int, w8.cell? ((a14.add 2).add 2) = some (.int .i64 x17) ∧
  (∀ w18, Off b3 w8 w18 →
  (K x15 x16 x17 true w18))))) (J9 ((t7.2.1.1, t7.2.1.2.1, t7.2.1.2.2.1, ()), ()) w8))))) (J9 ((t7.2.1.1, t7.2.1.2.1, t7.2.1.2.2.1, ()), ()) w8))))))
  (fun t19 w20 =>
  (again6 ((IntKind.i64.wrap (t7.1 + (1 : Int))), (t19.1.1, t19.1.2.1, t19.1.2.2.1, ()), ()) w20))) (J5 ((t7.2.1.1, t7.2.1.2.1, t7.2.1.2.2.1, ()), ()) w8))) ((0 : Int), ((0 : Int), (0 : Int), (0 : Int), ()), ()) w4))
  (fun t21 w22 =>
  (∀ w23, Off b3 w22 w23 →
  (K (0 : Int) (0 : Int) (0 : Int) false w23))))))

/-- postroad/postroadref08.Ins -/
def sh_postroadref08_Ins (t0_N : Int) (t0_In : SV) (t0_L : SV) (t0_Lost : SV) (v0 : Int) (K : SV → World → Prop) (w : World) : Prop :=
  (∀ b1 w2, Ext w w2 → w.heap.size ≤ b1 → b1 < w2.heap.size →
  (LoopT (SV × Int × Unit) (fun t4 again3 w5 =>
  (cond (decide (t4.2.1 < t0_N)) (Join (SV × Unit) (fun J6 =>
  (sh_postroadref08_Way t0_N t0_In t0_L t0_Lost t4.2.1 v0 (fun x7 x8 x9 t10 w11 =>
  (Keeps [b1] w5 w11 ∧
  (∀ b12 w13, Ext w11 w13 → w11.heap.size ≤ b12 → b12 < w13.heap.size →
  (∀ w14, Off b12 w13 w14 →
  (cond t10 (NewB [(.int .i64 t4.2.1)] w14 (fun b15 w16 =>
  (App 8 [(.int .i64 (0 : Int))] t4.1 ⟨(some ⟨b15, 0, none⟩), 1, 1⟩ w16 (fun s17 w18 =>
  (Keeps [b12, b1] w16 w18 ∧
  (J6 (s17, ()) w18)))))) (J6 (t4.1, ()) w14)))))) w5))
  (fun t19 w20 =>
  (again3 (t19.1, (IntKind.i64.wrap (t4.2.1 + (1 : Int))), ()) w20))) (K t4.1 w5))) (⟨none, 0, 0⟩, (0 : Int), ()) w2))

/-- postroad/postroadref08.Outs -/
def sh_postroadref08_Outs (t0_N : Int) (t0_In : SV) (t0_L : SV) (t0_Lost : SV) (v0 : Int) (K : SV → World → Prop) (w : World) : Prop :=
  (∀ b1 w2, Ext w w2 → w.heap.size ≤ b1 → b1 < w2.heap.size →
  (LoopT (SV × Int × Unit) (fun t4 again3 w5 =>
  (cond (decide (t4.2.1 < t0_N)) (Join (SV × Unit) (fun J6 =>
  (sh_postroadref08_Way t0_N t0_In t0_L t0_Lost v0 t4.2.1 (fun x7 x8 x9 t10 w11 =>
  (Keeps [b1] w5 w11 ∧
  (∀ b12 w13, Ext w11 w13 → w11.heap.size ≤ b12 → b12 < w13.heap.size →
  (∀ w14, Off b12 w13 w14 →
  (cond t10 (NewB [(.int .i64 t4.2.1)] w14 (fun b15 w16 =>
  (App 8 [(.int .i64 (0 : Int))] t4.1 ⟨(some ⟨b15, 0, none⟩), 1, 1⟩ w16 (fun s17 w18 =>
  (Keeps [b12, b1] w16 w18 ∧
  (J6 (s17, ()) w18)))))) (J6 (t4.1, ()) w14)))))) w5))
  (fun t19 w20 =>
  (again3 (t19.1, (IntKind.i64.wrap (t4.2.1 + (1 : Int))), ()) w20))) (K t4.1 w5))) (⟨none, 0, 0⟩, (0 : Int), ()) w2))

/-- postroad/postroadref08.Cost -/
def sh_postroadref08_Cost (t0_N : Int) (t0_In : SV) (t0_L : SV) (t0_Lost : SV) (v0 : Int) (K : Int → World → Prop) (w : World) : Prop :=
  (∀ b1 w2, Ext w w2 → w.heap.size ≤ b1 → b1 < w2.heap.size →
  (sh_postroadref08_is t0_N t0_In t0_L t0_Lost v0 (fun t3 w4 =>
  (Keeps [b1] w2 w4 ∧
  (cond (!t3) (K (0 : Int) w4) (sh_postroadref08_Ins t0_N t0_In t0_L t0_Lost v0 (fun s5 w6 =>
  (Keeps [b1] w4 w6 ∧
  (sh_postroadref08_Outs t0_N t0_In t0_L t0_Lost v0 (fun s7 w8 =>
  (Keeps [b1] w6 w8 ∧
  (Join (Int × Unit) (fun J9 =>
  (LoopT (Int × Int × Unit) (fun t11 again10 w12 =>
  (cond (decide (t11.2.1 < (s5.len : Int))) (Join (Int × Unit) (fun J13 =>
  (LoopT (Int × Int × Unit) (fun t15 again14 w16 =>
  (cond (decide (t15.2.1 < (s7.len : Int))) (Join (Int × Unit) (fun J17 =>
  (Idx s5.a s5.len t11.2.1 1 (fun a18 =>
  (∃ x19 : Int, w16.cell? a18 = some (.int .i64 x19) ∧
  (Idx s7.a s7.len t15.2.1 1 (fun a20 =>
  (∃ x21 : Int, w16.cell? a20 = some (.int .i64 x21) ∧
  (∀ w22, Ext w16 w22 →
  (cond (x19 != x21) (J17 ((IntKind.i64.wrap (t15.1 + (1 : Int))), ()) w22) (J17 (t15.1, ()) w22))))))))))
  (fun t23 w24 =>
  (again14 (t23.1, (IntKind.i64.wrap (t15.2.1 + (1 : Int))), ()) w24))) (J13 (t15.1, ()) w16))) (t11.1, (0 : Int), ()) w12))
  (fun t25 w26 =>
  (again10 (t25.1, (IntKind.i64.wrap (t11.2.1 + (1 : Int))), ()) w26))) (J9 (t11.1, ()) w12))) ((0 : Int), (0 : Int), ()) w8))
  (fun t27 w28 =>
  (Idx t0_Lost.a t0_Lost.len v0 1 (fun a29 =>
  (∃ x30 : Int, w28.cell? a29 = some (.int .i64 x30) ∧
  (K (IntKind.i64.wrap ((IntKind.i64.wrap ((IntKind.i64.wrap (t27.1 - (s5.len : Int))) - (s7.len : Int))) + x30)) w28)))))))) w6))) w4)))) w2))

/-- postroad/postroadref09.Next -/
def sh_postroadref09_Next (t0_N : Int) (t0_In : SV) (t0_L : SV) (t0_Lost : SV) (K : Int → World → Prop) (w : World) : Prop :=
  (∀ b1 w2, Ext w w2 → w.heap.size ≤ b1 → b1 < w2.heap.size →
  (sh_postroadref08_Places t0_N t0_In t0_L t0_Lost (fun s3 w4 =>
  (Keeps [b1] w2 w4 ∧
  (LoopT (Int × Int × Unit) (fun t6 again5 w7 =>
  (cond (decide (t6.2.1 < (s3.len : Int))) (Join (Int × Unit) (fun J8 =>
  (cond (decide (t6.1 < (0 : Int))) (∀ w9, Ext w7 w9 →
  (Idx s3.a s3.len t6.2.1 1 (fun a10 =>
  (∃ x11 : Int, w9.cell? a10 = some (.int .i64 x11) ∧
  (J8 (x11, ()) w9))))) (Idx s3.a s3.len t6.2.1 1 (fun a12 =>
  (∃ x13 : Int, w7.cell? a12 = some (.int .i64 x13) ∧
  (Quiet (Int) (fun r15 =>
  (.int .i64 r15)) (fun K16 w17' => sh_postroadref08_Cost t0_N t0_In t0_L t0_Lost x13 (fun x14 w17 => K16 x14 w17) w17') w7 (fun r15 =>
  (Quiet (Int) (fun r19 =>
  (.int .i64 r19)) (fun K20 w21' => sh_postroadref08_Cost t0_N t0_In t0_L t0_Lost t6.1 (fun x18 w21 => K20 x18 w21) w21') w7 (fun r19 =>
  (∀ w22, Ext w7 w22 →
  (cond (decide (r15 < r19)) (Idx s3.a s3.len t6.2.1 1 (fun a23 =>
  (∃ x24 : Int, w22.cell? a23 = some (.int .i64 x24) ∧
  (J8 (x24, ()) w22)))) (J8 (t6.1, ()) w22))))))))))))
  (fun t25 w26 =>
  (again5 (t25.1, (IntKind.i64.wrap (t6.2.1 + (1 : Int))), ()) w26))) (K t6.1 w7))) ((-1 : Int), (0 : Int), ()) w4))) w2))

/-- postroad/postroadref08.Near -/
def sh_postroadref08_Near (t0_N : Int) (t0_In : SV) (t0_L : SV) (t0_Lost : SV) (u0 : Int) (v0 : Int) (without0 : Int) (most0 : Int) (K : Bool → World → Prop) (w : World) : Prop :=
  (∀ b1 w2, Ext w w2 → w.heap.size ≤ b1 → b1 < w2.heap.size →
  (sh_postroadref08_is t0_N t0_In t0_L t0_Lost u0 (fun t3 w4 =>
  (Keeps [b1] w2 w4 ∧
  (cond (!t3) (K false w4) (sh_postroadref08_is t0_N t0_In t0_L t0_Lost v0 (fun t5 w6 =>
  (Keeps [b1] w4 w6 ∧
  (cond (!t5) (K false w6) (cond (u0 == without0) (K false w6) (cond (v0 == without0) (K false w6) (MkS 8 [(.int .i64 (0 : Int))] t0_N t0_N w6 (fun s7 w8 =>
  (Join (Unit) (fun J9 =>
  (LoopT (Int × Unit) (fun t11 again10 w12 =>
  (cond (decide (t11.1 < t0_N)) (Idx s7.a s7.len t11.1 1 (fun a13 =>
  (stL w12 a13 [(.int .i64 (-1 : Int))] 0 (fun w14 =>
  (Keeps [b1] w12 w14 ∧
  (again10 ((IntKind.i64.wrap (t11.1 + (1 : Int))), ()) w14)))))) (J9 () w12))) ((0 : Int), ()) w8))
  (fun t15 w16 =>
  (Idx s7.a s7.len u0 1 (fun a17 =>
  (stL w16 a17 [(.int .i64 (0 : Int))] 0 (fun w18 =>
  (Keeps [b1] w16 w18 ∧
  (Join (Unit) (fun J19 =>
  (LoopT (Bool × Unit) (fun t21 again20 w22 =>
  (cond t21.1 (LoopT (Bool × Int × Unit) (fun t24 again23 w25 =>
  (cond (decide (t24.2.1 < (t0_L.len : Int))) (Join (Bool × Unit) (fun J26 =>
  (Idx t0_L.a t0_L.len t24.2.1 5 (fun a27 =>
  (∃ x28 : Int, w25.cell? (a27.add 0) = some (.int .i64 x28) ∧ ∃ x29 : Int, w25.cell? (a27.add 1) = some (.int .i64 x29) ∧ ∃ x30 : Int, w25.cell? (a27.add 2) = some (.int .i64 x30) ∧ ∃ x31 : Int, w25.cell? (a27.add 3) = some (.int .i64 x31) ∧ ∃ x32 : Int, w25.cell? (a27.add 4) = some (.int .i64 x32) ∧
  (∀ b33 w34, Ext w25 w34 → w25.heap.size ≤ b33 → b33 < w34.heap.size →
  (∀ w35, Off b33 w34 w35 →
  (cond (x28 != without0) (cond (x29 != without0) (Idx s7.a s7.len x28 1 (fun a36 =>
  (∃ x37 : Int, w35.cell? a36 = some (.int .i64 x37) ∧
  (cond (decide (x37 ≥ (0 : Int))) (Idx s7.a s7.len x29 1 (fun a38 =>
  (∃ x39 : Int, w35.cell? a38 = some (.int .i64 x39) ∧
  (cond (decide (x39 < (0 : Int))) (∀ w40, Ext w35 w40 →
  (Idx s7.a s7.len x28 1 (fun a41 =>
  (∃ x42 : Int, w40.cell? a41 = some (.int .i64 x42) ∧
  (Idx s7.a s7.len x29 1 (fun a43 =>
  (∀ w44, Ext w40 w44 →
  (stL w44 a43 [(.int .i64 (IntKind.i64.wrap (x42 + x30)))] 0 (fun w45 =>
  (Keeps [b33, b1] w44 w45 ∧
  (∀ w46, Ext w45 w46 →
  (J26 (true, ()) w46)))))))))))) (Idx s7.a s7.len x28 1 (fun a47 =>
  (∃ x48 : Int, w35.cell? a47 = some (.int .i64 x48) ∧
  (Idx s7.a s7.len x29 1 (fun a49 =>
  (∃ x50 : Int, w35.cell? a49 = some (.int .i64 x50) ∧
  (∀ w51, Ext w35 w51 →
  (cond (decide ((IntKind.i64.wrap (x48 + x30)) < x50)) (Idx s7.a s7.len x28 1 (fun a52 =>
  (∃ x53 : Int, w51.cell? a52 = some (.int .i64 x53) ∧
  (Idx s7.a s7.len x29 1 (fun a54 =>
  (∀ w55, Ext w51 w55 →
  (stL w55 a54 [(.int .i64 (IntKind.i64.wrap (x53 + x30)))] 0 (fun w56 =>
  (Keeps [b33, b1] w55 w56 ∧
  (∀ w57, Ext w56 w57 →
  (J26 (true, ()) w57))))))))))) (J26 (t24.1, ()) w51))))))))))))) (∀ w58, Ext w35 w58 →
  (J26 (t24.1, ()) w58)))))) (∀ w59, Ext w35 w59 →
  (J26 (t24.1, ()) w59))) (∀ w60, Ext w35 w60 →
  (J26 (t24.1, ()) w60)))))))))
  (fun t61 w62 =>
  (again23 (t61.1, (IntKind.i64.wrap (t24.2.1 + (1 : Int))), ()) w62))) (again20 (t24.1, ()) w25))) (false, (0 : Int), ()) w22) (J19 () w22))) (true, ()) w18))
  (fun t63 w64 =>
  (Idx s7.a s7.len v0 1 (fun a65 =>
  (∃ x66 : Int, w64.cell? a65 = some (.int .i64 x66) ∧
  (cond (decide (x66 ≥ (0 : Int))) (Idx s7.a s7.len v0 1 (fun a67 =>
  (∃ x68 : Int, w64.cell? a67 = some (.int .i64 x68) ∧
  (K (decide (x68 ≤ most0)) w64)))) (K false w64))))))))))))))))))))) w4)))) w2))

/-- postroad/postroadref09.Needed -/
def sh_postroadref09_Needed (t0_N : Int) (t0_In : SV) (t0_L : SV) (t0_Lost : SV) (v0 : Int) (K : SV → World → Prop) (w : World) : Prop :=
  (∀ b1 w2, Ext w w2 → w.heap.size ≤ b1 → b1 < w2.heap.size →
  (sh_postroadref08_Ins t0_N t0_In t0_L t0_Lost v0 (fun s3 w4 =>
  (Keeps [b1] w2 w4 ∧
  (sh_postroadref08_Outs t0_N t0_In t0_L t0_Lost v0 (fun s5 w6 =>
  (Keeps [b1] w4 w6 ∧
  (LoopT (SV × Int × Unit) (fun t8 again7 w9 =>
  (cond (decide (t8.2.1 < (s3.len : Int))) (Join (SV × Unit) (fun J10 =>
  (Idx s3.a s3.len t8.2.1 1 (fun a11 =>
  (∃ x12 : Int, w9.cell? a11 = some (.int .i64 x12) ∧
  (Quiet (Int × Int × Int × Bool) (fun r17 =>
  (.tuple #[(.agg #[(.int .i64 r17.1), (.int .i64 r17.2.1), (.int .i64 r17.2.2.1)]), (.bool r17.2.2.2)])) (fun K18 w19' => sh_postroadref08_Way t0_N t0_In t0_L t0_Lost x12 v0 (fun x13 x14 x15 t16 w19 => K18 (x13, x14, x15, t16) w19) w19') w9 (fun r17 =>
  (∀ b20 w21, Ext w9 w21 → w9.heap.size ≤ b20 → b20 < w21.heap.size →
  (∀ w22, Ext w21 w22 →
  (∀ w23, Off b20 w22 w23 →
  (∀ w24, Ext w23 w24 →
  (LoopT (SV × Int × Unit) (fun t26 again25 w27 =>
  (cond (decide (t26.2.1 < (s5.len : Int))) (Join (SV × Unit) (fun J28 =>
  (Idx s5.a s5.len t26.2.1 1 (fun a29 =>
  (∃ x30 : Int, w27.cell? a29 = some (.int .i64 x30) ∧
  (Quiet (Int × Int × Int × Bool) (fun r35 =>
  (.tuple #[(.agg #[(.int .i64 r35.1), (.int .i64 r35.2.1), (.int .i64 r35.2.2.1)]), (.bool r35.2.2.2)])) (fun K36 w37' => sh_postroadref08_Way t0_N t0_In t0_L t0_Lost v0 x30 (fun x31 x32 x33 t34 w37 => K36 (x31, x32, x33, t34) w37) w37') w27 (fun r35 =>
  (∀ b38 w39, Ext w27 w39 → w27.heap.size ≤ b38 → b38 < w39.heap.size →
  (∀ w40, Ext w39 w40 →
  (∀ w41, Off b38 w40 w41 →
  (∀ w42, Ext w41 w42 →
  (Idx s3.a s3.len t8.2.1 1 (fun a43 =>
  (∃ x44 : Int, w42.cell? a43 = some (.int .i64 x44) ∧
  (Idx s5.a s5.len t26.2.1 1 (fun a45 =>
  (∃ x46 : Int, w42.cell? a45 = some (.int .i64 x46) ∧
  (cond (x44 != x46) (Idx s3.a s3.len t8.2.1 1 (fun a47 =>
  (∃ x48 : Int, w42.cell? a47 = some (.int .i64 x48) ∧
  (Idx s5.a s5.len t26.2.1 1 (fun a49 =>
  (∃ x50 : Int, w42.cell? a49 = some (.int .i64 x50) ∧
  (∀ w52, Ext w42 w52 →
  (sh_postroadref08_Near t0_N t0_In t0_L t0_Lost x48 x50 v0 (IntKind.i64.wrap (r17.1 + r35.1)) (fun t51 w53 =>
  (Keeps [b38, b20, b1] w52 w53 ∧
  (∀ w54, Ext w53 w54 →
  (cond (!t51) (Idx s3.a s3.len t8.2.1 1 (fun a55 =>
  (∃ x56 : Int, w54.cell? a55 = some (.int .i64 x56) ∧
  (Idx s5.a s5.len t26.2.1 1 (fun a57 =>
  (∃ x58 : Int, w54.cell? a57 = some (.int .i64 x58) ∧
  (∀ w59, Ext w54 w59 →
  (NewB [(.int .i64 x56), (.int .i64 x58), (.int .i64 (IntKind.i64.wrap (r17.1 + r35.1))), (.int .i64 v0), (.int .i64 (-1 : Int))] w59 (fun b60 w61 =>
  (∀ w62, Ext w61 w62 →
  (App 40 [(.int .i64 (0 : Int)), (.int .i64 (0 : Int)), (.int .i64 (0 : Int)), (.int .i64 (0 : Int)), (.int .i64 (0 : Int))] t26.1 ⟨(some ⟨b60, 0, none⟩), 1, 1⟩ w62 (fun s63 w64 =>
  (Keeps [b38, b20, b1] w62 w64 ∧
  (∀ w65, Ext w64 w65 →
  (J28 (s63, ()) w65))))))))))))))) (J28 (t26.1, ()) w54))))) w52)))))))) (∀ w66, Ext w42 w66 →
  (J28 (t26.1, ()) w66)))))))))))))))))))
  (fun t67 w68 =>
  (again25 (t67.1, (IntKind.i64.wrap (t26.2.1 + (1 : Int))), ()) w68))) (J10 (t26.1, ()) w27))) (t8.1, (0 : Int), ()) w24)))))))))))
  (fun t69 w70 =>
  (again7 (t69.1, (IntKind.i64.wrap (t8.2.1 + (1 : Int))), ()) w70))) (K t8.1 w9))) (⟨none, 0, 0⟩, (0 : Int), ()) w6))) w4))) w2))

/-- postroad/postroadref08.Put -/
def sh_postroadref08_Put (t0_N : Int) (t0_In : SV) (t0_L : SV) (t0_Lost : SV) (u0 : Int) (v0 : Int) (w_0 : Int) (mid0 : Int) (K : Int → SV → SV → SV → Bool → World → Prop) (w : World) : Prop :=
  (∀ b1 w2, Ext w w2 → w.heap.size ≤ b1 → b1 < w2.heap.size →
  (∀ b3 w4, Ext w2 w4 → w2.heap.size ≤ b3 → b3 < w4.heap.size →
  (sh_postroadref08_Way t0_N t0_In t0_L t0_Lost u0 v0 (fun x5 x6 x7 t8 w9 =>
  (Keeps [b3, b1] w4 w9 ∧
  (∀ b10 w11, Ext w9 w11 → w9.heap.size ≤ b10 → b10 < w11.heap.size →
  (∀ w12, Off b10 w11 w12 →
  (Join ((Int × SV × SV × SV × Unit) × Unit) (fun J13 =>
  (sh_postroadref08_is t0_N t0_In t0_L t0_Lost u0 (fun t14 w15 =>
  (Keeps [b3, b10, b1] w12 w15 ∧
  (cond (!t14) (∀ w16, Off b3 w15 w16 →
  (K t0_N t0_In t0_L t0_Lost false w16)) (sh_postroadref08_is t0_N t0_In t0_L t0_Lost v0 (fun t17 w18 =>
  (Keeps [b3, b10, b1] w15 w18 ∧
  (cond (!t17) (∀ w19, Off b3 w18 w19 →
  (K t0_N t0_In t0_L t0_Lost false w19)) (cond (u0 == v0) (∀ w20, Off b3 w18 w20 →
  (K t0_N t0_In t0_L t0_Lost false w20)) (cond (decide (w_0 < (0 : Int))) (∀ w21, Off b3 w18 w21 →
  (K t0_N t0_In t0_L t0_Lost false w21)) (cond (decide (mid0 < (0 : Int))) (∀ w22, Off b3 w18 w22 →
  (K t0_N t0_In t0_L t0_Lost false w22)) (cond t8 (cond (decide (x5 ≤ w_0)) (∀ w23, Off b3 w18 w23 →
  (K t0_N t0_In t0_L t0_Lost false w23)) (J13 (((0 : Int), ⟨none, 0, 0⟩, ⟨none, 0, 0⟩, ⟨none, 0, 0⟩, ()), ()) w18)) (J13 (((0 : Int), ⟨none, 0, 0⟩, ⟨none, 0, 0⟩, ⟨none, 0, 0⟩, ()), ()) w18)))))))) w15)))) w12))
  (fun t24 w25 =>
  (Join (SV × Unit) (fun J26 =>
  (LoopT (SV × Int × Unit) (fun t28 again27 w29 =>
  (cond (decide (t28.2.1 < (t0_L.len : Int))) (Join (SV × Unit) (fun J30 =>
  (Idx t0_L.a t0_L.len t28.2.1 5 (fun a31 =>
  (∃ x32 : Int, w29.cell? (a31.add 0) = some (.int .i64 x32) ∧
  (cond (x32 != u0) (Idx t0_L.a t0_L.len t28.2.1 5 (fun a33 =>
  (∃ x34 : Int, w29.cell? (a33.add 0) = some (.int .i64 x34) ∧ ∃ x35 : Int, w29.cell? (a33.add 1) = some (.int .i64 x35) ∧ ∃ x36 : Int, w29.cell? (a33.add 2) = some (.int .i64 x36) ∧ ∃ x37 : Int, w29.cell? (a33.add 3) = some (.int .i64 x37) ∧ ∃ x38 : Int, w29.cell? (a33.add 4) = some (.int .i64 x38) ∧
  (NewB [(.int .i64 x34), (.int .i64 x35), (.int .i64 x36), (.int .i64 x37), (.int .i64 x38)] w29 (fun b39 w40 =>
  (App 40 [(.int .i64 (0 : Int)), (.int .i64 (0 : Int)), (.int .i64 (0 : Int)), (.int .i64 (0 : Int)), (.int .i64 (0 : Int))] t28.1 ⟨(some ⟨b39, 0, none⟩), 1, 1⟩ w40 (fun s41 w42 =>
  (Keeps [b3, b10, b1] w40 w42 ∧
  (J30 (s41, ()) w42))))))))) (Idx t0_L.a t0_L.len t28.2.1 5 (fun a43 =>
  (∃ x44 : Int, w29.cell? (a43.add 1) = some (.int .i64 x44) ∧
  (cond (x44 != v0) (Idx t0_L.a t0_L.len t28.2.1 5 (fun a45 =>
  (∃ x46 : Int, w29.cell? (a45.add 0) = some (.int .i64 x46) ∧ ∃ x47 : Int, w29.cell? (a45.add 1) = some (.int .i64 x47) ∧ ∃ x48 : Int, w29.cell? (a45.add 2) = some (.int .i64 x48) ∧ ∃ x49 : Int, w29.cell? (a45.add 3) = some (.int .i64 x49) ∧ ∃ x50 : Int, w29.cell? (a45.add 4) = some (.int .i64 x50) ∧
  (NewB [(.int .i64 x46), (.int .i64 x47), (.int .i64 x48), (.int .i64 x49), (.int .i64 x50)] w29 (fun b51 w52 =>
  (App 40 [(.int .i64 (0 : Int)), (.int .i64 (0 : Int)), (.int .i64 (0 : Int)), (.int .i64 (0 : Int)), (.int .i64 (0 : Int))] t28.1 ⟨(some ⟨b51, 0, none⟩), 1, 1⟩ w52 (fun s53 w54 =>
  (Keeps [b3, b10, b1] w52 w54 ∧
  (J30 (s53, ()) w54))))))))) (J30 (t28.1, ()) w29))))))))))
  (fun t55 w56 =>
  (again27 (t55.1, (IntKind.i64.wrap (t28.2.1 + (1 : Int))), ()) w56))) (J26 (t28.1, ()) w29))) (⟨none, 0, 0⟩, (0 : Int), ()) w25))
  (fun t57 w58 =>
  (NewB [(.int .i64 u0), (.int .i64 v0), (.int .i64 w_0), (.int .i64 mid0), (.int .i64 (-1 : Int))] w58 (fun b59 w60 =>
  (App 40 [(.int .i64 (0 : Int)), (.int .i64 (0 : Int)), (.int .i64 (0 : Int)), (.int .i64 (0 : Int)), (.int .i64 (0 : Int))] t57.1 ⟨(some ⟨b59, 0, none⟩), 1, 1⟩ w60 (fun s61 w62 =>
  (Keeps [b3, b10, b1] w60 w62 ∧
  (∀ w63, Off b1 w62 w63 →
  (∀ w64, Off b3 w63 w64 →
  (K t0_N t0_In s61 t0_Lost true w64)))))))))))))))) w4)))

/-- postroad/postroadref08.Take -/
def sh_postroadref08_Take (t0_N : Int) (t0_In : SV) (t0_L : SV) (t0_Lost : SV) (v0 : Int) (K : Int → SV → SV → SV → Bool → World → Prop) (w : World) : Prop :=
  (∀ b1 w2, Ext w w2 → w.heap.size ≤ b1 → b1 < w2.heap.size →
  (∀ b3 w4, Ext w2 w4 → w2.heap.size ≤ b3 → b3 < w4.heap.size →
  (sh_postroadref08_is t0_N t0_In t0_L t0_Lost v0 (fun t5 w6 =>
  (Keeps [b3, b1] w4 w6 ∧
  (cond (!t5) (∀ w7, Off b3 w6 w7 →
  (K t0_N t0_In t0_L t0_Lost false w7)) (∀ b8 w9, Ext w6 w9 → w6.heap.size ≤ b8 → b8 < w9.heap.size →
  (∀ w10, Off b8 w9 w10 →
  (Join ((Int × SV × SV × SV × Unit) × Unit) (fun J11 =>
  (LoopT (Int × (Int × SV × SV × SV × Unit) × Unit) (fun t13 again12 w14 =>
  (cond (decide (t13.1 < t0_N)) (Idx t0_In.a t0_In.len t13.1 1 (fun a15 =>
  (∃ x16 : Int, w14.cell? a15 = some (.int .i64 x16) ∧
  (Idx t0_Lost.a t0_Lost.len t13.1 1 (fun a17 =>
  (∃ x18 : Int, w14.cell? a17 = some (.int .i64 x18) ∧
  (sh_postroadref08_Way t0_N t0_In t0_L t0_Lost v0 t13.1 (fun x19 x20 x21 t22 w23 =>
  (Keeps [b8, b3, b1] w14 w23 ∧
  (∀ b24 w25, Ext w23 w25 → w23.heap.size ≤ b24 → b24 < w25.heap.size →
  (∀ w26, Off b24 w25 w26 →
  (sh_postroadref08_Way t0_N t0_In t0_L t0_Lost t13.1 v0 (fun x27 x28 x29 t30 w31 =>
  (Keeps [b24, b8, b3, b1] w26 w31 ∧
  (∀ b32 w33, Ext w31 w33 → w31.heap.size ≤ b32 → b32 < w33.heap.size →
  (∀ w34, Off b32 w33 w34 →
  (Join (Int × Unit) (fun J35 =>
  (cond (t13.1 == v0) (J35 ((0 : Int), ()) w34) (J35 (x16, ()) w34)))
  (fun t36 w37 =>
  (Join (Int × Unit) (fun J38 =>
  (cond t22 (J38 ((IntKind.i64.wrap (x18 + (1 : Int))), ()) w37) (cond t30 (J38 ((IntKind.i64.wrap (x18 + (1 : Int))), ()) w37) (J38 (x18, ()) w37))))
  (fun t39 w40 =>
  (NewB [(.int .i64 t36.1)] w40 (fun b41 w42 =>
  (App 8 [(.int .i64 (0 : Int))] t13.2.1.2.1 ⟨(some ⟨b41, 0, none⟩), 1, 1⟩ w42 (fun s43 w44 =>
  (Keeps [b32, b24, b8, b3, b1] w42 w44 ∧
  (∀ w45, Off b8 w44 w45 →
  (NewB [(.int .i64 t39.1)] w45 (fun b46 w47 =>
  (App 8 [(.int .i64 (0 : Int))] t13.2.1.2.2.2.1 ⟨(some ⟨b46, 0, none⟩), 1, 1⟩ w47 (fun s48 w49 =>
  (Keeps [b8, b32, b24, b3, b1] w47 w49 ∧
  (∀ w50, Off b8 w49 w50 →
  (again12 ((IntKind.i64.wrap (t13.1 + (1 : Int))), (t13.2.1.1, s43, t13.2.1.2.2.1, s48, ()), ()) w50))))))))))))))))))))) w26))))) w14))))))) (J11 ((t13.2.1.1, t13.2.1.2.1, t13.2.1.2.2.1, t13.2.1.2.2.2.1, ()), ()) w14))) ((0 : Int), (t0_N, ⟨none, 0, 0⟩, ⟨none, 0, 0⟩, ⟨none, 0, 0⟩, ()), ()) w10))
  (fun t51 w52 =>
  (Join ((Int × SV × SV × SV × Unit) × Unit) (fun J53 =>
  (LoopT (Int × (Int × SV × SV × SV × Unit) × Unit) (fun t55 again54 w56 =>
  (cond (decide (t55.1 < (t0_L.len : Int))) (Join ((Int × SV × SV × SV × Unit) × Unit) (fun J57 =>
  (Idx t0_L.a t0_L.len t55.1 5 (fun a58 =>
  (∃ x59 : Int, w56.cell? (a58.add 0) = some (.int .i64 x59) ∧
  (cond (x59 != v0) (Idx t0_L.a t0_L.len t55.1 5 (fun a60 =>
  (∃ x61 : Int, w56.cell? (a60.add 1) = some (.int .i64 x61) ∧
  (cond (x61 != v0) (Idx t0_L.a t0_L.len t55.1 5 (fun a62 =>
  (∃ x63 : Int, w56.cell? (a62.add 0) = some (.int .i64 x63) ∧ ∃ x64 : Int, w56.cell? (a62.add 1) = some (.int .i64 x64) ∧ ∃ x65 : Int, w56.cell? (a62.add 2) = some (.int .i64 x65) ∧ ∃ x66 : Int, w56.cell? (a62.add 3) = some (.int .i64 x66) ∧ ∃ x67 : Int, w56.cell? (a62.add 4) = some (.int .i64 x67) ∧
  (∀ w68, Ext w56 w68 →
  (NewB [(.int .i64 x63), (.int .i64 x64), (.int .i64 x65), (.int .i64 x66), (.int .i64 x67)] w68 (fun b69 w70 =>
  (∀ w71, Ext w70 w71 →
  (App 40 [(.int .i64 (0 : Int)), (.int .i64 (0 : Int)), (.int .i64 (0 : Int)), (.int .i64 (0 : Int)), (.int .i64 (0 : Int))] t55.2.1.2.2.1 ⟨(some ⟨b69, 0, none⟩), 1, 1⟩ w71 (fun s72 w73 =>
  (Keeps [b8, b3, b1] w71 w73 ∧
  (∀ w74, Ext w73 w74 →
  (∀ w75, Off b8 w74 w75 →
  (∀ w76, Ext w75 w76 →
  (J57 ((t55.2.1.1, t55.2.1.2.1, s72, t55.2.1.2.2.2.1, ()), ()) w76)))))))))))))) (J57 ((t55.2.1.1, t55.2.1.2.1, t55.2.1.2.2.1, t55.2.1.2.2.2.1, ()), ()) w56))))) (J57 ((t55.2.1.1, t55.2.1.2.1, t55.2.1.2.2.1, t55.2.1.2.2.2.1, ()), ()) w56))))))
  (fun t77 w78 =>
  (again54 ((IntKind.i64.wrap (t55.1 + (1 : Int))), (t77.1.1, t77.1.2.1, t77.1.2.2.1, t77.1.2.2.2.1, ()), ()) w78))) (J53 ((t55.2.1.1, t55.2.1.2.1, t55.2.1.2.2.1, t55.2.1.2.2.2.1, ()), ()) w56))) ((0 : Int), (t51.1.1, t51.1.2.1, t51.1.2.2.1, t51.1.2.2.2.1, ()), ()) w52))
  (fun t79 w80 =>
  (∀ w81, Off b3 w80 w81 →
  (K t79.1.1 t79.1.2.1 t79.1.2.2.1 t79.1.2.2.2.1 true w81))))))))))) w4)))

/-- postroad/postroadref09.Build -/
def sh_postroadref09_Build (g0_M_N : Int) (g0_M_Arcs : SV) (g0_Kept : SV) (K : SV → SV → World → Prop) (w : World) : Prop :=
  (∀ b1 w2, Ext w w2 → w.heap.size ≤ b1 → b1 < w2.heap.size →
  (∀ b3 w4, Ext w2 w4 → w2.heap.size ≤ b3 → b3 < w4.heap.size →
  (sh_postroadref08_New g0_M_N g0_M_Arcs g0_Kept (fun x5 s6 s7 s8 w9 =>
  (Keeps [b3, b1] w4 w9 ∧
  (∀ b10 w11, Ext w9 w11 → w9.heap.size ≤ b10 → b10 < w11.heap.size →
  (∀ w12, Off b10 w11 w12 →
  (∀ b13 w14, Ext w12 w14 → w12.heap.size ≤ b13 → b13 < w14.heap.size →
  (∀ w15, Off b13 w14 w15 →
  (Join ((SV × SV × Unit) × Unit) (fun J16 =>
  (LoopT (Int × (SV × SV × Unit) × Unit) (fun t18 again17 w19 =>
  (cond (decide (t18.1 < g0_M_N)) (NewB [(.int .i64 (0 : Int))] w19 (fun b20 w21 =>
  (App 8 [(.int .i64 (0 : Int))] t18.2.1.1 ⟨(some ⟨b20, 0, none⟩), 1, 1⟩ w21 (fun s22 w23 =>
  (Keeps [b13, b10, b3, b1] w21 w23 ∧
  (∀ w24, Off b13 w23 w24 →
  (again17 ((IntKind.i64.wrap (t18.1 + (1 : Int))), (s22, t18.2.1.2.1, ()), ()) w24))))))) (J16 ((t18.2.1.1, t18.2.1.2.1, ()), ()) w19))) ((0 : Int), (⟨none, 0, 0⟩, ⟨none, 0, 0⟩, ()), ()) w15))
  (fun t25 w26 =>
  (Join ((SV × SV × Unit) × Unit) (fun J27 =>
  (LoopT (Int × (Int × SV × SV × SV × Unit) × (SV × SV × Unit) × Unit) (fun t29 again28 w30 =>
  (cond (decide (t29.1 < g0_M_N)) (Join ((Int × SV × SV × SV × Unit) × (SV × SV × Unit) × Unit) (fun J31 =>
  (sh_postroadref09_Next t29.2.1.1 t29.2.1.2.1 t29.2.1.2.2.1 t29.2.1.2.2.2.1 (fun x32 w33 =>
  (Keeps [b10, b13, b3, b1] w30 w33 ∧
  (Idx t29.2.2.1.1.a t29.2.2.1.1.len x32 1 (fun a34 =>
  (stL w33 a34 [(.int .i64 t29.1)] 0 (fun w35 =>
  (Keeps [b10, b13, b3, b1] w33 w35 ∧
  (sh_postroadref09_Needed t29.2.1.1 t29.2.1.2.1 t29.2.1.2.2.1 t29.2.1.2.2.2.1 x32 (fun s36 w37 =>
  (Keeps [b10, b13, b3, b1] w35 w37 ∧
  (Join ((Int × SV × SV × SV × Unit) × Unit) (fun J38 =>
  (LoopT (Int × (Int × SV × SV × SV × Unit) × Unit) (fun t40 again39 w41 =>
  (cond (decide (t40.1 < (s36.len : Int))) (Idx s36.a s36.len t40.1 5 (fun a42 =>
  (∃ x43 : Int, w41.cell? (a42.add 0) = some (.int .i64 x43) ∧
  (Idx s36.a s36.len t40.1 5 (fun a44 =>
  (∃ x45 : Int, w41.cell? (a44.add 1) = some (.int .i64 x45) ∧
  (Idx s36.a s36.len t40.1 5 (fun a46 =>
  (∃ x47 : Int, w41.cell? ((a46.add 2).add 0) = some (.int .i64 x47) ∧
  (Idx s36.a s36.len t40.1 5 (fun a48 =>
  (∃ x49 : Int, w41.cell? ((a48.add 2).add 1) = some (.int .i64 x49) ∧
  (∀ w55, Ext w41 w55 →
  (sh_postroadref08_Put t40.2.1.1 t40.2.1.2.1 t40.2.1.2.2.1 t40.2.1.2.2.2.1 x43 x45 x47 x49 (fun x50 s51 s52 s53 t54 w56 =>
  (KeepZ (zI (fun _ => False) w41 w55) w55 w56 ∧
  (Keeps [b10, b13, b3, b1] w55 w56 ∧
  (∀ b57 w58, Ext w56 w58 →
  ((zI (fun _ => False) w41 w55) b57 ∨ w56.heap.size ≤ b57) → b57 < w58.heap.size →
  (∀ w59, Ext w58 w59 →
  (∀ w60, Off b57 w59 w60 →
  (∀ w61, Ext w60 w61 →
  (∀ w62, Off b10 w61 w62 →
  (again39 ((IntKind.i64.wrap (t40.1 + (1 : Int))), (x50, s51, s52, s53, ()), ()) w62))))))))) w55)))))))))))))) (J38 ((t40.2.1.1, t40.2.1.2.1, t40.2.1.2.2.1, t40.2.1.2.2.2.1, ()), ()) w41))) ((0 : Int), (t29.2.1.1, t29.2.1.2.1, t29.2.1.2.2.1, t29.2.1.2.2.2.1, ()), ()) w37))
  (fun t63 w64 =>
  (sh_postroadref08_Outs t63.1.1 t63.1.2.1 t63.1.2.2.1 t63.1.2.2.2.1 x32 (fun s65 w66 =>
  (Keeps [b10, b13, b3, b1] w64 w66 ∧
  (Join ((SV × SV × Unit) × Unit) (fun J67 =>
  (LoopT (Int × (SV × SV × Unit) × Unit) (fun t69 again68 w70 =>
  (cond (decide (t69.1 < (s65.len : Int))) (Idx s65.a s65.len t69.1 1 (fun a71 =>
  (∃ x72 : Int, w70.cell? a71 = some (.int .i64 x72) ∧
  (Quiet (Int × Int × Int × Bool) (fun r77 =>
  (.tuple #[(.agg #[(.int .i64 r77.1), (.int .i64 r77.2.1), (.int .i64 r77.2.2.1)]), (.bool r77.2.2.2)])) (fun K78 w79' => sh_postroadref08_Way t63.1.1 t63.1.2.1 t63.1.2.2.1 t63.1.2.2.2.1 x32 x72 (fun x73 x74 x75 t76 w79 => K78 (x73, x74, x75, t76) w79) w79') w70 (fun r77 =>
  (∀ b80 w81, Ext w70 w81 → w70.heap.size ≤ b80 → b80 < w81.heap.size →
  (∀ w82, Ext w81 w82 →
  (∀ w83, Off b80 w82 w83 →
  (∀ w84, Ext w83 w84 →
  (Idx s65.a s65.len t69.1 1 (fun a85 =>
  (∃ x86 : Int, w84.cell? a85 = some (.int .i64 x86) ∧
  (∀ w87, Ext w84 w87 →
  (NewB [(.int .i64 x32), (.int .i64 x86), (.int .i64 r77.1), (.int .i64 r77.2.1), (.int .i64 r77.2.2.1)] w87 (fun b88 w89 =>
  (∀ w90, Ext w89 w90 →
  (App 40 [(.int .i64 (0 : Int)), (.int .i64 (0 : Int)), (.int .i64 (0 : Int)), (.int .i64 (0 : Int)), (.int .i64 (0 : Int))] t69.2.1.2.1 ⟨(some ⟨b88, 0, none⟩), 1, 1⟩ w90 (fun s91 w92 =>
  (Keeps [b80, b13, b10, b3, b1] w90 w92 ∧
  (∀ w93, Ext w92 w93 →
  (∀ w94, Off b13 w93 w94 →
  (∀ w95, Ext w94 w95 →
  (again68 ((IntKind.i64.wrap (t69.1 + (1 : Int))), (t69.2.1.1, s91, ()), ()) w95))))))))))))))))))))))) (J67 ((t69.2.1.1, t69.2.1.2.1, ()), ()) w70))) ((0 : Int), (t29.2.2.1.1, t29.2.2.1.2.1, ()), ()) w66))
  (fun t96 w97 =>
  (sh_postroadref08_Ins t63.1.1 t63.1.2.1 t63.1.2.2.1 t63.1.2.2.2.1 x32 (fun s98 w99 =>
  (Keeps [b13, b10, b3, b1] w97 w99 ∧
  (Join ((SV × SV × Unit) × Unit) (fun J100 =>
  (LoopT (Int × (SV × SV × Unit) × Unit) (fun t102 again101 w103 =>
  (cond (decide (t102.1 < (s98.len : Int))) (Idx s98.a s98.len t102.1 1 (fun a104 =>
  (∃ x105 : Int, w103.cell? a104 = some (.int .i64 x105) ∧
  (Quiet (Int × Int × Int × Bool) (fun r110 =>
  (.tuple #[(.agg #[(.int .i64 r110.1), (.int .i64 r110.2.1), (.int .i64 r110.2.2.1)]), (.bool r110.2.2.2)])) (fun K111 w112' => sh_postroadref08_Way t63.1.1 t63.1.2.1 t63.1.2.2.1 t63.1.2.2.2.1 x105 x32 (fun x106 x107 x108 t109 w112 => K111 (x106, x107, x108, t109) w112) w112') w103 (fun r110 =>
  (∀ b113 w114, Ext w103 w114 → w103.heap.size ≤ b113 → b113 < w114.heap.size →
  (∀ w115, Ext w114 w115 →
  (∀ w116, Off b113 w115 w116 →
  (∀ w117, Ext w116 w117 →
  (Idx s98.a s98.len t102.1 1 (fun a118 =>
  (∃ x119 : Int, w117.cell? a118 = some (.int .i64 x119) ∧
  (∀ w120, Ext w117 w120 →
  (NewB [(.int .i64 x119), (.int .i64 x32), (.int .i64 r110.1), (.int .i64 r110.2.1), (.int .i64 r110.2.2.1)] w120 (fun b121 w122 =>
  (∀ w123, Ext w122 w123 →
  (App 40 [(.int .i64 (0 : Int)), (.int .i64 (0 : Int)), (.int .i64 (0 : Int)), (.int .i64 (0 : Int)), (.int .i64 (0 : Int))] t102.2.1.2.1 ⟨(some ⟨b121, 0, none⟩), 1, 1⟩ w123 (fun s124 w125 =>
  (Keeps [b113, b13, b10, b3, b1] w123 w125 ∧
  (∀ w126, Ext w125 w126 →
  (∀ w127, Off b13 w126 w127 →
  (∀ w128, Ext w127 w128 →
  (again101 ((IntKind.i64.wrap (t102.1 + (1 : Int))), (t102.2.1.1, s124, ()), ()) w128))))))))))))))))))))))) (J100 ((t102.2.1.1, t102.2.1.2.1, ()), ()) w103))) ((0 : Int), (t96.1.1, t96.1.2.1, ()), ()) w99))
  (fun t129 w130 =>
  (sh_postroadref08_Take t63.1.1 t63.1.2.1 t63.1.2.2.1 t63.1.2.2.2.1 x32 (fun x131 s132 s133 s134 t135 w136 =>
  (Keeps [b13, b10, b3, b1] w130 w136 ∧
  (∀ b137 w138, Ext w136 w138 → w136.heap.size ≤ b137 → b137 < w138.heap.size →
  (∀ w139, Off b137 w138 w139 →
  (∀ w140, Off b10 w139 w140 →
  (J31 ((x131, s132, s133, s134, ()), (t129.1.1, t129.1.2.1, ()), ()) w140)))))) w130))))) w97))))) w64))))) w35)))))))) w30))
  (fun t141 w142 =>
  (again28 ((IntKind.i64.wrap (t29.1 + (1 : Int))), (t141.1.1, t141.1.2.1, t141.1.2.2.1, t141.1.2.2.2.1, ()), (t141.2.1.1, t141.2.1.2.1, ()), ()) w142))) (J27 ((t29.2.2.1.1, t29.2.2.1.2.1, ()), ()) w30))) ((0 : Int), (x5, s6, s7, s8, ()), (t25.1.1, t25.1.2.1, ()), ()) w26))
  (fun t143 w144 =>
  (∀ w145, Off b3 w144 w145 →
  (K t143.1.1 t143.1.2.1 w145)))))))))))) w4)))

/-- postroad/postroadref09.Of -/
def sh_postroadref09_Of (m0_N : Int) (m0_Arcs : SV) (K : SV → SV → World → Prop) (w : World) : Prop :=
  (∀ b1 w2, Ext w w2 → w.heap.size ≤ b1 → b1 < w2.heap.size →
  (∀ b3 w4, Ext w2 w4 → w2.heap.size ≤ b3 → b3 < w4.heap.size →
  (sh_postroadref06_New m0_N m0_Arcs (fun x5 s6 s7 t8 w9 =>
  (Keeps [b3, b1] w4 w9 ∧
  (∀ b10 w11, Ext w9 w11 → w9.heap.size ≤ b10 → b10 < w11.heap.size →
  (∀ w12, Off b10 w11 w12 →
  (sh_postroadref09_Build x5 s6 s7 (fun s13 s14 w15 =>
  (Keeps [b10, b3, b1] w12 w15 ∧
  (∀ w16, Off b3 w15 w16 →
  (K s13 s14 w16)))) w12))))) w4)))

/-- postroad/postroadref07.Walk -/
def sh_postroadref07_Walk (m0_N : Int) (m0_Arcs : SV) (s0 : Int) (arcs0 : SV) (K : Int → Int → Bool → World → Prop) (w : World) : Prop :=
  (∀ b1 w2, Ext w w2 → w.heap.size ≤ b1 → b1 < w2.heap.size →
  (sh_postroadref05_Check m0_N m0_Arcs (fun x3 w4 =>
  (Keeps [b1] w2 w4 ∧
  (cond (x3 != (0 : Int)) (K (0 : Int) (0 : Int) false w4) (cond (decide (s0 < (0 : Int))) (K (0 : Int) (0 : Int) false w4) (cond (decide (s0 ≥ m0_N)) (K (0 : Int) (0 : Int) false w4) (Join (Int × Int × Unit) (fun J5 =>
  (LoopT (Int × Int × Int × Unit) (fun t7 again6 w8 =>
  (cond (decide (t7.2.2.1 < (arcs0.len : Int))) (Idx arcs0.a arcs0.len t7.2.2.1 1 (fun a9 =>
  (∃ x10 : Int, w8.cell? a9 = some (.int .i64 x10) ∧
  (cond (decide (x10 < (0 : Int))) (K (0 : Int) (0 : Int) false w8) (cond (decide (x10 ≥ (m0_Arcs.len : Int))) (K (0 : Int) (0 : Int) false w8) (Idx m0_Arcs.a m0_Arcs.len x10 3 (fun a11 =>
  (∃ x12 : Int, w8.cell? (a11.add 0) = some (.int .i64 x12) ∧
  (cond (x12 != t7.1) (K (0 : Int) (0 : Int) false w8) (Idx m0_Arcs.a m0_Arcs.len x10 3 (fun a13 =>
  (∃ x14 : Int, w8.cell? (a13.add 2) = some (.int .i64 x14) ∧
  (Idx m0_Arcs.a m0_Arcs.len x10 3 (fun a15 =>
  (∃ x16 : Int, w8.cell? (a15.add 1) = some (.int .i64 x16) ∧
  (again6 (x16, (IntKind.i64.wrap (t7.2.1 + x14)), (IntKind.i64.wrap (t7.2.2.1 + (1 : Int))), ()) w8)))))))))))))))) (J5 (t7.1, t7.2.1, ()) w8))) (s0, (0 : Int), (0 : Int), ()) w4))
  (fun t17 w18 =>
  (K t17.1 t17.2.1 true w18)))))))) w2))

/-- postroad/postroadlaw13.UnpackWays -/
def sh_postroadlaw13_UnpackWays (n0 : Int) (arcs0 : SV) (K : Bool → World → Prop) (w : World) : Prop :=
  (sh_postroadref07_Of n0 arcs0 (fun x1 s2 w3 =>
  (∀ b4 w5, Ext w3 w5 → w3.heap.size ≤ b4 → b4 < w5.heap.size →
  (∀ w6, Off b4 w5 w6 →
  (sh_postroadref09_Of x1 s2 (fun s7 s8 w9 =>
  (Keeps [b4] w6 w9 ∧
  (∀ b10 w11, Ext w9 w11 → w9.heap.size ≤ b10 → b10 < w11.heap.size →
  (∀ w12, Off b10 w11 w12 →
  (sh_hier_New s7 s8 (fun p13 w14 =>
  (Keeps [b10, b4] w12 w14 ∧
  (Join (Unit) (fun J15 =>
  (LoopT (Int × Unit) (fun t17 again16 w18 =>
  (cond (decide (t17.1 < (s8.len : Int))) (Idx s8.a s8.len t17.1 5 (fun a19 =>
  (∃ x20 : Int, w18.cell? (a19.add 0) = some (.int .i64 x20) ∧ ∃ x21 : Int, w18.cell? (a19.add 1) = some (.int .i64 x21) ∧ ∃ x22 : Int, w18.cell? (a19.add 2) = some (.int .i64 x22) ∧ ∃ x23 : Int, w18.cell? (a19.add 3) = some (.int .i64 x23) ∧ ∃ x24 : Int, w18.cell? (a19.add 4) = some (.int .i64 x24) ∧
  (∀ b25 w26, Ext w18 w26 → w18.heap.size ≤ b25 → b25 < w26.heap.size →
  (∀ w27, Off b25 w26 w27 →
  (sh_unpack_Open p13 t17.1 (fun s28 w29 =>
  (Keeps [b25, b10, b4] w27 w29 ∧
  (sh_postroadref07_Walk x1 s2 x20 s28 (fun x30 x31 t32 w33 =>
  (Keeps [b25, b10, b4] w29 w33 ∧
  (sh_unpack_Deep p13 t17.1 (fun x34 w35 =>
  (Keeps [b25, b10, b4] w33 w35 ∧
  (cond (!t32) (K false w35) (cond (x30 != x21) (K false w35) (cond (x31 != x22) (K false w35) (cond ((s28.len : Int) == (0 : Int)) (K false w35) (cond (decide (x34 < (1 : Int))) (K false w35) (cond (decide (x34 > x1)) (K false w35) (cond (!((x34 == (1 : Int)) == (x23 == (-1 : Int)))) (K false w35) (again16 ((IntKind.i64.wrap (t17.1 + (1 : Int))), ()) w35)))))))))) w33))) w29))) w27)))))) (J15 () w18))) ((0 : Int), ()) w14))
  (fun t36 w37 =>
  (sh_postroadlaw13_known  (fun t38 w39 =>
  (Keeps [b10, b4] w37 w39 ∧
  (K t38 w39))) w37))))) w12))))) w6)))) w)

/-- postroad/postroadlaw13.UnpackHalves -/
def sh_postroadlaw13_UnpackHalves (h0_Rank : SV) (h0_Ways : SV) (K : Bool → World → Prop) (w : World) : Prop :=
  (∀ b1 w2, Ext w w2 → w.heap.size ≤ b1 → b1 < w2.heap.size →
  (sh_postroadref11_Fit h0_Rank h0_Ways (fun t3 w4 =>
  (Keeps [b1] w2 w4 ∧
  (cond (!t3) (sh_postroadlaw13_known  (fun t5 w6 =>
  (Keeps [b1] w4 w6 ∧
  (K t5 w6))) w4) (sh_hier_New h0_Rank h0_Ways (fun p7 w8 =>
  (Keeps [b1] w4 w8 ∧
  (Join (Unit) (fun J9 =>
  (LoopT (Int × Unit) (fun t11 again10 w12 =>
  (cond (decide (t11.1 < (h0_Ways.len : Int))) (Join (Unit) (fun J13 =>
  (sh_unpack_Open p7 t11.1 (fun s14 w15 =>
  (Keeps [b1] w12 w15 ∧
  (sh_hier_Hier_Halves p7 t11.1 (fun x16 x17 t18 w19 =>
  (Keeps [b1] w15 w19 ∧
  (cond (!t18) (Idx h0_Ways.a h0_Ways.len t11.1 5 (fun a20 =>
  (∃ x21 : Int, w19.cell? ((a20.add 2).add 2) = some (.int .i64 x21) ∧
  (NewB [(.int .i64 x21)] w19 (fun b22 w23 =>
  (sh_postroadref00_SameInts s14 (⟨(some ⟨b22, 0, none⟩), 1, 1⟩) (fun t24 w25 =>
  (Keeps [b1] w23 w25 ∧
  (cond (!t24) (K false w25) (J13 () w25)))) w23)))))) (sh_unpack_Open p7 x16 (fun s26 w27 =>
  (Keeps [b1] w19 w27 ∧
  (sh_unpack_Open p7 x17 (fun s28 w29 =>
  (Keeps [b1] w27 w29 ∧
  (App 8 [(.int .i64 (0 : Int))] s26 s28 w29 (fun s30 w31 =>
  (Keeps [b1] w29 w31 ∧
  (sh_postroadref00_SameInts s14 s30 (fun t32 w33 =>
  (Keeps [b1] w31 w33 ∧
  (cond (!t32) (K false w33) (sh_unpack_Deep p7 t11.1 (fun x34 w35 =>
  (Keeps [b1] w33 w35 ∧
  (sh_unpack_Deep p7 x16 (fun x36 w37 =>
  (Keeps [b1] w35 w37 ∧
  (sh_unpack_Deep p7 x17 (fun x38 w39 =>
  (Keeps [b1] w37 w39 ∧
  (cond (x34 != (IntKind.i64.wrap ((1 : Int) + (if x38 > x36 then x38 else x36)))) (K false w39) (J13 () w39)))) w37))) w35))) w33)))) w31)))))) w27))) w19)))) w15))) w12))
  (fun t40 w41 =>
  (again10 ((IntKind.i64.wrap (t11.1 + (1 : Int))), ()) w41))) (J9 () w12))) ((0 : Int), ()) w8))
  (fun t42 w43 =>
  (sh_postroadlaw13_known  (fun t44 w45 =>
  (Keeps [b1] w43 w45 ∧
  (K t44 w45))) w43))))) w4)))) w2))

/-- (*postroad/hier.Hier).N -/
def sh_hier_Hier_N (h0 : Option Addr) (K : Int → World → Prop) (w : World) : Prop :=
  (cond h0.isNone (K (0 : Int) w) (Nn h0 (fun a1 => (∃ s2 : SV, w.cell? (a1.add 2) = some (.slice s2.a s2.len s2.cap) ∧ (K (s2.len : Int) w)))))

/-- (*postroad/hier.Hier).Rank -/
def sh_hier_Hier_Rank (h0 : Option Addr) (v0 : Int) (K : Int → World → Prop) (w : World) : Prop :=
  (cond (decide (v0 < (0 : Int))) (K (-1 : Int) w) (sh_hier_Hier_N h0 (fun x1 w2 =>
  (cond (decide (v0 ≥ x1)) (K (-1 : Int) w2) (Nn h0 (fun a3 =>
  (∃ s4 : SV, w2.cell? ((a3.add 0).add 0) = some (.slice s4.a s4.len s4.cap) ∧
  (Idx s4.a s4.len v0 1 (fun a5 =>
  (∃ x6 : Int, w2.cell? a5 = some (.int .i64 x6) ∧
  (K x6 w2))))))))) w))

/-- postroad/heap.New -/
def sh_heap_New (n0 : Int) (K : Option Addr → World → Prop) (w : World) : Prop :=
  (cond (decide (n0 < (0 : Int))) (K none w) (cond (decide (n0 > (16777216 : Int))) (K none w) (MkS 8 [(.int .i64 (0 : Int))] n0 n0 w (fun s1 w2 =>
  (∀ b3 w4, Ext w2 w4 → w2.heap.size ≤ b3 → b3 < w4.heap.size →
  (Blk w4 b3 [(.slice none 0 0), (.slice s1.a s1.len s1.cap)] →
  (K (some ⟨b3, 0, none⟩) w4)))))))

/-- (*postroad/heap.Heap).may -/
def sh_heap_Heap_may (h0 : Option Addr) (id0 : Int) (K : Bool → World → Prop) (w : World) : Prop :=
  (cond (!h0.isNone) (cond (decide (id0 ≥ (0 : Int))) (Nn h0 (fun a1 =>
  (∃ s2 : SV, w.cell? ((a1.add 0).add 1) = some (.slice s2.a s2.len s2.cap) ∧
  (K (decide (id0 < (s2.len : Int))) w)))) (K false w)) (K false w))

/-- (*postroad/heap.queue[int]).lay -/
def sh_heap_queue_lay (q0 : Option Addr) (i0 : Int) (e0_id : Int) (e0_key : Int) (K : World → Prop) (w : World) : Prop :=
  (∀ b1 w2, Ext w w2 → w.heap.size ≤ b1 → b1 < w2.heap.size →
  (Nn q0 (fun a3 =>
  (∃ s4 : SV, w2.cell? (a3.add 0) = some (.slice s4.a s4.len s4.cap) ∧
  (Idx s4.a s4.len i0 2 (fun a5 =>
  (∀ w6, Ext w2 w6 →
  (stL w6 a5 [(.int .i64 e0_id), (.int .i64 e0_key)] 0 (fun w7 =>
  (Keeps [b1] w6 w7 ∧
  (∀ w8, Ext w7 w8 →
  (Nn q0 (fun a9 =>
  (∃ s10 : SV, w8.cell? (a9.add 1) = some (.slice s10.a s10.len s10.cap) ∧
  (Idx s10.a s10.len e0_id 1 (fun a11 =>
  (∀ w12, Ext w8 w12 →
  (stL w12 a11 [(.int .i64 (IntKind.i64.wrap (i0 + (1 : Int))))] 0 (fun w13 =>
  (Keeps [b1] w12 w13 ∧
  (∀ w14, Ext w13 w14 →
  (K w14))))))))))))))))))))))

/-- cmp.isNaN[int] -/
def sh_cmp_isNaN_int (x0 : Int) (K : Bool → World → Prop) (w : World) : Prop :=
  (K (x0 != x0) w)

/-- cmp.Compare[int] -/
def sh_cmp_Compare_int (x0 : Int) (y0 : Int) (K : Int → World → Prop) (w : World) : Prop :=
  (sh_cmp_isNaN_int x0 (fun t1 w2 =>
  (sh_cmp_isNaN_int y0 (fun t3 w4 =>
  (cond t1 (cond t3 (K (0 : Int) w4) (K (-1 : Int) w4)) (cond t3 (K (1 : Int) w4) (cond (decide (x0 < y0)) (K (-1 : Int) w4) (cond (decide (x0 > y0)) (K (1 : Int) w4) (K (0 : Int) w4)))))) w2)) w)

/-- cmp.Or[int] -/
def sh_cmp_Or_int (vals0 : SV) (K : Int → World → Prop) (w : World) : Prop :=
  (LoopT (Int × Unit) (fun t2 again1 w3 =>
  (cond (decide (t2.1 < (vals0.len : Int))) (Idx vals0.a vals0.len t2.1 1 (fun a4 =>
  (∃ x5 : Int, w3.cell? a4 = some (.int .i64 x5) ∧
  (cond (x5 != (0 : Int)) (K x5 w3) (again1 ((IntKind.i64.wrap (t2.1 + (1 : Int))), ()) w3))))) (K (0 : Int) w3))) ((0 : Int), ()) w)

/-- (postroad/heap.entry[int]).before -/
def sh_heap_entry_before (e0_id : Int) (e0_key : Int) (f0_id : Int) (f0_key : Int) (K : Bool → World → Prop) (w : World) : Prop :=
  (∀ b1 w2, Ext w w2 → w.heap.size ≤ b1 → b1 < w2.heap.size →
  (∀ b3 w4, Ext w2 w4 → w2.heap.size ≤ b3 → b3 < w4.heap.size →
  (Quiet (Int) (fun r6 =>
  (.int .i64 r6)) (fun K7 w8' => sh_cmp_Compare_int e0_key f0_key (fun x5 w8 => K7 x5 w8) w8') w4 (fun r6 =>
  (Quiet (Int) (fun r10 =>
  (.int .i64 r10)) (fun K11 w12' => sh_cmp_Compare_int e0_id f0_id (fun x9 w12 => K11 x9 w12) w12') w4 (fun r10 =>
  (∀ w13, Ext w4 w13 →
  (NewB [(.int .i64 r6), (.int .i64 r10)] w13 (fun b14 w15 =>
  (Quiet (Int) (fun r17 =>
  (.int .i64 r17)) (fun K18 w19' => sh_cmp_Or_int (⟨(some ⟨b14, 0, none⟩), 2, 2⟩) (fun x16 w19 => K18 x16 w19) w19') w15 (fun r17 =>
  (∀ w20, Ext w15 w20 →
  (K (decide (r17 < (0 : Int))) w20)))))))))))))

/-- (*postroad/heap.queue[int]).sink -/
def sh_heap_queue_sink (q0 : Option Addr) (i0 : Int) (K : World → Prop) (w : World) : Prop :=
  (Nn q0 (fun a1 =>
  (∃ s2 : SV, w.cell? (a1.add 0) = some (.slice s2.a s2.len s2.cap) ∧
  (Idx s2.a s2.len i0 2 (fun a3 =>
  (∃ x4 : Int, w.cell? (a3.add 0) = some (.int .i64 x4) ∧ ∃ x5 : Int, w.cell? (a3.add 1) = some (.int .i64 x5) ∧
  (∀ b6 w7, Ext w w7 → w.heap.size ≤ b6 → b6 < w7.heap.size →
  (∀ w8, Off b6 w7 w8 →
  (Join (Int × Unit) (fun J9 =>
  (LoopT (Int × Unit) (fun t11 again10 w12 =>
  (Join (Int × Unit) (fun J13 =>
  (Nn q0 (fun a14 =>
  (∃ s15 : SV, w12.cell? (a14.add 0) = some (.slice s15.a s15.len s15.cap) ∧
  (cond (decide ((IntKind.i64.wrap ((IntKind.i64.wrap ((IntKind.i64.wrap ((2 : Int) * t11.1)) + (1 : Int))) + (1 : Int))) < (s15.len : Int))) (Nn q0 (fun a16 =>
  (∃ s17 : SV, w12.cell? (a16.add 0) = some (.slice s17.a s17.len s17.cap) ∧
  (Idx s17.a s17.len (IntKind.i64.wrap ((IntKind.i64.wrap ((IntKind.i64.wrap ((2 : Int) * t11.1)) + (1 : Int))) + (1 : Int))) 2 (fun a18 =>
  (∃ x19 : Int, w12.cell? (a18.add 0) = some (.int .i64 x19) ∧ ∃ x20 : Int, w12.cell? (a18.add 1) = some (.int .i64 x20) ∧
  (Nn q0 (fun a21 =>
  (∃ s22 : SV, w12.cell? (a21.add 0) = some (.slice s22.a s22.len s22.cap) ∧
  (Idx s22.a s22.len (IntKind.i64.wrap ((IntKind.i64.wrap ((2 : Int) * t11.1)) + (1 : Int))) 2 (fun a23 =>
  (∃ x24 : Int, w12.cell? (a23.add 0) = some (.int .i64 x24) ∧ ∃ x25 : Int, w12.cell? (a23.add 1) = some (.int .i64 x25) ∧
  (Quiet (Bool) (fun r27 =>
  (.bool r27)) (fun K28 w29' => sh_heap_entry_before x19 x20 x24 x25 (fun t26 w29 => K28 t26 w29) w29') w12 (fun r27 =>
  (∀ w30, Ext w12 w30 →
  (cond r27 (J13 ((IntKind.i64.wrap ((IntKind.i64.wrap ((IntKind.i64.wrap ((2 : Int) * t11.1)) + (1 : Int))) + (1 : Int))), ()) w30) (J13 ((IntKind.i64.wrap ((IntKind.i64.wrap ((2 : Int) * t11.1)) + (1 : Int))), ()) w30))))))))))))))))) (∀ w31, Ext w12 w31 →
  (J13 ((IntKind.i64.wrap ((IntKind.i64.wrap ((2 : Int) * t11.1)) + (1 : Int))), ()) w31)))))))
  (fun t32 w33 =>
  (Nn q0 (fun a34 =>
  (∃ s35 : SV, w33.cell? (a34.add 0) = some (.slice s35.a s35.len s35.cap) ∧
  (cond (decide (t32.1 ≥ (s35.len : Int))) (∀ w36, Ext w33 w36 →
  (J9 (t11.1, ()) w36)) (Nn q0 (fun a37 =>
  (∃ s38 : SV, w33.cell? (a37.add 0) = some (.slice s38.a s38.len s38.cap) ∧
  (Idx s38.a s38.len t32.1 2 (fun a39 =>
  (∃ x40 : Int, w33.cell? (a39.add 0) = some (.int .i64 x40) ∧ ∃ x41 : Int, w33.cell? (a39.add 1) = some (.int .i64 x41) ∧
  (Quiet (Bool) (fun r43 =>
  (.bool r43)) (fun K44 w45' => sh_heap_entry_before x4 x5 x40 x41 (fun t42 w45 => K44 t42 w45) w45') w33 (fun r43 =>
  (∀ w46, Ext w33 w46 →
  (cond r43 (J9 (t11.1, ()) w46) (Nn q0 (fun a47 =>
  (∃ s48 : SV, w46.cell? (a47.add 0) = some (.slice s48.a s48.len s48.cap) ∧
  (Idx s48.a s48.len t32.1 2 (fun a49 =>
  (∃ x50 : Int, w46.cell? (a49.add 0) = some (.int .i64 x50) ∧ ∃ x51 : Int, w46.cell? (a49.add 1) = some (.int .i64 x51) ∧
  (sh_heap_queue_lay q0 t11.1 x50 x51 (fun w52 =>
  (Keeps [b6] w46 w52 ∧
  (again10 (t32.1, ()) w52))) w46)))))))))))))))))))))))) (i0, ()) w8))
  (fun t53 w54 =>
  (sh_heap_queue_lay q0 t53.1 x4 x5 (fun w55 =>
  (Keeps [b6] w54 w55 ∧
  (K w55))) w54)))))))))))

/-- (*postroad/heap.queue[int]).rise -/
def sh_heap_queue_rise (q0 : Option Addr) (i0 : Int) (K : World → Prop) (w : World) : Prop :=
  (Nn q0 (fun a1 =>
  (∃ s2 : SV, w.cell? (a1.add 0) = some (.slice s2.a s2.len s2.cap) ∧
  (Idx s2.a s2.len i0 2 (fun a3 =>
  (∃ x4 : Int, w.cell? (a3.add 0) = some (.int .i64 x4) ∧ ∃ x5 : Int, w.cell? (a3.add 1) = some (.int .i64 x5) ∧
  (∀ b6 w7, Ext w w7 → w.heap.size ≤ b6 → b6 < w7.heap.size →
  (∀ w8, Off b6 w7 w8 →
  (Join (Int × Unit) (fun J9 =>
  (LoopT (Int × Unit) (fun t11 again10 w12 =>
  (cond (decide (t11.1 > (0 : Int))) (Nn q0 (fun a13 =>
  (∃ s14 : SV, w12.cell? (a13.add 0) = some (.slice s14.a s14.len s14.cap) ∧
  (Idx s14.a s14.len (IntKind.i64.wrap ((IntKind.i64.wrap (t11.1 - (1 : Int))).tdiv (2 : Int))) 2 (fun a15 =>
  (∃ x16 : Int, w12.cell? (a15.add 0) = some (.int .i64 x16) ∧ ∃ x17 : Int, w12.cell? (a15.add 1) = some (.int .i64 x17) ∧
  (Quiet (Bool) (fun r19 =>
  (.bool r19)) (fun K20 w21' => sh_heap_entry_before x4 x5 x16 x17 (fun t18 w21 => K20 t18 w21) w21') w12 (fun r19 =>
  (∀ w22, Ext w12 w22 →
  (cond r19 (Nn q0 (fun a23 =>
  (∃ s24 : SV, w22.cell? (a23.add 0) = some (.slice s24.a s24.len s24.cap) ∧
  (Idx s24.a s24.len (IntKind.i64.wrap ((IntKind.i64.wrap (t11.1 - (1 : Int))).tdiv (2 : Int))) 2 (fun a25 =>
  (∃ x26 : Int, w22.cell? (a25.add 0) = some (.int .i64 x26) ∧ ∃ x27 : Int, w22.cell? (a25.add 1) = some (.int .i64 x27) ∧
  (sh_heap_queue_lay q0 t11.1 x26 x27 (fun w28 =>
  (Keeps [b6] w22 w28 ∧
  (again10 ((IntKind.i64.wrap ((IntKind.i64.wrap (t11.1 - (1 : Int))).tdiv (2 : Int))), ()) w28))) w22))))))) (J9 (t11.1, ()) w22))))))))))) (∀ w29, Ext w12 w29 →
  (J9 (t11.1, ()) w29)))) (i0, ()) w8))
  (fun t30 w31 =>
  (sh_heap_queue_lay q0 t30.1 x4 x5 (fun w32 =>
  (Keeps [b6] w31 w32 ∧
  (K w32))) w31)))))))))))

/-- (*postroad/heap.queue[int]).put -/
def sh_heap_queue_put (q0 : Option Addr) (id0 : Int) (key0 : Int) (K : World → Prop) (w : World) : Prop :=
  (Nn q0 (fun a1 =>
  (∃ s2 : SV, w.cell? (a1.add 1) = some (.slice s2.a s2.len s2.cap) ∧
  (Idx s2.a s2.len id0 1 (fun a3 =>
  (∃ x4 : Int, w.cell? a3 = some (.int .i64 x4) ∧
  (Join (Int × Unit) (fun J5 =>
  (cond (decide ((IntKind.i64.wrap (x4 - (1 : Int))) < (0 : Int))) (Nn q0 (fun a6 =>
  (∃ s7 : SV, w.cell? (a6.add 0) = some (.slice s7.a s7.len s7.cap) ∧
  (Nn q0 (fun a8 =>
  (∃ s9 : SV, w.cell? (a8.add 0) = some (.slice s9.a s9.len s9.cap) ∧
  (NewB [(.int .i64 (0 : Int)), (.int .i64 (0 : Int))] w (fun b10 w11 =>
  (App 16 [(.int .i64 (0 : Int)), (.int .i64 (0 : Int))] s9 ⟨(some ⟨b10, 0, none⟩), 1, 1⟩ w11 (fun s12 w13 =>
  (Nn q0 (fun a14 =>
  (stL w13 (a14.add 0) [(.slice s12.a s12.len s12.cap)] 0 (fun w15 =>
  (J5 ((s7.len : Int), ()) w15))))))))))))))) (J5 ((IntKind.i64.wrap (x4 - (1 : Int))), ()) w)))
  (fun t16 w17 =>
  (sh_heap_queue_lay q0 t16.1 id0 key0 (fun w18 =>
  (sh_heap_queue_sink q0 t16.1 (fun w19 =>
  (Nn q0 (fun a20 =>
  (∃ s21 : SV, w19.cell? (a20.add 1) = some (.slice s21.a s21.len s21.cap) ∧
  (Idx s21.a s21.len id0 1 (fun a22 =>
  (∃ x23 : Int, w19.cell? a22 = some (.int .i64 x23) ∧
  (sh_heap_queue_rise q0 (IntKind.i64.wrap (x23 - (1 : Int))) (fun w24 =>
  (K w24)) w19)))))))) w18)) w17)))))))))

/-- (*postroad/heap.Heap).Set -/
def sh_heap_Heap_Set (h0 : Option Addr) (id0 : Int) (key0 : Int) (K : Bool → World → Prop) (w : World) : Prop :=
  (sh_heap_Heap_may h0 id0 (fun t1 w2 => (cond (!t1) (K false w2) (Nn h0 (fun a3 => (sh_heap_queue_put (some (a3.add 0)) id0 key0 (fun w4 => (K true w4)) w2))))) w)

/-- (*postroad/heap.Heap).Len -/
def sh_heap_Heap_Len (h0 : Option Addr) (K : Int → World → Prop) (w : World) : Prop :=
  (cond h0.isNone (K (0 : Int) w) (Nn h0 (fun a1 => (∃ s2 : SV, w.cell? ((a1.add 0).add 0) = some (.slice s2.a s2.len s2.cap) ∧ (K (s2.len : Int) w)))))

/-- (*postroad/heap.Heap).First -/
def sh_heap_Heap_First (h0 : Option Addr) (K : Int → Int → Bool → World → Prop) (w : World) : Prop :=
  (sh_heap_Heap_Len h0 (fun x1 w2 =>
  (cond (x1 == (0 : Int)) (K (0 : Int) (0 : Int) false w2) (Nn h0 (fun a3 =>
  (∃ s4 : SV, w2.cell? ((a3.add 0).add 0) = some (.slice s4.a s4.len s4.cap) ∧
  (Idx s4.a s4.len (0 : Int) 2 (fun a5 =>
  (∃ x6 : Int, w2.cell? (a5.add 0) = some (.int .i64 x6) ∧
  (Nn h0 (fun a7 =>
  (∃ s8 : SV, w2.cell? ((a7.add 0).add 0) = some (.slice s8.a s8.len s8.cap) ∧
  (Idx s8.a s8.len (0 : Int) 2 (fun a9 =>
  (∃ x10 : Int, w2.cell? (a9.add 1) = some (.int .i64 x10) ∧
  (∀ w11, Ext w2 w11 →
  (K x6 x10 true w11)))))))))))))))) w)

/-- (*postroad/heap.queue[int]).drop -/
def sh_heap_queue_drop (q0 : Option Addr) (id0 : Int) (K : World → Prop) (w : World) : Prop :=
  (Nn q0 (fun a1 =>
  (∃ s2 : SV, w.cell? (a1.add 1) = some (.slice s2.a s2.len s2.cap) ∧
  (Idx s2.a s2.len id0 1 (fun a3 =>
  (∃ x4 : Int, w.cell? a3 = some (.int .i64 x4) ∧
  (Nn q0 (fun a5 =>
  (∃ s6 : SV, w.cell? (a5.add 0) = some (.slice s6.a s6.len s6.cap) ∧
  (∀ w7, Ext w w7 →
  (Nn q0 (fun a8 =>
  (∃ s9 : SV, w7.cell? (a8.add 0) = some (.slice s9.a s9.len s9.cap) ∧
  (Idx s9.a s9.len (IntKind.i64.wrap ((s6.len : Int) - (1 : Int))) 2 (fun a10 =>
  (∃ x11 : Int, w7.cell? (a10.add 0) = some (.int .i64 x11) ∧ ∃ x12 : Int, w7.cell? (a10.add 1) = some (.int .i64 x12) ∧
  (∀ b13 w14, Ext w7 w14 → w7.heap.size ≤ b13 → b13 < w14.heap.size →
  (∀ w15, Off b13 w14 w15 →
  (Nn q0 (fun a16 =>
  (∃ s17 : SV, w15.cell? (a16.add 1) = some (.slice s17.a s17.len s17.cap) ∧
  (Nn q0 (fun a18 =>
  (∃ s19 : SV, w15.cell? (a18.add 0) = some (.slice s19.a s19.len s19.cap) ∧
  (semSlice 2 s19.a s19.len s19.cap none (some (IntKind.i64.wrap ((s6.len : Int) - (1 : Int)))) (fun s20 =>
  (Nn q0 (fun a21 =>
  (∀ w22, Ext w15 w22 →
  (stL w22 (a21.add 0) [(.slice s20.a s20.len s20.cap)] 0 (fun w23 =>
  (Keeps [b13] w22 w23 ∧
  (Idx s17.a s17.len id0 1 (fun a24 =>
  (∀ w25, Ext w23 w25 →
  (stL w25 a24 [(.int .i64 (0 : Int))] 0 (fun w26 =>
  (Keeps [b13] w25 w26 ∧
  (∀ w27, Ext w26 w27 →
  (cond (x11 == id0) (K w27) (sh_heap_queue_lay q0 (IntKind.i64.wrap (x4 - (1 : Int))) x11 x12 (fun w28 =>
  (Keeps [b13] w27 w28 ∧
  (sh_heap_queue_sink q0 (IntKind.i64.wrap (x4 - (1 : Int))) (fun w29 =>
  (Keeps [b13] w28 w29 ∧
  (Nn q0 (fun a30 =>
  (∃ s31 : SV, w29.cell? (a30.add 1) = some (.slice s31.a s31.len s31.cap) ∧
  (Idx s31.a s31.len x11 1 (fun a32 =>
  (∃ x33 : Int, w29.cell? a32 = some (.int .i64 x33) ∧
  (∀ w34, Ext w29 w34 →
  (sh_heap_queue_rise q0 (IntKind.i64.wrap (x33 - (1 : Int))) (fun w35 =>
  (Keeps [b13] w34 w35 ∧
  (∀ w36, Ext w35 w36 →
  (K w36)))) w34)))))))))) w28))) w27)))))))))))))))))))))))))))))))))))))))))

/-- (*postroad/heap.Heap).Pop -/
def sh_heap_Heap_Pop (h0 : Option Addr) (K : Int → Int → Bool → World → Prop) (w : World) : Prop :=
  (sh_heap_Heap_First h0 (fun x1 x2 t3 w4 =>
  (Join (Unit) (fun J5 =>
  (cond t3 (Nn h0 (fun a6 =>
  (sh_heap_queue_drop (some (a6.add 0)) x1 (fun w7 =>
  (J5 () w7)) w4))) (J5 () w4)))
  (fun t8 w9 =>
  (K x1 x2 t3 w9)))) w)

/-- (*postroad/heap.Heap).Key -/
def sh_heap_Heap_Key (h0 : Option Addr) (id0 : Int) (K : Int → Bool → World → Prop) (w : World) : Prop :=
  (sh_heap_Heap_may h0 id0 (fun t1 w2 =>
  (cond (!t1) (K (0 : Int) false w2) (Nn h0 (fun a3 =>
  (∃ s4 : SV, w2.cell? ((a3.add 0).add 1) = some (.slice s4.a s4.len s4.cap) ∧
  (Idx s4.a s4.len id0 1 (fun a5 =>
  (∃ x6 : Int, w2.cell? a5 = some (.int .i64 x6) ∧
  (cond (x6 == (0 : Int)) (K (0 : Int) false w2) (Nn h0 (fun a7 =>
  (∃ s8 : SV, w2.cell? ((a7.add 0).add 0) = some (.slice s8.a s8.len s8.cap) ∧
  (Nn h0 (fun a9 =>
  (∃ s10 : SV, w2.cell? ((a9.add 0).add 1) = some (.slice s10.a s10.len s10.cap) ∧
  (Idx s10.a s10.len id0 1 (fun a11 =>
  (∃ x12 : Int, w2.cell? a11 = some (.int .i64 x12) ∧
  (Idx s8.a s8.len (IntKind.i64.wrap (x12 - (1 : Int))) 2 (fun a13 =>
  (∃ x14 : Int, w2.cell? (a13.add 1) = some (.int .i64 x14) ∧
  (∀ w15, Ext w2 w15 →
  (K x14 true w15))))))))))))))))))))))) w)

/-- postroad/space.climb -/
def sh_space_climb (CV : CVT) (h0 : Option Addr) (v0 : Int) (top0 : Int) (up0 : Value) (K : Option Nat → World → Prop) (w : World) : Prop :=
  (MkM w (fun m1 w2 =>
  (sh_hier_Hier_Rank h0 v0 (fun x3 w4 =>
  (cond (decide (x3 < (0 : Int))) (K m1 w4) (sh_hier_Hier_N h0 (fun x5 w6 =>
  (sh_heap_New x5 (fun p7 w8 =>
  (sh_heap_Heap_Set p7 v0 (0 : Int) (fun t9 w10 =>
  (LoopT (Unit) (fun t12 again11 w13 =>
  (sh_heap_Heap_Pop p7 (fun x14 x15 t16 w17 =>
  (cond (!t16) (K m1 w17) (MUp false m1 [x14] (.int .i64 x15) w17 (fun w18 =>
  (sh_hier_Hier_Rank h0 x14 (fun x19 w20 =>
  (cond (decide (x19 ≥ top0)) (again11 () w20) (CV up0 [(.pointer h0), (.int .i64 x14)] (fun r22 w23 => ∃ s21 : SV, r22 = (.slice s21.a s21.len s21.cap) ∧
  (LoopT (Int × Unit) (fun t25 again24 w26 =>
  (cond (decide (t25.1 < (s21.len : Int))) (Idx s21.a s21.len t25.1 3 (fun a27 =>
  (∃ x28 : Int, w26.cell? (a27.add 0) = some (.int .i64 x28) ∧ ∃ x29 : Int, w26.cell? (a27.add 1) = some (.int .i64 x29) ∧ ∃ x30 : Int, w26.cell? (a27.add 2) = some (.int .i64 x30) ∧
  (∀ b31 w32, Ext w26 w32 → w26.heap.size ≤ b31 → b31 < w32.heap.size →
  (∀ w33, Off b31 w32 w33 →
  (sh_heap_Heap_Key p7 x28 (fun x34 t35 w36 =>
  (Keeps [b31] w33 w36 ∧
  (∃ mm37, MapR false 1 w36 m1 mm37 ∧ ∃ x38 : Int, (assoc mm37 [x28]).getD (.int .i64 (0 : Int)) = (.int .i64 x38) ∧
  (cond (!((assoc mm37 [x28]).isSome)) (cond (!t35) (sh_heap_Heap_Set p7 x28 (IntKind.i64.wrap (x15 + x29)) (fun t39 w40 =>
  (Keeps [b31] w36 w40 ∧
  (again24 ((IntKind.i64.wrap (t25.1 + (1 : Int))), ()) w40))) w36) (cond (decide ((IntKind.i64.wrap (x15 + x29)) < x34)) (sh_heap_Heap_Set p7 x28 (IntKind.i64.wrap (x15 + x29)) (fun t41 w42 =>
  (Keeps [b31] w36 w42 ∧
  (again24 ((IntKind.i64.wrap (t25.1 + (1 : Int))), ()) w42))) w36) (again24 ((IntKind.i64.wrap (t25.1 + (1 : Int))), ()) w36))) (again24 ((IntKind.i64.wrap (t25.1 + (1 : Int))), ()) w36))))) w33)))))) (again11 () w26))) ((0 : Int), ()) w23)) w20))) w18))))) w13)) () w10)) w8)) w6)) w4))) w2)))

def fn_hier_Hier_Up : FuncId := 76
/-- (*postroad/hier.Hier).Up -/
def sh_hier_Hier_Up (h0 : Option Addr) (v0 : Int) (K : SV → World → Prop) (w : World) : Prop :=
  (sh_hier_Hier_Rank h0 v0 (fun x1 w2 =>
  (cond (decide (x1 < (0 : Int))) (K ⟨none, 0, 0⟩ w2) (Nn h0 (fun a3 =>
  (∃ s4 : SV, w2.cell? (a3.add 4) = some (.slice s4.a s4.len s4.cap) ∧
  (Idx s4.a s4.len v0 1 (fun a5 =>
  (∃ s6 : SV, w2.cell? a5 = some (.slice s6.a s6.len s6.cap) ∧
  (App 24 [(.int .i64 (0 : Int)), (.int .i64 (0 : Int)), (.int .i64 (0 : Int))] ⟨none, 0, 0⟩ s6 w2 (fun s7 w8 =>
  (K s7 w8))))))))))) w)

def fn_space_rows_c1 : FuncId := 93
/-- postroad/space.rows$1 -/
def sh_space_rows_c1 (CV : CVT) (v0 : Int) (free1 : Addr) (free2 : Addr) (free3 : Addr) (K : Int → Int → Bool → World → Prop) (w : World) : Prop :=
  (∀ b1 w2, Ext w w2 → w.heap.size ≤ b1 → b1 < w2.heap.size →
  (∃ m3 : Option Nat, w2.cell? free1 = some (.map m3) ∧
  (∃ mm4, MapR false 1 w2 m3 mm4 ∧ ∃ x5 : Int, (assoc mm4 [v0]).getD (.int .i64 (0 : Int)) = (.int .i64 x5) ∧
  (cond ((assoc mm4 [v0]).isSome) (∃ x6 : Value, w2.cell? free2 = some x6 ∧
  (∃ p7 : Option Addr, w2.cell? free3 = some (.pointer p7) ∧
  (Quiet (Int) (fun r9 =>
  (.int .i64 r9)) (fun K10 w11' => sh_hier_Hier_Rank p7 v0 (fun x8 w11 => K10 x8 w11) w11') w2 (fun r9 =>
  (∀ w14, Ext w2 w14 →
  (CV x6 [(.int .i64 r9)] (fun r13 w15 => ∃ t12 : Bool, r13 = (.bool t12) ∧
  (Keeps [b1] w14 w15 ∧
  (∀ w16, Ext w15 w16 →
  (∀ w17, Off b1 w16 w17 →
  (∀ w18, Ext w17 w18 →
  (K v0 x5 t12 w18)))))) w14)))))) (∀ w19, Ext w2 w19 →
  (∀ w20, Off b1 w19 w20 →
  (∀ w21, Ext w20 w21 →
  (K v0 x5 false w21))))))))

/-- postroad/space.gather[postroad/api.Reach] -/
def sh_space_gather_Reach (CV : CVT) (n0 : Int) (one0 : Value) (K : SV → World → Prop) (w : World) : Prop :=
  (LoopT (SV × Int × Unit) (fun t2 again1 w3 =>
  (cond (decide (t2.2.1 < n0)) (CV one0 [(.int .i64 t2.2.1)] (fun r7 w8 => ∃ x4 : Int, ∃ x5 : Int, ∃ t6 : Bool, r7 = (.tuple #[(.agg #[(.int .i64 x4), (.int .i64 x5)]), (.bool t6)]) ∧
  (∀ b9 w10, Ext w8 w10 → w8.heap.size ≤ b9 → b9 < w10.heap.size →
  (∀ w11, Off b9 w10 w11 →
  (cond t6 (NewB [(.int .i64 x4), (.int .i64 x5)] w11 (fun b12 w13 =>
  (App 16 [(.int .i64 (0 : Int)), (.int .i64 (0 : Int))] t2.1 ⟨(some ⟨b12, 0, none⟩), 1, 1⟩ w13 (fun s14 w15 =>
  (Keeps [b9] w13 w15 ∧
  (again1 (s14, (IntKind.i64.wrap (t2.2.1 + (1 : Int))), ()) w15)))))) (again1 (t2.1, (IntKind.i64.wrap (t2.2.1 + (1 : Int))), ()) w11))))) w3) (K t2.1 w3))) (⟨none, 0, 0⟩, (0 : Int), ()) w)

/-- postroad/space.rows -/
def sh_space_rows (CV : CVT) (h0 : Option Addr) (m0 : Option Nat) (may0 : Value) (K : SV → World → Prop) (w : World) : Prop :=
  (∀ b1 w2, Ext w w2 → w.heap.size ≤ b1 → b1 < w2.heap.size →
  (∀ b3 w4, Ext w2 w4 → w2.heap.size ≤ b3 → b3 < w4.heap.size →
  (BoxV may0 (∀ b5 w6, Ext w4 w6 → w4.heap.size ≤ b5 → b5 < w6.heap.size →
  (sh_hier_Hier_N h0 (fun x7 w8 =>
  (Keeps [b5, b3, b1] w6 w8 ∧
  (Blk w8 b3 [(.map m0)] →
  (Blk w8 b5 [may0] →
  (Blk w8 b1 [(.pointer h0)] →
  (sh_space_gather_Reach CV x7 (Value.func (.func fn_space_rows_c1) #[] #[(.pointer (some ⟨b3, 0, none⟩)), (.pointer (some ⟨b5, 0, none⟩)), (.pointer (some ⟨b1, 0, none⟩))]) (fun s9 w10 =>
  (K s9 w10)) w8)))))) w6)))))

def fn_space_all : FuncId := 77
/-- postroad/space.all -/
def sh_space_all (arg0_0 : Int) (K : Bool → World → Prop) (w : World) : Prop :=
  (K true w)

/-- postroad/space.Forward -/
def sh_space_Forward (CV : CVT) (h0 : Option Addr) (v0 : Int) (K : SV → World → Prop) (w : World) : Prop :=
  (sh_hier_Hier_N h0 (fun x1 w2 =>
  (sh_space_climb CV h0 v0 x1 (Value.func (.func fn_hier_Hier_Up) #[] #[]) (fun m3 w4 =>
  (sh_space_rows CV h0 m3 (Value.func (.func fn_space_all) #[] #[]) (fun s5 w6 =>
  (K s5 w6)) w4)) w2)) w)

/-- postroad/space.Find -/
def sh_space_Find (l0 : SV) (v0 : Int) (K : Int → World → Prop) (w : World) : Prop :=
  (LoopT (Int × Unit) (fun t2 again1 w3 =>
  (cond (decide (t2.1 < (l0.len : Int))) (Idx l0.a l0.len t2.1 2 (fun a4 =>
  (∃ x5 : Int, w3.cell? (a4.add 0) = some (.int .i64 x5) ∧ ∃ x6 : Int, w3.cell? (a4.add 1) = some (.int .i64 x6) ∧
  (∀ b7 w8, Ext w3 w8 → w3.heap.size ≤ b7 → b7 < w8.heap.size →
  (∀ w9, Off b7 w8 w9 →
  (cond (x5 == v0) (K x6 w9) (again1 ((IntKind.i64.wrap (t2.1 + (1 : Int))), ()) w9))))))) (K (-1 : Int) w3))) ((0 : Int), ()) w)

def fn_hier_Hier_Find : FuncId := 47
/-- (*postroad/hier.Hier).Find -/
def sh_hier_Hier_Find (h0 : Option Addr) (u0 : Int) (v0 : Int) (K : Int → World → Prop) (w : World) : Prop :=
  (cond h0.isNone (K (-1 : Int) w) (Nn h0 (fun a1 =>
  (∃ m2 : Option Nat, w.cell? (a1.add 3) = some (.map m2) ∧
  (∃ mm3, MapR true 2 w m2 mm3 ∧ ∃ x4 : Int, (assoc mm3 [u0, v0]).getD (.int .i64 (0 : Int)) = (.int .i64 x4) ∧
  (cond (!((assoc mm3 [u0, v0]).isSome)) (K (-1 : Int) w) (K x4 w)))))))

def fn_unpack_chain_c1 : FuncId := 79
/-- postroad/unpack.chain$1 -/
def sh_unpack_chain_c1 (k0 : Int) (free1 : Addr) (K : Int → World → Prop) (w : World) : Prop :=
  (∃ p1 : Option Addr, w.cell? free1 = some (.pointer p1) ∧
  (sh_hier_Hier_Way p1 k0 (fun x2 x3 x4 x5 x6 t7 w8 =>
  (∀ b9 w10, Ext w8 w10 → w8.heap.size ≤ b9 → b9 < w10.heap.size →
  (∀ w11, Off b9 w10 w11 →
  (K x4 w11)))) w))

def fn_unpack_chain_c2 : FuncId := 81
/-- postroad/unpack.chain$2 -/
def sh_unpack_chain_c2 (CV : CVT) (u0 : Int) (free1 : Addr) (free2 : Addr) (free3 : Addr) (K : Int → World → Prop) (w : World) : Prop :=
  (∃ p1 : Option Addr, w.cell? free1 = some (.pointer p1) ∧
  (Quiet (Int) (fun r3 =>
  (.int .i64 r3)) (fun K4 w5' => sh_hier_Hier_Rank p1 u0 (fun x2 w5 => K4 x2 w5) w5') w (fun r3 =>
  (∃ p6 : Option Addr, w.cell? free1 = some (.pointer p6) ∧
  (∃ x7 : Int, w.cell? free2 = some (.int .i64 x7) ∧
  (Quiet (Int) (fun r9 =>
  (.int .i64 r9)) (fun K10 w11' => sh_hier_Hier_Rank p6 x7 (fun x8 w11 => K10 x8 w11) w11') w (fun r9 =>
  (∀ w12, Ext w w12 →
  (cond (decide (r3 ≥ r9)) (K (-1 : Int) w12) (∃ x13 : Value, w12.cell? free3 = some x13 ∧
  (∃ x14 : Int, w12.cell? free2 = some (.int .i64 x14) ∧
  (CV x13 [(.int .i64 u0), (.int .i64 x14)] (fun r16 w17 => ∃ x15 : Int, r16 = (.int .i64 x15) ∧
  (K x15 w17)) w12))))))))))))

/-- postroad/unpack.before -/
def sh_unpack_before (CV : CVT) (reach0 : SV) (v0 : Int) (find0 : Value) (long0 : Value) (K : Int → Int → World → Prop) (w : World) : Prop :=
  (sh_space_Find reach0 v0 (fun x1 w2 =>
  (Join (Int × Int × Unit) (fun J3 =>
  (LoopT (Int × Int × Int × Unit) (fun t5 again4 w6 =>
  (cond (decide (t5.2.2.1 < (reach0.len : Int))) (Idx reach0.a reach0.len t5.2.2.1 2 (fun a7 =>
  (∃ x8 : Int, w6.cell? (a7.add 0) = some (.int .i64 x8) ∧ ∃ x9 : Int, w6.cell? (a7.add 1) = some (.int .i64 x9) ∧
  (∀ b10 w11, Ext w6 w11 → w6.heap.size ≤ b10 → b10 < w11.heap.size →
  (∀ w12, Off b10 w11 w12 →
  (CV find0 [(.int .i64 x8)] (fun r14 w15 => ∃ x13 : Int, r14 = (.int .i64 x13) ∧
  (Keeps [b10] w12 w15 ∧
  (cond (decide (x13 ≥ (0 : Int))) (∀ w18, Ext w15 w18 →
  (CV long0 [(.int .i64 x13)] (fun r17 w19 => ∃ x16 : Int, r17 = (.int .i64 x16) ∧
  (Keeps [b10] w18 w19 ∧
  (cond ((IntKind.i64.wrap (x9 + x16)) == x1) (cond (decide (t5.1 < (0 : Int))) (∀ w20, Ext w19 w20 →
  (∀ w21, Ext w20 w21 →
  (again4 (x13, x8, (IntKind.i64.wrap (t5.2.2.1 + (1 : Int))), ()) w21))) (∀ w22, Ext w19 w22 →
  (cond (decide (x13 < t5.1)) (∀ w23, Ext w22 w23 →
  (again4 (x13, x8, (IntKind.i64.wrap (t5.2.2.1 + (1 : Int))), ()) w23)) (again4 (t5.1, t5.2.1, (IntKind.i64.wrap (t5.2.2.1 + (1 : Int))), ()) w22)))) (∀ w24, Ext w19 w24 →
  (again4 (t5.1, t5.2.1, (IntKind.i64.wrap (t5.2.2.1 + (1 : Int))), ()) w24))))) w18)) (∀ w25, Ext w15 w25 →
  (again4 (t5.1, t5.2.1, (IntKind.i64.wrap (t5.2.2.1 + (1 : Int))), ()) w25))))) w12)))))) (J3 (t5.1, t5.2.1, ()) w6))) ((-1 : Int), (0 : Int), (0 : Int), ()) w2))
  (fun t26 w27 =>
  (K t26.1 t26.2.1 w27)))) w)

/-- postroad/unpack.chain -/
def sh_unpack_chain (CV : CVT) (h0 : Option Addr) (reach0 : SV) (v0 : Int) (end_0 : Int) (way0 : Value) (K : SV → World → Prop) (w : World) : Prop :=
  (∀ b1 w2, Ext w w2 → w.heap.size ≤ b1 → b1 < w2.heap.size →
  (∀ b3 w4, Ext w2 w4 → w2.heap.size ≤ b3 → b3 < w4.heap.size →
  (BoxV way0 (∀ b5 w6, Ext w4 w6 → w4.heap.size ≤ b5 → b5 < w6.heap.size →
  (Blk w6 b1 [(.pointer h0)] →
  (Blk w6 b3 [(.int .i64 v0)] →
  (Blk w6 b5 [way0] →
  (LoopT (SV × Unit) (fun t8 again7 w9 =>
  (∃ x10 : Int, w9.cell? (⟨b3, 0, none⟩ : Addr) = some (.int .i64 x10) ∧
  (cond (x10 != end_0) (∃ x11 : Int, w9.cell? (⟨b3, 0, none⟩ : Addr) = some (.int .i64 x11) ∧
  (sh_unpack_before CV reach0 x11 (Value.func (.func fn_unpack_chain_c2) #[] #[(.pointer (some ⟨b1, 0, none⟩)), (.pointer (some ⟨b3, 0, none⟩)), (.pointer (some ⟨b5, 0, none⟩))]) (Value.func (.func fn_unpack_chain_c1) #[] #[(.pointer (some ⟨b1, 0, none⟩))]) (fun x12 x13 w14 =>
  (cond (decide (x12 < (0 : Int))) (K t8.1 w14) (NewB [(.int .i64 x12)] w14 (fun b15 w16 =>
  (App 8 [(.int .i64 (0 : Int))] t8.1 ⟨(some ⟨b15, 0, none⟩), 1, 1⟩ w16 (fun s17 w18 =>
  (stL w18 (⟨b3, 0, none⟩ : Addr) [(.int .i64 x13)] 0 (fun w19 =>
  (again7 (s17, ()) w19))))))))) w9)) (K t8.1 w9)))) (⟨none, 0, 0⟩, ()) w6))))))))

/-- slices.Backward[[]int,int]$1 -/
def sh_slices_Backward_int_int__c1 (Y0 : Int → Int → (Bool → World → Prop) → World → Prop) (free1 : Addr) (K : World → Prop) (w : World) : Prop :=
  (∃ s1 : SV, w.cell? free1 = some (.slice s1.a s1.len s1.cap) ∧
  (LoopT (Int × Unit) (fun t3 again2 w4 =>
  (cond (decide (t3.1 ≥ (0 : Int))) (∃ s5 : SV, w4.cell? free1 = some (.slice s5.a s5.len s5.cap) ∧
  (Idx s5.a s5.len t3.1 1 (fun a6 =>
  (∃ x7 : Int, w4.cell? a6 = some (.int .i64 x7) ∧
  (Y0 t3.1 x7 (fun t8 w9 =>
  (cond (!t8) (K w9) (again2 ((IntKind.i64.wrap (t3.1 - (1 : Int))), ()) w9))) w4))))) (K w4))) ((IntKind.i64.wrap ((s1.len : Int) - (1 : Int))), ()) w))

/-- postroad/unpack.Climb -/
def sh_unpack_Climb (CV : CVT) (h0 : Option Addr) (s0 : Int) (m0 : Int) (K : SV → Bool → World → Prop) (w : World) : Prop :=
  (sh_space_Forward CV h0 s0 (fun s1 w2 =>
  (sh_space_Find s1 m0 (fun x3 w4 =>
  (cond (x3 == (-1 : Int)) (K ⟨none, 0, 0⟩ false w4) (∀ b5 w6, Ext w4 w6 → w4.heap.size ≤ b5 → b5 < w6.heap.size →
  (sh_unpack_chain CV h0 s1 m0 s0 (Value.func (.func fn_hier_Hier_Find) #[(.pointer h0)] #[]) (fun s7 w8 =>
  (Keeps [b5] w6 w8 ∧
  (∀ b1009 w1010, Ext w8 w1010 → w8.heap.size ≤ b1009 → b1009 < w1010.heap.size →
  (Blk w1010 b1009 [(.slice s7.a s7.len s7.cap)] →
  (Keeps [b5] w8 w1010 ∧
  (Blk w1010 b5 [(.slice none 0 0)] →
  (∀ D1011 l1012 w1013, Ext w1010 w1013 → w1010.heap.size ≤ D1011 → D1011 < l1012 → l1012 < w1013.heap.size →
  (sh_slices_Backward_int_int__c1 (fun x1014 x1015 K1017 w1016 =>
  (w1016.heap[l1012]? = w1013.heap[l1012]? ∧
  (∀ w1018, Off l1012 w1016 w1018 →
  (∃ s1019 : SV, w1018.cell? (⟨b5, 0, none⟩ : Addr) = some (.slice s1019.a s1019.len s1019.cap) ∧
  (NewB [(.int .i64 x1015)] w1018 (fun b1020 w1021 =>
  (App 8 [(.int .i64 (0 : Int))] s1019 ⟨(some ⟨b1020, 0, none⟩), 1, 1⟩ w1021 (fun s1022 w1023 =>
  (Keeps [l1012] w1021 w1023 ∧
  (stL w1023 (⟨b5, 0, none⟩ : Addr) [(.slice s1022.a s1022.len s1022.cap)] 0 (fun w1024 =>
  (Keeps [l1012] w1023 w1024 ∧
  (∀ w1025, Off l1012 w1024 w1025 →
  (w1025.heap[l1012]? = w1013.heap[l1012]? → K1017 true w1025)))))))))))))) ⟨b1009, 0, none⟩ (fun w1026 =>
  (Keeps [D1011] w1013 w1026 ∧
  ((w1026.heap[l1012]? = w1013.heap[l1012]? ∧
  (∀ w1027, Off l1012 w1026 w1027 →
  (∃ s1028 : SV, w1027.cell? (⟨b5, 0, none⟩ : Addr) = some (.slice s1028.a s1028.len s1028.cap) ∧
  (∀ w1029, Off D1011 w1027 w1029 →
  (K s1028 true w1029))))) ∨ False))) w1013)))))))) w6)))) w2)) w)

def fn_hier_Hier_Down : FuncId := 82
/-- (*postroad/hier.Hier).Down -/
def sh_hier_Hier_Down (h0 : Option Addr) (v0 : Int) (K : SV → World → Prop) (w : World) : Prop :=
  (sh_hier_Hier_Rank h0 v0 (fun x1 w2 =>
  (cond (decide (x1 < (0 : Int))) (K ⟨none, 0, 0⟩ w2) (Nn h0 (fun a3 =>
  (∃ s4 : SV, w2.cell? (a3.add 5) = some (.slice s4.a s4.len s4.cap) ∧
  (Idx s4.a s4.len v0 1 (fun a5 =>
  (∃ s6 : SV, w2.cell? a5 = some (.slice s6.a s6.len s6.cap) ∧
  (App 24 [(.int .i64 (0 : Int)), (.int .i64 (0 : Int)), (.int .i64 (0 : Int))] ⟨none, 0, 0⟩ s6 w2 (fun s7 w8 =>
  (K s7 w8))))))))))) w)

/-- postroad/space.Back -/
def sh_space_Back (CV : CVT) (h0 : Option Addr) (v0 : Int) (K : SV → World → Prop) (w : World) : Prop :=
  (sh_hier_Hier_N h0 (fun x1 w2 =>
  (sh_space_climb CV h0 v0 x1 (Value.func (.func fn_hier_Hier_Down) #[] #[]) (fun m3 w4 =>
  (sh_space_rows CV h0 m3 (Value.func (.func fn_space_all) #[] #[]) (fun s5 w6 =>
  (K s5 w6)) w4)) w2)) w)

def fn_unpack_Fall_c1 : FuncId := 49
/-- postroad/unpack.Fall$1 -/
def sh_unpack_Fall_c1 (u0 : Int) (v0 : Int) (free2 : Addr) (K : Int → World → Prop) (w : World) : Prop :=
  (∃ p1 : Option Addr, w.cell? free2 = some (.pointer p1) ∧ (sh_hier_Hier_Find p1 v0 u0 (fun x2 w3 => (K x2 w3)) w))

/-- postroad/unpack.Fall -/
def sh_unpack_Fall (CV : CVT) (h0 : Option Addr) (m0 : Int) (t0 : Int) (K : SV → Bool → World → Prop) (w : World) : Prop :=
  (∀ b1 w2, Ext w w2 → w.heap.size ≤ b1 → b1 < w2.heap.size →
  (sh_space_Back CV h0 t0 (fun s3 w4 =>
  (Keeps [b1] w2 w4 ∧
  (sh_space_Find s3 m0 (fun x5 w6 =>
  (Keeps [b1] w4 w6 ∧
  (cond (x5 == (-1 : Int)) (K ⟨none, 0, 0⟩ false w6) (Blk w6 b1 [(.pointer h0)] →
  (sh_unpack_chain CV h0 s3 m0 t0 (Value.func (.func fn_unpack_Fall_c1) #[] #[(.pointer (some ⟨b1, 0, none⟩))]) (fun s7 w8 =>
  (K s7 true w8)) w6))))) w4))) w2))

/-- postroad/postroadlaw13.UnpackSelf -/
def sh_postroadlaw13_UnpackSelf (CV : CVT) (h0_Rank : SV) (h0_Ways : SV) (v0 : Int) (m0 : Int) (K : Bool → World → Prop) (w : World) : Prop :=
  (∀ b1 w2, Ext w w2 → w.heap.size ≤ b1 → b1 < w2.heap.size →
  (sh_postroadref11_Fit h0_Rank h0_Ways (fun t3 w4 =>
  (Keeps [b1] w2 w4 ∧
  (cond (!t3) (sh_postroadlaw13_known  (fun t5 w6 =>
  (Keeps [b1] w4 w6 ∧
  (K t5 w6))) w4) (sh_hier_New h0_Rank h0_Ways (fun p7 w8 =>
  (Keeps [b1] w4 w8 ∧
  (sh_unpack_Climb CV p7 v0 v0 (fun s9 t10 w11 =>
  (Keeps [b1] w8 w11 ∧
  (sh_unpack_Fall CV p7 v0 v0 (fun s12 t13 w14 =>
  (Keeps [b1] w11 w14 ∧
  (cond (decide (v0 ≥ (0 : Int))) (cond (!(t10 == (decide (v0 < (h0_Rank.len : Int))))) (K false w14) (cond (!(t13 == (decide (v0 < (h0_Rank.len : Int))))) (K false w14) (cond ((IntKind.i64.wrap ((s9.len : Int) + (s12.len : Int))) != (0 : Int)) (K false w14) (sh_unpack_Climb CV p7 v0 m0 (fun s15 t16 w17 =>
  (Keeps [b1] w14 w17 ∧
  (Join (Int × Unit) (fun J18 =>
  (LoopT (Int × Int × Unit) (fun t20 again19 w21 =>
  (cond (decide (t20.2.1 < (s15.len : Int))) (Idx s15.a s15.len t20.2.1 1 (fun a22 =>
  (∃ x23 : Int, w21.cell? a22 = some (.int .i64 x23) ∧
  (sh_hier_Hier_Way p7 x23 (fun x24 x25 x26 x27 x28 t29 w30 =>
  (Keeps [b1] w21 w30 ∧
  (∀ b31 w32, Ext w30 w32 → w30.heap.size ≤ b31 → b31 < w32.heap.size →
  (∀ w33, Off b31 w32 w33 →
  (cond (x24 != t20.1) (K false w33) (sh_hier_Hier_Rank p7 x25 (fun x34 w35 =>
  (Keeps [b31, b1] w33 w35 ∧
  (sh_hier_Hier_Rank p7 t20.1 (fun x36 w37 =>
  (Keeps [b31, b1] w35 w37 ∧
  (cond (decide (x34 ≤ x36)) (K false w37) (again19 (x25, (IntKind.i64.wrap (t20.2.1 + (1 : Int))), ()) w37)))) w35))) w33)))))) w21)))) (J18 (t20.1, ()) w21))) (v0, (0 : Int), ()) w17))
  (fun t38 w39 =>
  (cond (!t16) (sh_postroadlaw13_known  (fun t40 w41 =>
  (Keeps [b1] w39 w41 ∧
  (K t40 w41))) w39) (cond (t38.1 == m0) (sh_postroadlaw13_known  (fun t42 w43 =>
  (Keeps [b1] w39 w43 ∧
  (K t42 w43))) w39) (K false w39))))))) w14)))) (cond (!(t10 == false)) (K false w14) (cond (!(t13 == false)) (K false w14) (cond ((IntKind.i64.wrap ((s9.len : Int) + (s12.len : Int))) != (0 : Int)) (K false w14) (sh_unpack_Climb CV p7 v0 m0 (fun s44 t45 w46 =>
  (Keeps [b1] w14 w46 ∧
  (Join (Int × Unit) (fun J47 =>
  (LoopT (Int × Int × Unit) (fun t49 again48 w50 =>
  (cond (decide (t49.2.1 < (s44.len : Int))) (Idx s44.a s44.len t49.2.1 1 (fun a51 =>
  (∃ x52 : Int, w50.cell? a51 = some (.int .i64 x52) ∧
  (sh_hier_Hier_Way p7 x52 (fun x53 x54 x55 x56 x57 t58 w59 =>
  (Keeps [b1] w50 w59 ∧
  (∀ b60 w61, Ext w59 w61 → w59.heap.size ≤ b60 → b60 < w61.heap.size →
  (∀ w62, Off b60 w61 w62 →
  (cond (x53 != t49.1) (K false w62) (sh_hier_Hier_Rank p7 x54 (fun x63 w64 =>
  (Keeps [b60, b1] w62 w64 ∧
  (sh_hier_Hier_Rank p7 t49.1 (fun x65 w66 =>
  (Keeps [b60, b1] w64 w66 ∧
  (cond (decide (x63 ≤ x65)) (K false w66) (again48 (x54, (IntKind.i64.wrap (t49.2.1 + (1 : Int))), ()) w66)))) w64))) w62)))))) w50)))) (J47 (t49.1, ()) w50))) (v0, (0 : Int), ()) w46))
  (fun t67 w68 =>
  (cond (!t45) (sh_postroadlaw13_known  (fun t69 w70 =>
  (Keeps [b1] w68 w70 ∧
  (K t69 w70))) w68) (cond (t67.1 == m0) (sh_postroadlaw13_known  (fun t71 w72 =>
  (Keeps [b1] w68 w72 ∧
  (K t71 w72))) w68) (K false w68))))))) w14))))))) w11))) w8))) w4)))) w2))

/-- postroad/postroadref11.Climb -/
def sh_postroadref11_Climb (h0_Rank : SV) (h0_Ways : SV) (v0 : Int) (top0 : Int) (back0 : Bool) (K : SV → World → Prop) (w : World) : Prop :=
  (∀ b1 w2, Ext w w2 → w.heap.size ≤ b1 → b1 < w2.heap.size →
  (MkS 8 [(.int .i64 (0 : Int))] (h0_Rank.len : Int) (h0_Rank.len : Int) w2 (fun s3 w4 =>
  (Join (Unit) (fun J5 =>
  (LoopT (Int × Unit) (fun t7 again6 w8 =>
  (cond (decide (t7.1 < (h0_Rank.len : Int))) (Idx s3.a s3.len t7.1 1 (fun a9 =>
  (stL w8 a9 [(.int .i64 (-1 : Int))] 0 (fun w10 =>
  (Keeps [b1] w8 w10 ∧
  (again6 ((IntKind.i64.wrap (t7.1 + (1 : Int))), ()) w10)))))) (J5 () w8))) ((0 : Int), ()) w4))
  (fun t11 w12 =>
  (cond (decide (v0 < (0 : Int))) (K s3 w12) (cond (decide (v0 ≥ (h0_Rank.len : Int))) (K s3 w12) (Idx s3.a s3.len v0 1 (fun a13 =>
  (stL w12 a13 [(.int .i64 (0 : Int))] 0 (fun w14 =>
  (Keeps [b1] w12 w14 ∧
  (LoopT (Bool × Unit) (fun t16 again15 w17 =>
  (cond t16.1 (LoopT (Bool × Int × Unit) (fun t19 again18 w20 =>
  (cond (decide (t19.2.1 < (h0_Ways.len : Int))) (Join (Bool × Unit) (fun J21 =>
  (Idx h0_Ways.a h0_Ways.len t19.2.1 5 (fun a22 =>
  (∃ x23 : Int, w20.cell? (a22.add 0) = some (.int .i64 x23) ∧
  (Idx h0_Ways.a h0_Ways.len t19.2.1 5 (fun a24 =>
  (∃ x25 : Int, w20.cell? (a24.add 1) = some (.int .i64 x25) ∧
  (Join (Int × Int × Unit) (fun J26 =>
  (cond back0 (Idx h0_Ways.a h0_Ways.len t19.2.1 5 (fun a27 =>
  (∃ x28 : Int, w20.cell? (a27.add 1) = some (.int .i64 x28) ∧
  (Idx h0_Ways.a h0_Ways.len t19.2.1 5 (fun a29 =>
  (∃ x30 : Int, w20.cell? (a29.add 0) = some (.int .i64 x30) ∧
  (J26 (x28, x30, ()) w20))))))) (J26 (x23, x25, ()) w20)))
  (fun t31 w32 =>
  (Idx s3.a s3.len t31.1 1 (fun a33 =>
  (∃ x34 : Int, w32.cell? a33 = some (.int .i64 x34) ∧
  (cond (decide (x34 ≥ (0 : Int))) (Idx h0_Rank.a h0_Rank.len t31.1 1 (fun a35 =>
  (∃ x36 : Int, w32.cell? a35 = some (.int .i64 x36) ∧
  (cond (decide (x36 < top0)) (Idx h0_Rank.a h0_Rank.len t31.2.1 1 (fun a37 =>
  (∃ x38 : Int, w32.cell? a37 = some (.int .i64 x38) ∧
  (Idx h0_Rank.a h0_Rank.len t31.1 1 (fun a39 =>
  (∃ x40 : Int, w32.cell? a39 = some (.int .i64 x40) ∧
  (cond (decide (x38 > x40)) (Idx s3.a s3.len t31.2.1 1 (fun a41 =>
  (∃ x42 : Int, w32.cell? a41 = some (.int .i64 x42) ∧
  (cond (decide (x42 < (0 : Int))) (∀ w43, Ext w32 w43 →
  (Idx s3.a s3.len t31.1 1 (fun a44 =>
  (∃ x45 : Int, w43.cell? a44 = some (.int .i64 x45) ∧
  (Idx h0_Ways.a h0_Ways.len t19.2.1 5 (fun a46 =>
  (∃ x47 : Int, w43.cell? ((a46.add 2).add 0) = some (.int .i64 x47) ∧
  (Idx s3.a s3.len t31.2.1 1 (fun a48 =>
  (∀ w49, Ext w43 w49 →
  (stL w49 a48 [(.int .i64 (IntKind.i64.wrap (x45 + x47)))] 0 (fun w50 =>
  (Keeps [b1] w49 w50 ∧
  (∀ w51, Ext w50 w51 →
  (J21 (true, ()) w51))))))))))))))) (Idx s3.a s3.len t31.1 1 (fun a52 =>
  (∃ x53 : Int, w32.cell? a52 = some (.int .i64 x53) ∧
  (Idx h0_Ways.a h0_Ways.len t19.2.1 5 (fun a54 =>
  (∃ x55 : Int, w32.cell? ((a54.add 2).add 0) = some (.int .i64 x55) ∧
  (Idx s3.a s3.len t31.2.1 1 (fun a56 =>
  (∃ x57 : Int, w32.cell? a56 = some (.int .i64 x57) ∧
  (∀ w58, Ext w32 w58 →
  (cond (decide ((IntKind.i64.wrap (x53 + x55)) < x57)) (Idx s3.a s3.len t31.1 1 (fun a59 =>
  (∃ x60 : Int, w58.cell? a59 = some (.int .i64 x60) ∧
  (Idx h0_Ways.a h0_Ways.len t19.2.1 5 (fun a61 =>
  (∃ x62 : Int, w58.cell? ((a61.add 2).add 0) = some (.int .i64 x62) ∧
  (Idx s3.a s3.len t31.2.1 1 (fun a63 =>
  (∀ w64, Ext w58 w64 →
  (stL w64 a63 [(.int .i64 (IntKind.i64.wrap (x60 + x62)))] 0 (fun w65 =>
  (Keeps [b1] w64 w65 ∧
  (∀ w66, Ext w65 w66 →
  (J21 (true, ()) w66)))))))))))))) (J21 (t19.1, ()) w58)))))))))))))))) (∀ w67, Ext w32 w67 →
  (J21 (t19.1, ()) w67))))))))) (∀ w68, Ext w32 w68 →
  (J21 (t19.1, ()) w68)))))) (∀ w69, Ext w32 w69 →
  (J21 (t19.1, ()) w69)))))))))))))))
  (fun t70 w71 =>
  (again18 (t70.1, (IntKind.i64.wrap (t19.2.1 + (1 : Int))), ()) w71))) (again15 (t19.1, ()) w20))) (false, (0 : Int), ()) w17) (K s3 w17))) (true, ()) w14)))))))))))))

/-- postroad/postroadref13.Climb -/
def sh_postroadref13_Climb (h0_Rank : SV) (h0_Ways : SV) (s0 : Int) (m0 : Int) (K : SV → Bool → World → Prop) (w : World) : Prop :=
  (∀ b1 w2, Ext w w2 → w.heap.size ≤ b1 → b1 < w2.heap.size →
  (sh_postroadref11_Climb h0_Rank h0_Ways s0 (h0_Rank.len : Int) false (fun s3 w4 =>
  (Keeps [b1] w2 w4 ∧
  (cond (decide (m0 < (0 : Int))) (K ⟨none, 0, 0⟩ false w4) (cond (decide (m0 ≥ (s3.len : Int))) (K ⟨none, 0, 0⟩ false w4) (Idx s3.a s3.len m0 1 (fun a5 =>
  (∃ x6 : Int, w4.cell? a5 = some (.int .i64 x6) ∧
  (cond (decide (x6 < (0 : Int))) (K ⟨none, 0, 0⟩ false w4) (Join (SV × Unit) (fun J7 =>
  (LoopT (SV × Int × Unit) (fun t9 again8 w10 =>
  (cond (t9.2.1 != s0) (Join (Int × Unit) (fun J11 =>
  (LoopT (Int × Int × Unit) (fun t13 again12 w14 =>
  (cond (decide (t13.2.1 ≥ (0 : Int))) (Join (Int × Unit) (fun J15 =>
  (Idx h0_Ways.a h0_Ways.len t13.2.1 5 (fun a16 =>
  (∃ x17 : Int, w14.cell? (a16.add 0) = some (.int .i64 x17) ∧ ∃ x18 : Int, w14.cell? (a16.add 1) = some (.int .i64 x18) ∧ ∃ x19 : Int, w14.cell? (a16.add 2) = some (.int .i64 x19) ∧ ∃ x20 : Int, w14.cell? (a16.add 3) = some (.int .i64 x20) ∧ ∃ x21 : Int, w14.cell? (a16.add 4) = some (.int .i64 x21) ∧
  (∀ b22 w23, Ext w14 w23 → w14.heap.size ≤ b22 → b22 < w23.heap.size →
  (∀ w24, Off b22 w23 w24 →
  (cond (x18 == t9.2.1) (Idx h0_Rank.a h0_Rank.len x17 1 (fun a25 =>
  (∃ x26 : Int, w24.cell? a25 = some (.int .i64 x26) ∧
  (Idx h0_Rank.a h0_Rank.len t9.2.1 1 (fun a27 =>
  (∃ x28 : Int, w24.cell? a27 = some (.int .i64 x28) ∧
  (cond (decide (x26 < x28)) (Idx s3.a s3.len x17 1 (fun a29 =>
  (∃ x30 : Int, w24.cell? a29 = some (.int .i64 x30) ∧
  (cond (decide (x30 ≥ (0 : Int))) (Idx s3.a s3.len x17 1 (fun a31 =>
  (∃ x32 : Int, w24.cell? a31 = some (.int .i64 x32) ∧
  (Idx s3.a s3.len t9.2.1 1 (fun a33 =>
  (∃ x34 : Int, w24.cell? a33 = some (.int .i64 x34) ∧
  (∀ w35, Ext w24 w35 →
  (cond ((IntKind.i64.wrap (x32 + x19)) == x34) (J15 (t13.2.1, ()) w35) (J15 (t13.1, ()) w35))))))))) (∀ w36, Ext w24 w36 →
  (J15 (t13.1, ()) w36)))))) (∀ w37, Ext w24 w37 →
  (J15 (t13.1, ()) w37))))))))) (∀ w38, Ext w24 w38 →
  (J15 (t13.1, ()) w38)))))))))
  (fun t39 w40 =>
  (again12 (t39.1, (IntKind.i64.wrap (t13.2.1 - (1 : Int))), ()) w40))) (J11 (t13.1, ()) w14))) ((-1 : Int), (IntKind.i64.wrap ((h0_Ways.len : Int) - (1 : Int))), ()) w10))
  (fun t41 w42 =>
  (NewB [(.int .i64 t41.1)] w42 (fun b43 w44 =>
  (App 8 [(.int .i64 (0 : Int))] ⟨none, 0, 0⟩ ⟨(some ⟨b43, 0, none⟩), 1, 1⟩ w44 (fun s45 w46 =>
  (Keeps [b1] w44 w46 ∧
  (App 8 [(.int .i64 (0 : Int))] s45 t9.1 w46 (fun s47 w48 =>
  (Keeps [b1] w46 w48 ∧
  (Idx h0_Ways.a h0_Ways.len t41.1 5 (fun a49 =>
  (∃ x50 : Int, w48.cell? (a49.add 0) = some (.int .i64 x50) ∧
  (again8 (s47, x50, ()) w48)))))))))))))) (J7 (t9.1, ()) w10))) (⟨none, 0, 0⟩, m0, ()) w4))
  (fun t51 w52 =>
  (K t51.1 true w52))))))))))) w2))

/-- postroad/postroadref13.Fall -/
def sh_postroadref13_Fall (h0_Rank : SV) (h0_Ways : SV) (m0 : Int) (t0 : Int) (K : SV → Bool → World → Prop) (w : World) : Prop :=
  (∀ b1 w2, Ext w w2 → w.heap.size ≤ b1 → b1 < w2.heap.size →
  (sh_postroadref11_Climb h0_Rank h0_Ways t0 (h0_Rank.len : Int) true (fun s3 w4 =>
  (Keeps [b1] w2 w4 ∧
  (cond (decide (m0 < (0 : Int))) (K ⟨none, 0, 0⟩ false w4) (cond (decide (m0 ≥ (s3.len : Int))) (K ⟨none, 0, 0⟩ false w4) (Idx s3.a s3.len m0 1 (fun a5 =>
  (∃ x6 : Int, w4.cell? a5 = some (.int .i64 x6) ∧
  (cond (decide (x6 < (0 : Int))) (K ⟨none, 0, 0⟩ false w4) (Join (SV × Unit) (fun J7 =>
  (LoopT (SV × Int × Unit) (fun t9 again8 w10 =>
  (cond (t9.2.1 != t0) (Join (Int × Unit) (fun J11 =>
  (LoopT (Int × Int × Unit) (fun t13 again12 w14 =>
  (cond (decide (t13.2.1 ≥ (0 : Int))) (Join (Int × Unit) (fun J15 =>
  (Idx h0_Ways.a h0_Ways.len t13.2.1 5 (fun a16 =>
  (∃ x17 : Int, w14.cell? (a16.add 0) = some (.int .i64 x17) ∧ ∃ x18 : Int, w14.cell? (a16.add 1) = some (.int .i64 x18) ∧ ∃ x19 : Int, w14.cell? (a16.add 2) = some (.int .i64 x19) ∧ ∃ x20 : Int, w14.cell? (a16.add 3) = some (.int .i64 x20) ∧ ∃ x21 : Int, w14.cell? (a16.add 4) = some (.int .i64 x21) ∧
  (∀ b22 w23, Ext w14 w23 → w14.heap.size ≤ b22 → b22 < w23.heap.size →
  (∀ w24, Off b22 w23 w24 →
  (cond (x17 == t9.2.1) (Idx h0_Rank.a h0_Rank.len x18 1 (fun a25 =>
  (∃ x26 : Int, w24.cell? a25 = some (.int .i64 x26) ∧
  (Idx h0_Rank.a h0_Rank.len t9.2.1 1 (fun a27 =>
  (∃ x28 : Int, w24.cell? a27 = some (.int .i64 x28) ∧
  (cond (decide (x26 < x28)) (Idx s3.a s3.len x18 1 (fun a29 =>
  (∃ x30 : Int, w24.cell? a29 = some (.int .i64 x30) ∧
  (cond (decide (x30 ≥ (0 : Int))) (Idx s3.a s3.len x18 1 (fun a31 =>
  (∃ x32 : Int, w24.cell? a31 = some (.int .i64 x32) ∧
  (Idx s3.a s3.len t9.2.1 1 (fun a33 =>
  (∃ x34 : Int, w24.cell? a33 = some (.int .i64 x34) ∧
  (∀ w35, Ext w24 w35 →
  (cond ((IntKind.i64.wrap (x32 + x19)) == x34) (J15 (t13.2.1, ()) w35) (J15 (t13.1, ()) w35))))))))) (∀ w36, Ext w24 w36 →
  (J15 (t13.1, ()) w36)))))) (∀ w37, Ext w24 w37 →
  (J15 (t13.1, ()) w37))))))))) (∀ w38, Ext w24 w38 →
  (J15 (t13.1, ()) w38)))))))))
  (fun t39 w40 =>
  (again12 (t39.1, (IntKind.i64.wrap (t13.2.1 - (1 : Int))), ()) w40))) (J11 (t13.1, ()) w14))) ((-1 : Int), (IntKind.i64.wrap ((h0_Ways.len : Int) - (1 : Int))), ()) w10))
  (fun t41 w42 =>
  (NewB [(.int .i64 t41.1)] w42 (fun b43 w44 =>
  (App 8 [(.int .i64 (0 : Int))] t9.1 ⟨(some ⟨b43, 0, none⟩), 1, 1⟩ w44 (fun s45 w46 =>
  (Keeps [b1] w44 w46 ∧
  (Idx h0_Ways.a h0_Ways.len t41.1 5 (fun a47 =>
  (∃ x48 : Int, w46.cell? (a47.add 1) = some (.int .i64 x48) ∧
  (again8 (s45, x48, ()) w46))))))))))) (J7 (t9.1, ()) w10))) (⟨none, 0, 0⟩, m0, ()) w4))
  (fun t49 w50 =>
  (K t49.1 true w50))))))))))) w2))

/-- postroad/space.common$1 -/
def sh_space_common_c1 (Y0 : Int → Int → Int → Int → (Bool → World → Prop) → World → Prop) (free1 : Addr) (free2 : Addr) (K : World → Prop) (w : World) : Prop :=
  (LoopT (Unit) (fun t2 again1 w3 =>
  (∃ s4 : SV, w3.cell? free1 = some (.slice s4.a s4.len s4.cap) ∧
  (cond (decide ((s4.len : Int) > (0 : Int))) (∃ s5 : SV, w3.cell? free2 = some (.slice s5.a s5.len s5.cap) ∧
  (cond (decide ((s5.len : Int) > (0 : Int))) (∃ s6 : SV, w3.cell? free1 = some (.slice s6.a s6.len s6.cap) ∧
  (Idx s6.a s6.len (0 : Int) 2 (fun a7 =>
  (∃ x8 : Int, w3.cell? (a7.add 0) = some (.int .i64 x8) ∧ ∃ x9 : Int, w3.cell? (a7.add 1) = some (.int .i64 x9) ∧
  (∃ s10 : SV, w3.cell? free2 = some (.slice s10.a s10.len s10.cap) ∧
  (Idx s10.a s10.len (0 : Int) 2 (fun a12 =>
  (∃ x13 : Int, w3.cell? (a12.add 0) = some (.int .i64 x13) ∧ ∃ x14 : Int, w3.cell? (a12.add 1) = some (.int .i64 x14) ∧
  (∀ b17 w18, Ext w3 w18 → w3.heap.size ≤ b17 → b17 < w18.heap.size →
  (∀ b19 w20, Ext w18 w20 →
  ((zX (zI (fun _ => False) w3 w18) b17) b19 ∨ w18.heap.size ≤ b19) → b19 < w20.heap.size →
  (∀ w21, Ext w20 w21 →
  (∀ w22, Off b17 w21 w22 →
  ((∃ y15 : Int, w22.cell? (a12.add 0) = some (.int .i64 y15) ∧ ∃ y16 : Int, w22.cell? (a12.add 1) = some (.int .i64 y16) ∧
  ((.agg #[(.int .i64 y15), (.int .i64 y16)]) : Value) = (.agg #[(.int .i64 x13), (.int .i64 x14)])) ∧
  ((∃ y11 : SV, w22.cell? free2 = some (.slice y11.a y11.len y11.cap) ∧
  ((.slice y11.a y11.len y11.cap) : Value) = (.slice s10.a s10.len s10.cap)) ∧
  (∀ w23, Ext w22 w23 →
  (∀ w24, Off b19 w23 w24 →
  (∀ w25, Ext w24 w25 →
  (cond (decide (x8 < x13)) (∃ s26 : SV, w25.cell? free1 = some (.slice s26.a s26.len s26.cap) ∧
  (semSlice 2 s26.a s26.len s26.cap (some (1 : Int)) none (fun s27 =>
  (stL w25 free1 [(.slice s27.a s27.len s27.cap)] 0 (fun w28 =>
  (Keeps [b19, b17] w25 w28 ∧
  (again1 () w28))))))) (cond (decide (x8 > x13)) (∃ s29 : SV, w25.cell? free2 = some (.slice s29.a s29.len s29.cap) ∧
  (semSlice 2 s29.a s29.len s29.cap (some (1 : Int)) none (fun s30 =>
  (stL w25 free2 [(.slice s30.a s30.len s30.cap)] 0 (fun w31 =>
  (Keeps [b19, b17] w25 w31 ∧
  (again1 () w31))))))) (Y0 x8 x9 x13 x14 (fun t32 w33 =>
  (Keeps [b19, b17] w25 w33 ∧
  (cond (!t32) (K w33) (∃ s34 : SV, w33.cell? free1 = some (.slice s34.a s34.len s34.cap) ∧
  (semSlice 2 s34.a s34.len s34.cap (some (1 : Int)) none (fun s35 =>
  (∃ s36 : SV, w33.cell? free2 = some (.slice s36.a s36.len s36.cap) ∧
  (semSlice 2 s36.a s36.len s36.cap (some (1 : Int)) none (fun s38 =>
  (∀ w39, Ext w33 w39 →
  (stL w39 free1 [(.slice s35.a s35.len s35.cap)] 0 (fun w40 =>
  (Keeps [b19, b17] w39 w40 ∧
  ((∃ y37 : SV, w40.cell? free2 = some (.slice y37.a y37.len y37.cap) ∧
  ((.slice y37.a y37.len y37.cap) : Value) = (.slice s36.a s36.len s36.cap)) ∧
  (∀ w41, Ext w40 w41 →
  (stL w41 free2 [(.slice s38.a s38.len s38.cap)] 0 (fun w42 =>
  (Keeps [b19, b17] w41 w42 ∧
  (∀ w43, Ext w42 w43 →
  (again1 () w43)))))))))))))))))))) w25)))))))))))))))))))) (K w3))) (K w3)))) () w)

/-- postroad/space.Meet -/
def sh_space_Meet (a0 : SV) (b0 : SV) (K : Int → Int → World → Prop) (w : World) : Prop :=
  (∀ b1 w2, Ext w w2 → w.heap.size ≤ b1 → b1 < w2.heap.size →
  (∀ b3 w4, Ext w2 w4 → w2.heap.size ≤ b3 → b3 < w4.heap.size →
  (∀ w5, Off b1 w4 w5 →
  (∀ w6, Off b3 w5 w6 →
  (∀ b1007 w1008, Ext w6 w1008 → w6.heap.size ≤ b1007 → b1007 < w1008.heap.size →
  (∀ b1009 w1010, Ext w1008 w1010 → w1008.heap.size ≤ b1009 → b1009 < w1010.heap.size →
  (Blk w1010 b1007 [(.slice a0.a a0.len a0.cap)] →
  (Blk w1010 b1009 [(.slice b0.a b0.len b0.cap)] →
  (Keeps [b3, b1] w6 w1010 ∧
  (Blk w1010 b1 [(.int .i64 (-1 : Int))] →
  (Blk w1010 b3 [(.int .i64 (-1 : Int))] →
  (∀ D1011 l1012 w1013, Ext w1010 w1013 → w1010.heap.size ≤ D1011 → D1011 < l1012 → l1012 < w1013.heap.size →
  (sh_space_common_c1 (fun x1014 x1015 x1016 x1017 K1019 w1018 =>
  (w1018.heap[l1012]? = w1013.heap[l1012]? ∧
  (∀ b1020 w1021, Ext w1018 w1021 → w1018.heap.size ≤ b1020 → b1020 < w1021.heap.size →
  (∀ w1022, Off b1020 w1021 w1022 →
  (∀ b1023 w1024, Ext w1022 w1024 → w1022.heap.size ≤ b1023 → b1023 < w1024.heap.size →
  (∀ w1025, Off b1023 w1024 w1025 →
  (∀ w1026, Off l1012 w1025 w1026 →
  (∃ x1027 : Int, w1026.cell? (⟨b3, 0, none⟩ : Addr) = some (.int .i64 x1027) ∧
  (cond (x1027 == (-1 : Int)) (∀ w1028, Ext w1026 w1028 →
  (stL w1028 (⟨b1, 0, none⟩ : Addr) [(.int .i64 (IntKind.i64.wrap (x1015 + x1017)))] 0 (fun w1029 =>
  (Keeps [b1023, b1020, l1012] w1028 w1029 ∧
  (∀ w1030, Ext w1029 w1030 →
  (stL w1030 (⟨b3, 0, none⟩ : Addr) [(.int .i64 x1014)] 0 (fun w1031 =>
  (Keeps [b1023, b1020, l1012] w1030 w1031 ∧
  (∀ w1032, Ext w1031 w1032 →
  (∀ w1033, Off l1012 w1032 w1033 →
  (w1033.heap[l1012]? = w1013.heap[l1012]? → K1019 true w1033))))))))))) (∃ x1034 : Int, w1026.cell? (⟨b1, 0, none⟩ : Addr) = some (.int .i64 x1034) ∧
  (cond (decide ((IntKind.i64.wrap (x1015 + x1017)) ≤ x1034)) (∀ w1035, Ext w1026 w1035 →
  (stL w1035 (⟨b1, 0, none⟩ : Addr) [(.int .i64 (IntKind.i64.wrap (x1015 + x1017)))] 0 (fun w1036 =>
  (Keeps [b1023, b1020, l1012] w1035 w1036 ∧
  (∀ w1037, Ext w1036 w1037 →
  (stL w1037 (⟨b3, 0, none⟩ : Addr) [(.int .i64 x1014)] 0 (fun w1038 =>
  (Keeps [b1023, b1020, l1012] w1037 w1038 ∧
  (∀ w1039, Ext w1038 w1039 →
  (∀ w1040, Off l1012 w1039 w1040 →
  (w1040.heap[l1012]? = w1013.heap[l1012]? → K1019 true w1040))))))))))) (∀ w1041, Off l1012 w1026 w1041 →
  (w1041.heap[l1012]? = w1013.heap[l1012]? → K1019 true w1041))))))))))))) ⟨b1007, 0, none⟩ ⟨b1009, 0, none⟩ (fun w1042 =>
  (Keeps [D1011] w1013 w1042 ∧
  ((w1042.heap[l1012]? = w1013.heap[l1012]? ∧
  (∀ w1043, Off l1012 w1042 w1043 →
  (∃ x1044 : Int, w1043.cell? (⟨b1, 0, none⟩ : Addr) = some (.int .i64 x1044) ∧
  (∃ x1045 : Int, w1043.cell? (⟨b3, 0, none⟩ : Addr) = some (.int .i64 x1045) ∧
  (∀ w1046, Ext w1043 w1046 →
  (∀ w1047, Off D1011 w1046 w1047 →
  (K x1044 x1045 w1047))))))) ∨ False))) w1013)))))))))))))

/-- postroad/query.Where -/
def sh_query_Where (CV : CVT) (h0 : Option Addr) (s0 : Int) (t0 : Int) (K : Int → Int → World → Prop) (w : World) : Prop :=
  (sh_space_Forward CV h0 s0 (fun s1 w2 => (sh_space_Back CV h0 t0 (fun s3 w4 => (sh_space_Meet s1 s3 (fun x5 x6 w7 => (K x5 x6 w7)) w4)) w2)) w)

/-- postroad/unpack.Route -/
def sh_unpack_Route (CV : CVT) (h0 : Option Addr) (s0 : Int) (t0 : Int) (K : SV → Bool → World → Prop) (w : World) : Prop :=
  (Join (Unit) (fun J1 =>
  (cond (s0 == t0) (sh_hier_Hier_Rank h0 s0 (fun x2 w3 =>
  (cond (decide (x2 ≥ (0 : Int))) (K ⟨none, 0, 0⟩ true w3) (J1 () w3))) w) (J1 () w)))
  (fun t4 w5 =>
  (sh_query_Where CV h0 s0 t0 (fun x6 x7 w8 =>
  (sh_unpack_Climb CV h0 s0 x7 (fun s9 t10 w11 =>
  (cond (!t10) (K ⟨none, 0, 0⟩ false w11) (cond (x7 == (-1 : Int)) (K ⟨none, 0, 0⟩ false w11) (sh_unpack_Fall CV h0 x7 t0 (fun s12 t13 w14 =>
  (App 8 [(.int .i64 (0 : Int))] s9 s12 w14 (fun s15 w16 =>
  (K s15 true w16)))) w11)))) w8)) w5)))

/-- postroad/postroadref11.Rows -/
def sh_postroadref11_Rows (h0_Rank : SV) (h0_Ways : SV) (d0 : SV) (low0 : Int) (high0 : Int) (K : SV → World → Prop) (w : World) : Prop :=
  (∀ b1 w2, Ext w w2 → w.heap.size ≤ b1 → b1 < w2.heap.size →
  (LoopT (SV × Int × Unit) (fun t4 again3 w5 =>
  (cond (decide (t4.2.1 < (d0.len : Int))) (Join (SV × Unit) (fun J6 =>
  (Idx d0.a d0.len t4.2.1 1 (fun a7 =>
  (∃ x8 : Int, w5.cell? a7 = some (.int .i64 x8) ∧
  (cond (decide (x8 ≥ (0 : Int))) (Idx h0_Rank.a h0_Rank.len t4.2.1 1 (fun a9 =>
  (∃ x10 : Int, w5.cell? a9 = some (.int .i64 x10) ∧
  (cond (decide (x10 ≥ low0)) (Idx h0_Rank.a h0_Rank.len t4.2.1 1 (fun a11 =>
  (∃ x12 : Int, w5.cell? a11 = some (.int .i64 x12) ∧
  (cond (decide (x12 < high0)) (Idx d0.a d0.len t4.2.1 1 (fun a13 =>
  (∃ x14 : Int, w5.cell? a13 = some (.int .i64 x14) ∧
  (NewB [(.int .i64 t4.2.1), (.int .i64 x14)] w5 (fun b15 w16 =>
  (App 16 [(.int .i64 (0 : Int)), (.int .i64 (0 : Int))] t4.1 ⟨(some ⟨b15, 0, none⟩), 1, 1⟩ w16 (fun s17 w18 =>
  (Keeps [b1] w16 w18 ∧
  (J6 (s17, ()) w18))))))))) (J6 (t4.1, ()) w5))))) (J6 (t4.1, ()) w5))))) (J6 (t4.1, ()) w5))))))
  (fun t19 w20 =>
  (again3 (t19.1, (IntKind.i64.wrap (t4.2.1 + (1 : Int))), ()) w20))) (K t4.1 w5))) (⟨none, 0, 0⟩, (0 : Int), ()) w2))

/-- postroad/postroadref11.Above -/
def sh_postroadref11_Above (h0_Rank : SV) (h0_Ways : SV) (v0 : Int) (back0 : Bool) (K : SV → World → Prop) (w : World) : Prop :=
  (∀ b1 w2, Ext w w2 → w.heap.size ≤ b1 → b1 < w2.heap.size →
  (∀ w4, Ext w2 w4 →
  (sh_postroadref11_Climb h0_Rank h0_Ways v0 (h0_Rank.len : Int) back0 (fun s3 w5 =>
  (Keeps [b1] w4 w5 ∧
  (∀ w7, Ext w5 w7 →
  (sh_postroadref11_Rows h0_Rank h0_Ways s3 (0 : Int) (h0_Rank.len : Int) (fun s6 w8 =>
  (Keeps [b1] w7 w8 ∧
  (∀ w9, Ext w8 w9 →
  (K s6 w9)))) w7)))) w4)))

/-- postroad/postroadref11.Meet -/
def sh_postroadref11_Meet (a0 : SV) (b0 : SV) (K : Int → Int → World → Prop) (w : World) : Prop :=
  (Join (Int × Int × Unit) (fun J1 =>
  (LoopT (Int × Int × Int × Unit) (fun t3 again2 w4 =>
  (cond (decide (t3.2.2.1 < (a0.len : Int))) (Join (Int × Int × Unit) (fun J5 =>
  (LoopT (Int × Int × Int × Unit) (fun t7 again6 w8 =>
  (cond (decide (t7.2.2.1 < (b0.len : Int))) (Join (Int × Int × Unit) (fun J9 =>
  (Idx a0.a a0.len t3.2.2.1 2 (fun a10 =>
  (∃ x11 : Int, w8.cell? (a10.add 0) = some (.int .i64 x11) ∧
  (Idx b0.a b0.len t7.2.2.1 2 (fun a12 =>
  (∃ x13 : Int, w8.cell? (a12.add 0) = some (.int .i64 x13) ∧
  (cond (x11 == x13) (cond (decide (t7.2.1 < (0 : Int))) (∀ w14, Ext w8 w14 →
  (Idx a0.a a0.len t3.2.2.1 2 (fun a15 =>
  (∃ x16 : Int, w14.cell? (a15.add 1) = some (.int .i64 x16) ∧
  (Idx b0.a b0.len t7.2.2.1 2 (fun a17 =>
  (∃ x18 : Int, w14.cell? (a17.add 1) = some (.int .i64 x18) ∧
  (∀ w19, Ext w14 w19 →
  (Idx a0.a a0.len t3.2.2.1 2 (fun a20 =>
  (∃ x21 : Int, w19.cell? (a20.add 0) = some (.int .i64 x21) ∧
  (J9 ((IntKind.i64.wrap (x16 + x18)), x21, ()) w19)))))))))))) (Idx a0.a a0.len t3.2.2.1 2 (fun a22 =>
  (∃ x23 : Int, w8.cell? (a22.add 1) = some (.int .i64 x23) ∧
  (Idx b0.a b0.len t7.2.2.1 2 (fun a24 =>
  (∃ x25 : Int, w8.cell? (a24.add 1) = some (.int .i64 x25) ∧
  (cond (decide ((IntKind.i64.wrap (x23 + x25)) < t7.1)) (∀ w26, Ext w8 w26 →
  (Idx a0.a a0.len t3.2.2.1 2 (fun a27 =>
  (∃ x28 : Int, w26.cell? (a27.add 1) = some (.int .i64 x28) ∧
  (Idx b0.a b0.len t7.2.2.1 2 (fun a29 =>
  (∃ x30 : Int, w26.cell? (a29.add 1) = some (.int .i64 x30) ∧
  (∀ w31, Ext w26 w31 →
  (Idx a0.a a0.len t3.2.2.1 2 (fun a32 =>
  (∃ x33 : Int, w31.cell? (a32.add 0) = some (.int .i64 x33) ∧
  (J9 ((IntKind.i64.wrap (x28 + x30)), x33, ()) w31)))))))))))) (Idx a0.a a0.len t3.2.2.1 2 (fun a34 =>
  (∃ x35 : Int, w8.cell? (a34.add 1) = some (.int .i64 x35) ∧
  (Idx b0.a b0.len t7.2.2.1 2 (fun a36 =>
  (∃ x37 : Int, w8.cell? (a36.add 1) = some (.int .i64 x37) ∧
  (cond ((IntKind.i64.wrap (x35 + x37)) == t7.1) (Idx a0.a a0.len t3.2.2.1 2 (fun a38 =>
  (∃ x39 : Int, w8.cell? (a38.add 0) = some (.int .i64 x39) ∧
  (∀ w40, Ext w8 w40 →
  (cond (decide (x39 > t7.2.1)) (Idx a0.a a0.len t3.2.2.1 2 (fun a41 =>
  (∃ x42 : Int, w40.cell? (a41.add 1) = some (.int .i64 x42) ∧
  (Idx b0.a b0.len t7.2.2.1 2 (fun a43 =>
  (∃ x44 : Int, w40.cell? (a43.add 1) = some (.int .i64 x44) ∧
  (∀ w45, Ext w40 w45 →
  (Idx a0.a a0.len t3.2.2.1 2 (fun a46 =>
  (∃ x47 : Int, w45.cell? (a46.add 0) = some (.int .i64 x47) ∧
  (J9 ((IntKind.i64.wrap (x42 + x44)), x47, ()) w45))))))))))) (J9 (t7.1, t7.2.1, ()) w40)))))) (∀ w48, Ext w8 w48 →
  (J9 (t7.1, t7.2.1, ()) w48))))))))))))))))) (∀ w49, Ext w8 w49 →
  (J9 (t7.1, t7.2.1, ()) w49))))))))))
  (fun t50 w51 =>
  (again6 (t50.1, t50.2.1, (IntKind.i64.wrap (t7.2.2.1 + (1 : Int))), ()) w51))) (J5 (t7.1, t7.2.1, ()) w8))) (t3.1, t3.2.1, (0 : Int), ()) w4))
  (fun t52 w53 =>
  (again2 (t52.1, t52.2.1, (IntKind.i64.wrap (t3.2.2.1 + (1 : Int))), ()) w53))) (J1 (t3.1, t3.2.1, ()) w4))) ((-1 : Int), (-1 : Int), (0 : Int), ()) w))
  (fun t54 w55 =>
  (K t54.1 t54.2.1 w55)))

/-- postroad/postroadref12.Where -/
def sh_postroadref12_Where (h0_Rank : SV) (h0_Ways : SV) (s0 : Int) (t0 : Int) (K : Int → Int → World → Prop) (w : World) : Prop :=
  (∀ b1 w2, Ext w w2 → w.heap.size ≤ b1 → b1 < w2.heap.size →
  (∀ w4, Ext w2 w4 →
  (sh_postroadref11_Above h0_Rank h0_Ways s0 false (fun s3 w5 =>
  (Keeps [b1] w4 w5 ∧
  (∀ w7, Ext w5 w7 →
  (sh_postroadref11_Above h0_Rank h0_Ways t0 true (fun s6 w8 =>
  (Keeps [b1] w7 w8 ∧
  (Quiet (Int × Int) (fun r11 =>
  (.tuple #[(.int .i64 r11.1), (.int .i64 r11.2)])) (fun K12 w13' => sh_postroadref11_Meet s3 s6 (fun x9 x10 w13 => K12 (x9, x10) w13) w13') w8 (fun r11 =>
  (∀ w14, Ext w8 w14 →
  (K r11.1 r11.2 w14)))))) w7)))) w4)))

/-- postroad/postroadref13.Route -/
def sh_postroadref13_Route (h0_Rank : SV) (h0_Ways : SV) (s0 : Int) (t0 : Int) (K : SV → Bool → World → Prop) (w : World) : Prop :=
  (∀ b1 w2, Ext w w2 → w.heap.size ≤ b1 → b1 < w2.heap.size →
  (Join (Unit) (fun J3 =>
  (cond (s0 == t0) (cond (decide (s0 ≥ (0 : Int))) (cond (decide (s0 < (h0_Rank.len : Int))) (K ⟨none, 0, 0⟩ true w2) (J3 () w2)) (J3 () w2)) (J3 () w2)))
  (fun t4 w5 =>
  (sh_postroadref12_Where h0_Rank h0_Ways s0 t0 (fun x6 x7 w8 =>
  (Keeps [b1] w5 w8 ∧
  (cond (decide (x7 < (0 : Int))) (K ⟨none, 0, 0⟩ false w8) (sh_postroadref13_Climb h0_Rank h0_Ways s0 x7 (fun s9 t10 w11 =>
  (Keeps [b1] w8 w11 ∧
  (sh_postroadref13_Fall h0_Rank h0_Ways x7 t0 (fun s12 t13 w14 =>
  (Keeps [b1] w11 w14 ∧
  (App 8 [(.int .i64 (0 : Int))] s9 s12 w14 (fun s15 w16 =>
  (Keeps [b1] w14 w16 ∧
  (K s15 true w16)))))) w11))) w8)))) w5))))

/-- postroad/query.Far -/
def sh_query_Far (CV : CVT) (h0 : Option Addr) (s0 : Int) (t0 : Int) (K : Int → World → Prop) (w : World) : Prop :=
  (sh_query_Where CV h0 s0 t0 (fun x1 x2 w3 => (K x1 w3)) w)

/-- postroad/unpack.Arcs -/
def sh_unpack_Arcs (CV : CVT) (h0 : Option Addr) (s0 : Int) (t0 : Int) (K : SV → Int → Bool → World → Prop) (w : World) : Prop :=
  (sh_unpack_Route CV h0 s0 t0 (fun s1 t2 w3 =>
  (cond (!t2) (K ⟨none, 0, 0⟩ (-1 : Int) false w3) (sh_unpack_open h0 s1 (fun s4 w5 =>
  (sh_query_Far CV h0 s0 t0 (fun x6 w7 =>
  (K s4 x6 true w7)) w5)) w3))) w)

/-- postroad/postroadref12.Far -/
def sh_postroadref12_Far (h0_Rank : SV) (h0_Ways : SV) (s0 : Int) (t0 : Int) (K : Int → World → Prop) (w : World) : Prop :=
  (∀ b1 w2, Ext w w2 → w.heap.size ≤ b1 → b1 < w2.heap.size → (sh_postroadref12_Where h0_Rank h0_Ways s0 t0 (fun x3 x4 w5 => (Keeps [b1] w2 w5 ∧ (K x3 w5))) w2))

/-- postroad/postroadref13.Arcs -/
def sh_postroadref13_Arcs (h0_Rank : SV) (h0_Ways : SV) (s0 : Int) (t0 : Int) (K : SV → Int → Bool → World → Prop) (w : World) : Prop :=
  (∀ b1 w2, Ext w w2 → w.heap.size ≤ b1 → b1 < w2.heap.size →
  (sh_postroadref13_Route h0_Rank h0_Ways s0 t0 (fun s3 t4 w5 =>
  (Keeps [b1] w2 w5 ∧
  (Join (SV × Unit) (fun J6 =>
  (LoopT (SV × Int × Unit) (fun t8 again7 w9 =>
  (cond (decide (t8.2.1 < (s3.len : Int))) (Idx s3.a s3.len t8.2.1 1 (fun a10 =>
  (∃ x11 : Int, w9.cell? a10 = some (.int .i64 x11) ∧
  (∀ w13, Ext w9 w13 →
  (sh_postroadref13_Open h0_Rank h0_Ways x11 (fun s12 w14 =>
  (Keeps [b1] w13 w14 ∧
  (∀ w15, Ext w14 w15 →
  (App 8 [(.int .i64 (0 : Int))] t8.1 s12 w15 (fun s16 w17 =>
  (Keeps [b1] w15 w17 ∧
  (∀ w18, Ext w17 w18 →
  (again7 (s16, (IntKind.i64.wrap (t8.2.1 + (1 : Int))), ()) w18)))))))) w13))))) (J6 (t8.1, ()) w9))) (⟨none, 0, 0⟩, (0 : Int), ()) w5))
  (fun t19 w20 =>
  (sh_postroadref12_Far h0_Rank h0_Ways s0 t0 (fun x21 w22 =>
  (Keeps [b1] w20 w22 ∧
  (K t19.1 x21 t4 w22))) w20))))) w2))

/-- postroad/postroadlaw13.UnpackRoutes -/
def sh_postroadlaw13_UnpackRoutes (CV : CVT) (h0_Rank : SV) (h0_Ways : SV) (s0 : Int) (t0 : Int) (K : Bool → World → Prop) (w : World) : Prop :=
  (∀ b1 w2, Ext w w2 → w.heap.size ≤ b1 → b1 < w2.heap.size →
  (sh_postroadref11_Fit h0_Rank h0_Ways (fun t3 w4 =>
  (Keeps [b1] w2 w4 ∧
  (cond (!t3) (sh_postroadlaw13_known  (fun t5 w6 =>
  (Keeps [b1] w4 w6 ∧
  (K t5 w6))) w4) (sh_hier_New h0_Rank h0_Ways (fun p7 w8 =>
  (Keeps [b1] w4 w8 ∧
  (sh_unpack_Climb CV p7 s0 t0 (fun s9 t10 w11 =>
  (Keeps [b1] w8 w11 ∧
  (sh_postroadref13_Climb h0_Rank h0_Ways s0 t0 (fun s12 t13 w14 =>
  (Keeps [b1] w11 w14 ∧
  (sh_unpack_Fall CV p7 s0 t0 (fun s15 t16 w17 =>
  (Keeps [b1] w14 w17 ∧
  (sh_postroadref13_Fall h0_Rank h0_Ways s0 t0 (fun s18 t19 w20 =>
  (Keeps [b1] w17 w20 ∧
  (sh_unpack_Route CV p7 s0 t0 (fun s21 t22 w23 =>
  (Keeps [b1] w20 w23 ∧
  (sh_postroadref13_Route h0_Rank h0_Ways s0 t0 (fun s24 t25 w26 =>
  (Keeps [b1] w23 w26 ∧
  (sh_unpack_Arcs CV p7 s0 t0 (fun s27 x28 t29 w30 =>
  (Keeps [b1] w26 w30 ∧
  (sh_postroadref13_Arcs h0_Rank h0_Ways s0 t0 (fun s31 x32 t33 w34 =>
  (Keeps [b1] w30 w34 ∧
  (sh_postroadref00_SameInts s9 s12 (fun t35 w36 =>
  (Keeps [b1] w34 w36 ∧
  (cond t35 (cond (t10 == t13) (sh_postroadref00_SameInts s15 s18 (fun t37 w38 =>
  (Keeps [b1] w36 w38 ∧
  (cond t37 (cond (t16 == t19) (sh_postroadref00_SameInts s21 s24 (fun t39 w40 =>
  (Keeps [b1] w38 w40 ∧
  (cond t39 (cond (t22 == t25) (sh_postroadref00_SameInts s27 s31 (fun t41 w42 =>
  (Keeps [b1] w40 w42 ∧
  (cond t41 (cond (x28 == x32) (cond (t29 == t33) (sh_postroadlaw13_known  (fun t43 w44 =>
  (Keeps [b1] w42 w44 ∧
  (K t43 w44))) w42) (K false w42)) (K false w42)) (K false w42)))) w40) (K false w40)) (K false w40)))) w38) (K false w38)) (K false w38)))) w36) (K false w36)) (K false w36)))) w34))) w30))) w26))) w23))) w20))) w17))) w14))) w11))) w8))) w4)))) w2))

/-- postroad/postroadref07.All -/
def sh_postroadref07_All (m0_N : Int) (m0_Arcs : SV) (K : SV → World → Prop) (w : World) : Prop :=
  (∀ b1 w2, Ext w w2 → w.heap.size ≤ b1 → b1 < w2.heap.size →
  (LoopT (SV × Int × Unit) (fun t4 again3 w5 =>
  (cond (decide (t4.2.1 < m0_N)) (Join (SV × Unit) (fun J6 =>
  (MkS 8 [(.int .i64 (0 : Int))] m0_N m0_N w5 (fun s7 w8 =>
  (Join (Unit) (fun J9 =>
  (LoopT (Int × Unit) (fun t11 again10 w12 =>
  (cond (decide (t11.1 < m0_N)) (Idx s7.a s7.len t11.1 1 (fun a13 =>
  (stL w12 a13 [(.int .i64 (-1 : Int))] 0 (fun w14 =>
  (Keeps [b1] w12 w14 ∧
  (again10 ((IntKind.i64.wrap (t11.1 + (1 : Int))), ()) w14)))))) (J9 () w12))) ((0 : Int), ()) w8))
  (fun t15 w16 =>
  (Idx s7.a s7.len t4.2.1 1 (fun a17 =>
  (stL w16 a17 [(.int .i64 (0 : Int))] 0 (fun w18 =>
  (Keeps [b1] w16 w18 ∧
  (Join (Unit) (fun J19 =>
  (LoopT (Bool × Unit) (fun t21 again20 w22 =>
  (cond t21.1 (LoopT (Bool × Int × Unit) (fun t24 again23 w25 =>
  (cond (decide (t24.2.1 < (m0_Arcs.len : Int))) (Join (Bool × Unit) (fun J26 =>
  (Idx m0_Arcs.a m0_Arcs.len t24.2.1 3 (fun a27 =>
  (∃ x28 : Int, w25.cell? (a27.add 0) = some (.int .i64 x28) ∧ ∃ x29 : Int, w25.cell? (a27.add 1) = some (.int .i64 x29) ∧ ∃ x30 : Int, w25.cell? (a27.add 2) = some (.int .i64 x30) ∧
  (∀ b31 w32, Ext w25 w32 → w25.heap.size ≤ b31 → b31 < w32.heap.size →
  (∀ w33, Off b31 w32 w33 →
  (Idx s7.a s7.len x28 1 (fun a34 =>
  (∃ x35 : Int, w33.cell? a34 = some (.int .i64 x35) ∧
  (cond (decide (x35 ≥ (0 : Int))) (Idx s7.a s7.len x29 1 (fun a36 =>
  (∃ x37 : Int, w33.cell? a36 = some (.int .i64 x37) ∧
  (cond (decide (x37 < (0 : Int))) (∀ w38, Ext w33 w38 →
  (Idx s7.a s7.len x28 1 (fun a39 =>
  (∃ x40 : Int, w38.cell? a39 = some (.int .i64 x40) ∧
  (Idx s7.a s7.len x29 1 (fun a41 =>
  (∀ w42, Ext w38 w42 →
  (stL w42 a41 [(.int .i64 (IntKind.i64.wrap (x40 + x30)))] 0 (fun w43 =>
  (Keeps [b31, b1] w42 w43 ∧
  (∀ w44, Ext w43 w44 →
  (J26 (true, ()) w44)))))))))))) (Idx s7.a s7.len x28 1 (fun a45 =>
  (∃ x46 : Int, w33.cell? a45 = some (.int .i64 x46) ∧
  (Idx s7.a s7.len x29 1 (fun a47 =>
  (∃ x48 : Int, w33.cell? a47 = some (.int .i64 x48) ∧
  (∀ w49, Ext w33 w49 →
  (cond (decide ((IntKind.i64.wrap (x46 + x30)) < x48)) (Idx s7.a s7.len x28 1 (fun a50 =>
  (∃ x51 : Int, w49.cell? a50 = some (.int .i64 x51) ∧
  (Idx s7.a s7.len x29 1 (fun a52 =>
  (∀ w53, Ext w49 w53 →
  (stL w53 a52 [(.int .i64 (IntKind.i64.wrap (x51 + x30)))] 0 (fun w54 =>
  (Keeps [b31, b1] w53 w54 ∧
  (∀ w55, Ext w54 w55 →
  (J26 (true, ()) w55))))))))))) (J26 (t24.1, ()) w49))))))))))))) (∀ w56, Ext w33 w56 →
  (J26 (t24.1, ()) w56))))))))))))
  (fun t57 w58 =>
  (again23 (t57.1, (IntKind.i64.wrap (t24.2.1 + (1 : Int))), ()) w58))) (again20 (t24.1, ()) w25))) (false, (0 : Int), ()) w22) (J19 () w22))) (true, ()) w18))
  (fun t59 w60 =>
  (NewB [(.slice s7.a s7.len s7.cap)] w60 (fun b61 w62 =>
  (App 24 [(.slice none 0 0)] t4.1 ⟨(some ⟨b61, 0, none⟩), 1, 1⟩ w62 (fun s63 w64 =>
  (Keeps [b1] w62 w64 ∧
  (J6 (s63, ()) w64))))))))))))))))))
  (fun t65 w66 =>
  (again3 (t65.1, (IntKind.i64.wrap (t4.2.1 + (1 : Int))), ()) w66))) (K t4.1 w5))) (⟨none, 0, 0⟩, (0 : Int), ()) w2))

/-- postroad/postroadlaw13.UnpackWalks -/
def sh_postroadlaw13_UnpackWalks (CV : CVT) (n0 : Int) (arcs0 : SV) (a0 : Int) (K : Bool → World → Prop) (w : World) : Prop :=
  (sh_postroadref07_Of n0 arcs0 (fun x1 s2 w3 =>
  (∀ b4 w5, Ext w3 w5 → w3.heap.size ≤ b4 → b4 < w5.heap.size →
  (∀ w6, Off b4 w5 w6 →
  (sh_postroadref09_Of x1 s2 (fun s7 s8 w9 =>
  (Keeps [b4] w6 w9 ∧
  (sh_hier_New s7 s8 (fun p10 w11 =>
  (Keeps [b4] w9 w11 ∧
  (sh_postroadref07_All x1 s2 (fun s12 w13 =>
  (Keeps [b4] w11 w13 ∧
  (if x1 = 0 then False else (Join (Unit) (fun J14 =>
  (LoopT (Int × Unit) (fun t16 again15 w17 =>
  (cond (decide (t16.1 < x1)) (Join (Unit) (fun J18 =>
  (sh_unpack_Arcs CV p10 ((IntKind.i64.wrap (a0)).tmod x1) t16.1 (fun s19 x20 t21 w22 =>
  (Keeps [b4] w17 w22 ∧
  (Idx s12.a s12.len ((IntKind.i64.wrap (a0)).tmod x1) 1 (fun a23 =>
  (∃ s24 : SV, w22.cell? a23 = some (.slice s24.a s24.len s24.cap) ∧
  (Idx s24.a s24.len t16.1 1 (fun a25 =>
  (∃ x26 : Int, w22.cell? a25 = some (.int .i64 x26) ∧
  (cond (!(t21 == (decide (x26 ≥ (0 : Int))))) (K false w22) (Idx s12.a s12.len ((IntKind.i64.wrap (a0)).tmod x1) 1 (fun a27 =>
  (∃ s28 : SV, w22.cell? a27 = some (.slice s28.a s28.len s28.cap) ∧
  (Idx s28.a s28.len t16.1 1 (fun a29 =>
  (∃ x30 : Int, w22.cell? a29 = some (.int .i64 x30) ∧
  (cond (x20 != x30) (K false w22) (cond (!t21) (cond ((s19.len : Int) != (0 : Int)) (K false w22) (J18 () w22)) (sh_postroadref07_Walk x1 s2 ((IntKind.i64.wrap (a0)).tmod x1) s19 (fun x31 x32 t33 w34 =>
  (Keeps [b4] w22 w34 ∧
  (cond (!t33) (K false w34) (cond (x31 != t16.1) (K false w34) (cond (x32 != x20) (K false w34) (cond (((IntKind.i64.wrap (a0)).tmod x1) == t16.1) (cond ((s19.len : Int) != (0 : Int)) (K false w34) (J18 () w34)) (J18 () w34))))))) w22)))))))))))))))))) w17))
  (fun t35 w36 =>
  (again15 ((IntKind.i64.wrap (t16.1 + (1 : Int))), ()) w36))) (J14 () w17))) ((0 : Int), ()) w13))
  (fun t37 w38 =>
  (sh_postroadlaw13_known  (fun t39 w40 =>
  (Keeps [b4] w38 w40 ∧
  (K t39 w40))) w38)))))) w11))) w9))) w6)))) w)

/-- postroad/postroadlaw13.UnpackMeets -/
def sh_postroadlaw13_UnpackMeets (CV : CVT) (h0_Rank : SV) (h0_Ways : SV) (s0 : Int) (t0 : Int) (K : Bool → World → Prop) (w : World) : Prop :=
  (∀ b1 w2, Ext w w2 → w.heap.size ≤ b1 → b1 < w2.heap.size →
  (sh_postroadref11_Fit h0_Rank h0_Ways (fun t3 w4 =>
  (Keeps [b1] w2 w4 ∧
  (cond (!t3) (sh_postroadlaw13_known  (fun t5 w6 =>
  (Keeps [b1] w4 w6 ∧
  (K t5 w6))) w4) (sh_hier_New h0_Rank h0_Ways (fun p7 w8 =>
  (Keeps [b1] w4 w8 ∧
  (sh_unpack_Route CV p7 s0 t0 (fun s9 t10 w11 =>
  (Keeps [b1] w8 w11 ∧
  (sh_unpack_Arcs CV p7 s0 t0 (fun s12 x13 t14 w15 =>
  (Keeps [b1] w11 w15 ∧
  (Join (Unit) (fun J16 =>
  (cond (!(t10 == t14)) (K false w15) (cond (!t10) (cond ((s9.len : Int) != (0 : Int)) (K false w15) (cond (x13 != (-1 : Int)) (K false w15) (J16 () w15))) (J16 () w15))))
  (fun t17 w18 =>
  (cond (!t10) (sh_postroadlaw13_known  (fun t19 w20 =>
  (Keeps [b1] w18 w20 ∧
  (K t19 w20))) w18) (Join (Int × Int × Unit) (fun J21 =>
  (LoopT (Int × Bool × Int × Int × Unit) (fun t23 again22 w24 =>
  (cond (decide (t23.2.2.2.1 < (s9.len : Int))) (Join (Int × Bool × Int × Unit) (fun J25 =>
  (Idx s9.a s9.len t23.2.2.2.1 1 (fun a26 =>
  (∃ x27 : Int, w24.cell? a26 = some (.int .i64 x27) ∧
  (sh_hier_Hier_Way p7 x27 (fun x28 x29 x30 x31 x32 t33 w34 =>
  (Keeps [b1] w24 w34 ∧
  (∀ b35 w36, Ext w34 w36 → w34.heap.size ≤ b35 → b35 < w36.heap.size →
  (∀ w37, Off b35 w36 w37 →
  (Quiet (Int) (fun r39 =>
  (.int .i64 r39)) (fun K40 w41' => sh_hier_Hier_Rank p7 x29 (fun x38 w41 => K40 x38 w41) w41') w37 (fun r39 =>
  (Quiet (Int) (fun r43 =>
  (.int .i64 r43)) (fun K44 w45' => sh_hier_Hier_Rank p7 x28 (fun x42 w45 => K44 x42 w45) w45') w37 (fun r43 =>
  (∀ w46, Ext w37 w46 →
  (Join (Unit) (fun J47 =>
  (cond (!t33) (K false w46) (cond (x28 != t23.1) (K false w46) (cond t23.2.1 (cond (decide (r39 > r43)) (K false w46) (J47 () w46)) (J47 () w46)))))
  (fun t48 w49 =>
  (cond t23.2.1 (J25 (x29, true, (IntKind.i64.wrap (t23.2.2.1 + x30)), ()) w49) (J25 (x29, !(decide (r39 > r43)), (IntKind.i64.wrap (t23.2.2.1 + x30)), ()) w49))))))))))))) w24)))))
  (fun t50 w51 =>
  (again22 (t50.1, t50.2.1, t50.2.2.1, (IntKind.i64.wrap (t23.2.2.2.1 + (1 : Int))), ()) w51))) (J21 (t23.1, t23.2.2.1, ()) w24))) (s0, false, (0 : Int), (0 : Int), ()) w18))
  (fun t52 w53 =>
  (cond (t52.1 == t0) (cond (t52.2.1 == x13) (sh_postroadlaw13_known  (fun t54 w55 =>
  (Keeps [b1] w53 w55 ∧
  (K t54 w55))) w53) (K false w53)) (K false w53))))))))) w11))) w8))) w4)))) w2))
end Go.Sh

/- What the heap's inner functions do to memory. -/
set_option maxRecDepth 100000
namespace Go.Sh
open Go.RowKit

/-- One entry ahead of another one. -/
def eLt (e f : Int × Int) : Bool := decide (e.2 < f.2) || (e.2 == f.2 && decide (e.1 < f.1))
def cmpI (x y : Int) : Int := if x < y then -1 else if x > y then 1 else 0

theorem compare_eq (x y : Int) (K : Int → World → Prop) (w : World) : sh_cmp_Compare_int x y K w = K (cmpI x y) w := by
  unfold sh_cmp_Compare_int sh_cmp_isNaN_int cmpI
  have h1 : (x != x) = false := by simp
  have h2 : (y != y) = false := by simp
  simp only [h1, h2, cond_false]
  by_cases h : x < y
  · simp [h]
  · by_cases h' : x > y <;> simp [h, h']

theorem or2_ok {b : Nat} {x y : Int} {K : Int → World → Prop} {w : World} (hB : Blk w b [.int .i64 x, .int .i64 y]) (hk : K (if x = 0 then y else x) w) :
    sh_cmp_Or_int ⟨some ⟨b, 0, none⟩, 2, 2⟩ K w := by
  unfold sh_cmp_Or_int
  refine ⟨fun s w1 => w1 = w ∧ (s.1 = 0 ∨ (s.1 = 1 ∧ x = 0) ∨ (s.1 = 2 ∧ x = 0 ∧ y = 0)), fun s _ => (2 - s.1).toNat, ⟨rfl, .inl rfl⟩, ?_⟩
  rintro ⟨i, u⟩ w1 ⟨rfl, hi⟩
  simp only at hi ⊢
  rcases hi with rfl | ⟨rfl, rfl⟩ | ⟨rfl, rfl, rfl⟩
  · rw [Bool.cond_decide]
    rw [if_pos (by decide)]
    refine ⟨_, rfl, by decide, by decide, x, ?_, ?_⟩
    · rw [addm, cell_blk hB]; rfl
    · by_cases hx : x = 0
      · subst hx
        simp [IntKind.wrap_i64]
      · simp [hx] at hk ⊢; exact hk
  · rw [Bool.cond_decide, if_pos (by decide)]
    refine ⟨_, rfl, by decide, by decide, y, ?_, ?_⟩
    · rw [addm, cell_blk hB]; rfl
    · by_cases hy : y = 0
      · subst hy
        simp [IntKind.wrap_i64]
      · simp [hy] at hk ⊢; exact hk
  · rw [Bool.cond_decide, if_neg (by decide)]
    simpa using hk

theorem before_ok {e f : Int × Int} {K : Bool → World → Prop} {w : World} (hk : ∀ w', Ext w w' → K (eLt e f) w') : sh_heap_entry_before e.1 e.2 f.1 f.2 K w := by
  unfold sh_heap_entry_before
  intro b1 w2 e1 _ _ b3 w4 e2 _ _
  refine .mk (cmpI e.2 f.2) (fun w' ew K' hK => by rw [compare_eq]; exact hK _ (.refl _)) ?_
  refine .mk (cmpI e.1 f.1) (fun w' ew K' hK => by rw [compare_eq]; exact hK _ (.refl _)) ?_
  intro w13 e3 b14 w15 e4 _ hB
  refine .mk (if cmpI e.2 f.2 = 0 then cmpI e.1 f.1 else cmpI e.2 f.2) (fun w' ew K' hK => or2_ok (ew.blkE hB) (hK _ (.refl _))) ?_
  intro w20 e5
  have := hk w20 ((((e1.trans e2).trans e3).trans e4).trans e5)
  have he : decide ((if cmpI e.2 f.2 = 0 then cmpI e.1 f.1 else cmpI e.2 f.2) < 0) = eLt e f := by
    unfold cmpI eLt
    obtain ⟨a, b⟩ := e; obtain ⟨c, d⟩ := f
    simp only
    by_cases h1 : b < d
    · simp [h1]
    · by_cases h2 : b > d
      · have : ¬ (b = d) := by omega
        simp [h1, h2, this]
      · have : b = d := by omega
        subst this
        by_cases h3 : a < c
        · simp [h3]
        · by_cases h4 : a > c <;> simp [h3, h4]
  rw [he]; exact this

/-- The heap in memory: its own block, its entries, its places. -/
structure HeapM (w : World) (hb : Nat) (s t : SV) (es : List (Int × Int)) (pl : List Int) : Prop where
  hd : Blk w hb [.slice s.a s.len s.cap, .slice t.a t.len t.cap]
  l : Own RE w s es
  p : Own RI w t pl
  n1 : ¬ s.blk hb
  n2 : ¬ t.blk hb
  n3 : ∀ k, s.blk k → ¬ t.blk k

theorem HeapM.ext {w w' : World} {hb : Nat} {s t : SV} {es : List (Int × Int)} {pl : List Int} (h : HeapM w hb s t es pl) (e : Ext w w') : HeapM w' hb s t es pl :=
  ⟨e.blkE h.hd, h.l.ext e, h.p.ext e, h.n1, h.n2, h.n3⟩
theorem HeapM.chg {F : Nat → Prop} {w w' : World} {hb : Nat} {s t : SV} {es : List (Int × Int)} {pl : List Int} (h : HeapM w hb s t es pl) (c : Chg F w w') (h1 : ¬ F hb) (h2 : ∀ k, s.blk k → ¬ F k) (h3 : ∀ k, t.blk k → ¬ F k) : HeapM w' hb s t es pl :=
  ⟨c.blk h.hd h1, h.l.chg c h2, h.p.chg c h3, h.n1, h.n2, h.n3⟩
theorem HeapM.s0 {w : World} {hb : Nat} {s t : SV} {es : List (Int × Int)} {pl : List Int} (h : HeapM w hb s t es pl) : w.cell? ⟨hb, 0, none⟩ = some (.slice s.a s.len s.cap) := by
  rw [cell_blk h.hd]; rfl
theorem HeapM.s1 {w : World} {hb : Nat} {s t : SV} {es : List (Int × Int)} {pl : List Int} (h : HeapM w hb s t es pl) : w.cell? ⟨hb, 1, none⟩ = some (.slice t.a t.len t.cap) := by
  rw [cell_blk h.hd]; rfl

section
variable {w : World} {hb : Nat} {s t : SV} {es : List (Int × Int)} {pl : List Int}

theorem hplay_ok {i id key : Int} {K : World → Prop} (h : HeapM w hb s t es pl) (hi : 0 ≤ i) (hi2 : i.toNat < es.length) (hes : es.length < 2 ^ 62) (hd : 0 ≤ id) (hd2 : id.toNat < pl.length)
    (hk : ∀ w', Chg (fun k => s.blk k ∨ t.blk k) w w' → HeapM w' hb s t (es.set i.toNat (id, key)) (pl.set id.toNat (i + 1)) → K w') : sh_heap_queue_lay (some ⟨hb, 0, none⟩) i id key K w := by
  unfold sh_heap_queue_lay
  intro b1 w2 e1 hb1 hb1b
  have h2 := h.ext e1
  refine ⟨_, rfl, s, by rw [addm]; exact h2.s0, ?_⟩
  refine h2.l.put hi hi2 fun b hsb hput => ?_
  intro w6 e6
  have h6 := h2.ext e6
  refine hput (id, key) w6 _ h6.l fun w7 o7 O7 => ?_
  have hbs : s.blk b := ⟨_, hsb, rfl⟩
  have bl6 : b < w.heap.size := h.l.lt hbs
  have c7 : Chg s.blk w6 w7 := .of_off o7 hbs
  refine ⟨fun c hc => by simp at hc; subst hc; exact o7.block _ (by omega), ?_⟩
  intro w8 e8
  have h8 : HeapM w8 hb s t (es.set i.toNat (id, key)) pl := ⟨e8.blkE (c7.blk h6.hd h6.n1), O7.ext e8, (h6.p.chg c7 (fun k hk h => h6.n3 k h hk)).ext e8, h.n1, h.n2, h.n3⟩
  refine ⟨_, rfl, t, by rw [addm]; exact h8.s1, ?_⟩
  refine h8.p.put hd hd2 fun d htd hput => ?_
  have hdt : t.blk d := ⟨_, htd, rfl⟩
  have dl : d < w.heap.size := h.p.lt hdt
  intro w12 e12
  have h12 := h8.ext e12
  refine hput _ w12 _ h12.p fun w13 o13 O13 => ?_
  have c13 : Chg t.blk w12 w13 := .of_off o13 hdt
  refine ⟨fun c hc => by simp at hc; subst hc; exact o13.block _ (by omega), ?_⟩
  intro w14 e14
  have c1 : Chg (fun k => s.blk k ∨ t.blk k) w w7 := (Chg.of_ext (e1.trans e6)).trans c7 (fun i _ h => .inl h)
  have c2 : Chg (fun k => s.blk k ∨ t.blk k) w w13 := (c1.trans (Chg.of_ext (F := fun _ => False) (e8.trans e12)) (fun i _ h => h.elim)).trans c13 (fun i _ h => .inr h)
  refine hk w14 (c2.trans (Chg.of_ext (F := fun _ => False) e14) (fun i _ h => h.elim)) ?_
  have hw : IntKind.i64.wrap (i + 1) = i + 1 := w64 (by omega) (by omega)
  rw [hw] at O13
  exact ⟨e14.blkE (c13.blk h12.hd h12.n2), (h12.l.chg c13 h12.n3).ext e14, O13.ext e14, h.n1, h.n2, h.n3⟩
end
end Go.Sh

/- Heaps as lists: the plain law, no program in sight. -/
namespace Go.Sh

theorem eLt_trans {a b c : Int × Int} (h1 : eLt b a = false) (h2 : eLt c b = false) : eLt c a = false := by
  unfold eLt at *; simp at *; omega
theorem eLt_asymm {a b : Int × Int} (h1 : eLt a b = true) : eLt b a = false := by
  unfold eLt at *; simp at *; omega
theorem eLt_irrefl (a : Int × Int) : eLt a a = false := by
  unfold eLt; simp

def g (es : List (Int × Int)) (i : Nat) : Int × Int := es.getD i (0, 0)
theorem g_get {es : List (Int × Int)} {i : Nat} (h : i < es.length) : es[i]? = some (g es i) := by
  simp [g, List.getD_eq_getElem?_getD, List.getElem?_eq_getElem h]
theorem g_eq {es : List (Int × Int)} {i : Nat} (h : i < es.length) : es[i] = g es i := by
  simp [g, List.getD_eq_getElem?_getD, List.getElem?_eq_getElem h]
theorem g_of {es : List (Int × Int)} {i : Nat} {e : Int × Int} (h : es[i]? = some e) : g es i = e := by
  simp [g, List.getD_eq_getElem?_getD, h]
theorem g_set {es : List (Int × Int)} {i j : Nat} {x : Int × Int} (h : i < es.length) : g (es.set i x) j = if i = j then x else g es j := by
  simp only [g, List.getD_eq_getElem?_getD, List.getElem?_set]
  split
  · rfl
  · rfl

def Ord (es : List (Int × Int)) : Prop := ∀ j, 0 < j → j < es.length → eLt (g es j) (g es ((j - 1) / 2)) = false
/-- All is in order but, it may be, i and the one above it. -/
structure UpOk (es : List (Int × Int)) (i : Nat) : Prop where
  a : ∀ j, 0 < j → j < es.length → j ≠ i → eLt (g es j) (g es ((j - 1) / 2)) = false
  b : 0 < i → ∀ j, 0 < j → j < es.length → (j - 1) / 2 = i → eLt (g es j) (g es ((i - 1) / 2)) = false
/-- All is in order but, it may be, i and those about it. -/
structure DownOk (es : List (Int × Int)) (i : Nat) : Prop where
  a : ∀ j, 0 < j → j < es.length → j ≠ i → (j - 1) / 2 ≠ i → eLt (g es j) (g es ((j - 1) / 2)) = false
  b : 0 < i → ∀ j, 0 < j → j < es.length → (j - 1) / 2 = i → eLt (g es j) (g es ((i - 1) / 2)) = false

def sw (es : List (Int × Int)) (i k : Nat) : List (Int × Int) := (es.set i (g es k)).set k (g es i)
theorem sw_len (es : List (Int × Int)) (i k : Nat) : (sw es i k).length = es.length := by simp [sw]
theorem sw_g {es : List (Int × Int)} {i k j : Nat} (hi : i < es.length) (hk : k < es.length) : g (sw es i k) j = if k = j then g es i else if i = j then g es k else g es j := by
  rw [sw, g_set (by simpa using hk), g_set hi]

theorem up_stop {es : List (Int × Int)} {i : Nat} (h : UpOk es i) (hs : 0 < i → eLt (g es i) (g es ((i - 1) / 2)) = false) : Ord es := by
  intro j h0 hj
  by_cases e : j = i
  · subst e; exact hs h0
  · exact h.a j h0 hj e

theorem up_step {es : List (Int × Int)} {i : Nat} (h : UpOk es i) (h0 : 0 < i) (hi : i < es.length) (hlt : eLt (g es i) (g es ((i - 1) / 2)) = true) : UpOk (sw es i ((i - 1) / 2)) ((i - 1) / 2) := by
  have hp : (i - 1) / 2 < es.length := by omega
  constructor
  · intro j j0 hj hne
    rw [sw_len] at hj
    rw [sw_g hi hp, sw_g hi hp, if_neg (Ne.symm hne)]
    by_cases e : i = j
    · subst e
      rw [if_pos rfl, if_pos rfl]
      exact eLt_asymm hlt
    · rw [if_neg e]
      by_cases e2 : (i - 1) / 2 = (j - 1) / 2
      · rw [if_pos e2]
        have := h.a j j0 hj (Ne.symm e)
        rw [← e2] at this
        exact eLt_trans (eLt_asymm hlt) this
      · rw [if_neg e2]
        by_cases e3 : i = (j - 1) / 2
        · rw [if_pos e3]
          exact h.b h0 j j0 hj e3.symm
        · rw [if_neg e3]
          exact h.a j j0 hj (Ne.symm e)
  · intro p0 j j0 hj hjp
    rw [sw_len] at hj
    have hq : g (sw es i ((i - 1) / 2)) (((i - 1) / 2 - 1) / 2) = g es (((i - 1) / 2 - 1) / 2) := by
      rw [sw_g hi hp, if_neg (by omega), if_neg (by omega)]
    have hpq := h.a ((i - 1) / 2) p0 hp (by omega)
    rw [hq, sw_g hi hp, if_neg (by omega)]
    by_cases e : i = j
    · rw [if_pos e]; exact hpq
    · rw [if_neg e]
      have := h.a j j0 hj (Ne.symm e)
      rw [hjp] at this
      exact eLt_trans hpq this

/-- The lesser child. -/
def kid (es : List (Int × Int)) (i : Nat) : Nat := if 2 * i + 2 < es.length ∧ eLt (g es (2 * i + 2)) (g es (2 * i + 1)) = true then 2 * i + 2 else 2 * i + 1

theorem kid_le (es : List (Int × Int)) (i : Nat) {j : Nat} (h0 : 0 < j) (hj : j < es.length) (hp : (j - 1) / 2 = i) : eLt (g es j) (g es (kid es i)) = false := by
  have : j = 2 * i + 1 ∨ j = 2 * i + 2 := by omega
  unfold kid
  split
  · rename_i h
    rcases this with rfl | rfl
    · exact eLt_asymm h.2
    · exact eLt_irrefl _
  · rename_i h
    rcases this with rfl | rfl
    · exact eLt_irrefl _
    · cases hb : eLt (g es (2 * i + 2)) (g es (2 * i + 1)) with
      | false => rfl
      | true => exact absurd ⟨hj, hb⟩ h

theorem kid_or (es : List (Int × Int)) (i : Nat) : kid es i = 2 * i + 1 ∨ kid es i = 2 * i + 2 := by
  unfold kid; split <;> simp

theorem down_stop {es : List (Int × Int)} {i : Nat} (h : DownOk es i) (hs : kid es i < es.length → eLt (g es i) (g es (kid es i)) = true) : UpOk es i := by
  refine ⟨fun j j0 hj hne => ?_, h.b⟩
  by_cases e : (j - 1) / 2 = i
  · have hk : kid es i < es.length := by
      unfold kid
      split
      · rename_i h; exact h.1
      · omega
    have := kid_le es i j0 hj e
    rw [e]
    exact eLt_trans (eLt_asymm (hs hk)) this
  · exact h.a j j0 hj hne e

theorem down_step {es : List (Int × Int)} {i : Nat} (h : DownOk es i) (hi : i < es.length) (hk : kid es i < es.length) (_hlt : eLt (g es i) (g es (kid es i)) = false) : DownOk (sw es i (kid es i)) (kid es i) := by
  have hor := kid_or es i
  have hki : (kid es i - 1) / 2 = i := by omega
  constructor
  · intro j j0 hj hne hne2
    rw [sw_len] at hj
    rw [sw_g hi hk, sw_g hi hk, if_neg (Ne.symm hne), if_neg (Ne.symm hne2)]
    by_cases e : i = j
    · subst e
      rw [if_pos rfl, if_neg (by omega)]
      exact h.b j0 (kid es i) (by omega) hk hki
    · rw [if_neg e]
      by_cases e2 : i = (j - 1) / 2
      · rw [if_pos e2]; exact kid_le es i j0 hj e2.symm
      · rw [if_neg e2]; exact h.a j j0 hj (Ne.symm e) (Ne.symm e2)
  · intro k0 j j0 hj hjk
    rw [sw_len] at hj
    rw [hki, sw_g hi hk, sw_g hi hk, if_neg (by omega), if_neg (by omega), if_neg (by omega), if_pos rfl]
    have := h.a j j0 hj (by omega) (by omega)
    rw [hjk] at this
    exact this

theorem ord_down {es : List (Int × Int)} (h : Ord es) {i : Nat} (x : Int × Int) (hi : i < es.length) : DownOk (es.set i x) i := by
  constructor
  · intro j j0 hj h1 h2
    rw [g_set hi, g_set hi, if_neg (Ne.symm h1), if_neg (Ne.symm h2)]
    exact h j j0 (by simpa using hj)
  · intro i0 j j0 hj hp
    rw [List.length_set] at hj
    rw [g_set hi, g_set hi, if_neg (by omega), if_neg (by omega)]
    have h1 := h j j0 hj
    rw [hp] at h1
    exact eLt_trans (h i i0 hi) h1

theorem ord_take {es : List (Int × Int)} {x : Int × Int} (h : Ord (es ++ [x])) : Ord es := by
  intro j j0 hj
  have := h j j0 (by simp; omega)
  have g1 : ∀ k, k < es.length → g (es ++ [x]) k = g es k := fun k hk => by simp [g, List.getD_eq_getElem?_getD, List.getElem?_append_left hk]
  rw [g1 _ hj, g1 _ (by omega)] at this
  exact this

theorem ord_push {es : List (Int × Int)} (h : Ord es) (x : Int × Int) : DownOk (es ++ [x]) es.length := by
  have g1 : ∀ k, k < es.length → g (es ++ [x]) k = g es k := fun k hk => by simp [g, List.getD_eq_getElem?_getD, List.getElem?_append_left hk]
  constructor
  · intro j j0 hj h1 h2
    simp at hj
    rw [g1 _ (by omega), g1 _ (by omega)]
    exact h j j0 (by omega)
  · intro i0 j j0 hj hp
    simp at hj; omega

/-- The first is the least. -/
theorem ord_first {es : List (Int × Int)} (h : Ord es) : ∀ j, j < es.length → eLt (g es j) (g es 0) = false := by
  intro j
  induction j using Nat.strongRecOn with
  | ind j ih =>
    intro hj
    by_cases j0 : j = 0
    · subst j0; exact eLt_irrefl _
    · exact eLt_trans (ih ((j - 1) / 2) (by omega) (by omega)) (h j (by omega) hj)

/-- Entries and places belong together. -/
structure Bij (es : List (Int × Int)) (pl : List Int) : Prop where
  a : ∀ (i : Nat) (e : Int × Int), es[i]? = some e → 0 ≤ e.1 ∧ pl[e.1.toNat]? = some ((i : Int) + 1)
  b : ∀ (d : Nat) (v : Int), pl[d]? = some v → v = 0 ∨ (1 ≤ v ∧ ∃ e, es[(v - 1).toNat]? = some e ∧ e.1 = d)

theorem Bij.inj {es : List (Int × Int)} {pl : List Int} (h : Bij es pl) {i j : Nat} {e f : Int × Int} (hi : es[i]? = some e) (hj : es[j]? = some f) (he : e.1 = f.1) : i = j := by
  have h1 := (h.a i e hi).2
  have h2 := (h.a j f hj).2
  rw [he, h2] at h1
  injection h1 with h1; omega

theorem Bij.nodup {es : List (Int × Int)} {pl : List Int} (h : Bij es pl) : (es.map (·.1)).Nodup := by
  rw [List.nodup_iff_pairwise_ne, List.pairwise_iff_getElem]
  intro i j hi hj hij
  simp only [List.length_map] at hi hj
  simp only [List.getElem_map]
  intro he
  have := h.inj (List.getElem?_eq_getElem hi) (List.getElem?_eq_getElem hj) he
  omega

theorem set_get {α : Type} {l : List α} {i : Nat} {x : α} (j : Nat) (h : i < l.length) : (l.set i x)[j]? = if i = j then some x else l[j]? := by
  rw [List.getElem?_set]; simp [h]

theorem Bij.sw {es : List (Int × Int)} {pl : List Int} (h : Bij es pl) {i k : Nat} (hi : i < es.length) (hk : k < es.length) (hik : i ≠ k) :
    Bij (sw es i k) ((pl.set (g es k).1.toNat ((i : Int) + 1)).set (g es i).1.toNat ((k : Int) + 1)) := by
  obtain ⟨hi0, hip⟩ := h.a i _ (g_get hi)
  obtain ⟨hk0, hkp⟩ := h.a k _ (g_get hk)
  have hil := (List.getElem?_eq_some_iff.1 hip).1
  have hkl := (List.getElem?_eq_some_iff.1 hkp).1
  have hne : (g es k).1.toNat ≠ (g es i).1.toNat := by
    intro e; rw [e, hip] at hkp; injection hkp with hkp; omega
  have gs : ∀ j, j < es.length → (Go.Sh.sw es i k)[j]? = some (if k = j then g es i else if i = j then g es k else g es j) := by
    intro j hj
    rw [g_get (by rw [sw_len]; exact hj), sw_g hi hk]
  have ps : ∀ d, ((pl.set (g es k).1.toNat ((i : Int) + 1)).set (g es i).1.toNat ((k : Int) + 1))[d]? = if (g es i).1.toNat = d then some ((k : Int) + 1) else if (g es k).1.toNat = d then some ((i : Int) + 1) else pl[d]? := by
    intro d; rw [set_get d (by simpa using hil), set_get d hkl]
  constructor
  · intro j e he
    have hj : j < es.length := by have := (List.getElem?_eq_some_iff.1 he).1; rwa [sw_len] at this
    rw [gs j hj] at he
    injection he with he
    by_cases e1 : k = j
    · rw [if_pos e1] at he; subst he; exact ⟨hi0, by rw [ps, if_pos rfl, e1]⟩
    · rw [if_neg e1] at he
      by_cases e2 : i = j
      · rw [if_pos e2] at he; subst he; exact ⟨hk0, by rw [ps, if_neg (Ne.symm hne), if_pos rfl, e2]⟩
      · rw [if_neg e2] at he; subst he
        obtain ⟨h0, hp⟩ := h.a j _ (g_get hj)
        refine ⟨h0, ?_⟩
        rw [ps, if_neg, if_neg]
        · exact hp
        · intro e; rw [e, hp] at hkp; injection hkp with hkp; omega
        · intro e; rw [e, hp] at hip; injection hip with hip; omega
  · intro d v hv
    rw [ps] at hv
    by_cases e1 : (g es i).1.toNat = d
    · rw [if_pos e1] at hv; injection hv with hv; subst hv
      refine .inr ⟨by omega, g es i, ?_, by omega⟩
      rw [show ((k : Int) + 1 - 1).toNat = k by omega, gs k hk, if_pos rfl]
    · rw [if_neg e1] at hv
      by_cases e2 : (g es k).1.toNat = d
      · rw [if_pos e2] at hv; injection hv with hv; subst hv
        refine .inr ⟨by omega, g es k, ?_, by omega⟩
        rw [show ((i : Int) + 1 - 1).toNat = i by omega, gs i hi, if_neg (Ne.symm hik), if_pos rfl]
      · rw [if_neg e2] at hv
        rcases h.b d v hv with h0 | ⟨h1, e, he, hd⟩
        · exact .inl h0
        · refine .inr ⟨h1, e, ?_, hd⟩
          have hj := (List.getElem?_eq_some_iff.1 he).1
          rw [gs _ hj, if_neg, if_neg]
          · rw [← he, g_get hj]
          · intro e'; rw [← e', g_get hi] at he; injection he with he; rw [he, hd] at e1; exact e1 (by simp)
          · intro e'; rw [← e', g_get hk] at he; injection he with he; rw [he, hd] at e2; exact e2 (by simp)

theorem sw_mem {es : List (Int × Int)} {i k : Nat} (hi : i < es.length) (hk : k < es.length) (x : Int × Int) : x ∈ Go.Sh.sw es i k ↔ x ∈ es := by
  have gs : ∀ j, j < es.length → (Go.Sh.sw es i k)[j]? = some (if k = j then g es i else if i = j then g es k else g es j) := by
    intro j hj
    rw [g_get (by rw [sw_len]; exact hj), sw_g hi hk]
  rw [List.mem_iff_getElem?, List.mem_iff_getElem?]
  constructor
  · rintro ⟨j, hj⟩
    have hl : j < es.length := by have := (List.getElem?_eq_some_iff.1 hj).1; rwa [sw_len] at this
    rw [gs j hl] at hj
    split at hj
    · exact ⟨i, by rw [g_get hi]; exact hj⟩
    · split at hj
      · exact ⟨k, by rw [g_get hk]; exact hj⟩
      · exact ⟨j, by rw [g_get hl]; exact hj⟩
  · rintro ⟨j, hj⟩
    have hl := (List.getElem?_eq_some_iff.1 hj).1
    rw [g_get hl] at hj
    by_cases e1 : j = i
    · subst e1; exact ⟨k, by rw [gs k hk, if_pos rfl]; exact hj⟩
    · by_cases e2 : j = k
      · subst e2
        exact ⟨i, by rw [gs i hi, if_neg e1, if_pos rfl]; exact hj⟩
      · exact ⟨j, by rw [gs j hl, if_neg (Ne.symm e2), if_neg (Ne.symm e1)]; exact hj⟩
end Go.Sh

/- What the heap's rise, sink, put and drop do. -/
set_option maxRecDepth 100000
namespace Go.Sh
open Go.RowKit

theorem set3 {α : Type} (l : List α) (a b : Nat) (u v x : α) : ((l.set a u).set b v).set a x = (l.set b v).set a x := by
  apply List.ext_getElem?
  intro i
  simp only [List.getElem?_set, List.length_set]
  by_cases h1 : a = i
  · simp [h1]
  · simp [h1]

/-- The heap with one entry in the hand: that is where x is. -/
structure Virt (e : Int × Int) (es : List (Int × Int)) (n : Nat) (esC : List (Int × Int)) (plC : List Int) (x : Nat) : Prop where
  len : esC.length = es.length
  plen : plC.length = n
  lt : x < esC.length
  bij : Bij (esC.set x e) (plC.set e.1.toNat ((x : Int) + 1))
  mem : ∀ y, y ∈ esC.set x e ↔ y ∈ es

theorem Virt.init {es : List (Int × Int)} {pl : List Int} (h : Bij es pl) {x : Nat} (hx : x < es.length) : Virt (g es x) es pl.length es pl x := by
  have h1 : es.set x (g es x) = es := by
    apply List.ext_getElem?
    intro i
    rw [List.getElem?_set]
    split
    · rename_i e; subst e; rw [g_get hx]
    · rfl
  have h2 : pl.set (g es x).1.toNat ((x : Int) + 1) = pl := by
    have := (h.a x _ (g_get hx)).2
    apply List.ext_getElem?
    intro i
    rw [List.getElem?_set]
    split
    · rename_i e; subst e; rw [if_pos (List.getElem?_eq_some_iff.1 this).1, this]
    · rfl
  exact ⟨rfl, rfl, hx, by rw [h1, h2]; exact h, fun y => by rw [h1]⟩

theorem Virt.id0 {e : Int × Int} {es esC : List (Int × Int)} {n : Nat} {plC : List Int} {x : Nat} (h : Virt e es n esC plC x) : 0 ≤ e.1 ∧ e.1.toNat < plC.length := by
  have := h.bij.a x e (by rw [set_get x h.lt, if_pos rfl])
  exact ⟨this.1, by have := (List.getElem?_eq_some_iff.1 this.2).1; simpa using this⟩

theorem Virt.idk {e : Int × Int} {es esC : List (Int × Int)} {n : Nat} {plC : List Int} {x k : Nat} (h : Virt e es n esC plC x) (hk : k < esC.length) (hne : x ≠ k) : 0 ≤ (g esC k).1 ∧ (g esC k).1.toNat < plC.length := by
  have := h.bij.a k (g esC k) (by rw [set_get k h.lt, if_neg hne, g_get hk])
  exact ⟨this.1, by have := (List.getElem?_eq_some_iff.1 this.2).1; simpa using this⟩

theorem Virt.sw {e : Int × Int} {esC : List (Int × Int)} {x k : Nat} (hx : x < esC.length) (hne : x ≠ k) : Go.Sh.sw (esC.set x e) x k = (esC.set x (g esC k)).set k e := by
  unfold Go.Sh.sw
  rw [g_set hx, g_set hx, if_neg hne, if_pos rfl, List.set_set]

theorem Virt.step {e : Int × Int} {es esC : List (Int × Int)} {n : Nat} {plC : List Int} {x k : Nat} (h : Virt e es n esC plC x) (hk : k < esC.length) (hne : x ≠ k) :
    Virt e es n (esC.set x (g esC k)) (plC.set (g esC k).1.toNat ((x : Int) + 1)) k := by
  have hv : (esC.set x e).length = esC.length := by simp
  have hb := h.bij.sw (i := x) (k := k) (by rw [hv]; exact h.lt) (by rw [hv]; exact hk) hne
  rw [g_set h.lt, g_set h.lt, if_neg hne, if_pos rfl, set3, Virt.sw h.lt hne] at hb
  refine ⟨by simp [h.len], by simp [h.plen], by simpa using hk, hb, fun y => ?_⟩
  rw [← Virt.sw (e := e) h.lt hne, sw_mem (by rw [hv]; exact h.lt) (by rw [hv]; exact hk)]
  exact h.mem y

section
variable {w : World} {hb : Nat} {s t : SV} {es : List (Int × Int)} {pl : List Int}

/-- An entry is read. -/
theorem HeapM.ent (h : HeapM w hb s t es pl) {i : Int} (h0 : 0 ≤ i) (hl : i.toNat < es.length) {K : Addr → Prop}
    (hk : ∀ a, w.cell? (a.add 0) = some (.int .i64 (g es i.toNat).1) → w.cell? (a.add 1) = some (.int .i64 (g es i.toNat).2) → K a) : Idx s.a s.len i 2 K := by
  refine View.idx (R := RE) h.l.view h0 hl fun a _ hc => ?_
  rw [g_eq hl] at hc
  exact hk a (hc 0 _ rfl) (hc 1 _ rfl)
theorem HeapM.plc (h : HeapM w hb s t es pl) {i : Int} (h0 : 0 ≤ i) (hl : i.toNat < pl.length) {K : Addr → Prop}
    (hk : ∀ a, w.cell? a = some (.int .i64 pl[i.toNat]) → K a) : Idx t.a t.len i 1 K := by
  refine View.idx (R := RI) h.p.view h0 hl fun a ha hc => hk a ?_
  have := hc 0 _ rfl
  rwa [show a.add 0 = a by rw [add_add _ ha]; obtain ⟨b, o, sp⟩ := a; simp at ha; simp [ha]] at this

/-- The blocks of a heap's entries and places. -/
def hF (s t : SV) (k : Nat) : Prop := s.blk k ∨ t.blk k

theorem HeapM.lt (h : HeapM w hb s t es pl) {k : Nat} (hk : hF s t k) : k < w.heap.size := hk.elim h.l.lt h.p.lt

theorem rise_ok {i : Int} {K : World → Prop} (h : HeapM w hb s t es pl) (h0 : 0 ≤ i) (hi : i.toNat < es.length) (hes : es.length < 2 ^ 61) (bj : Bij es pl) (up : UpOk es i.toNat)
    (hk : ∀ w' es' pl', Chg (hF s t) w w' → HeapM w' hb s t es' pl' → Bij es' pl' → Ord es' → es'.length = es.length → pl'.length = pl.length → (∀ x, x ∈ es' ↔ x ∈ es) → K w') :
    sh_heap_queue_rise (some ⟨hb, 0, none⟩) i K w := by
  unfold sh_heap_queue_rise
  refine ⟨_, rfl, s, by rw [addm]; exact h.s0, h.ent h0 hi fun a ha0 ha1 => ⟨_, ha0, _, ha1, ?_⟩⟩
  generalize hge : g es i.toNat = e at *
  intro b6 w7 e7 hb6 hb7 w8 o8
  have hbF : ∀ k, hF s t k → k ≠ b6 := fun k hk e => by have := h.lt hk; omega
  have hhb : hb ≠ b6 := fun e => by have := blk_lt h.hd; omega
  have c8 : Chg (hF s t) w w8 := (Chg.of_ext e7).trans (Chg.of_off (F := fun k => k = b6) o8 rfl) (fun k hk e => by omega)
  have h8 : HeapM w8 hb s t es pl := (h.ext e7).chg (Chg.of_off (F := fun k => k = b6) o8 rfl) hhb (fun k hk => hbF k (.inl hk)) (fun k hk => hbF k (.inr hk))
  have hv0 := Virt.init bj hi
  rw [hge] at hv0
  -- where the loop is left
  refine Join.cut (fun (x : Int × Unit) w1 => b6 < w1.heap.size ∧ 0 ≤ x.1 ∧ ∃ esC plC, HeapM w1 hb s t esC plC ∧ Chg (hF s t) w w1 ∧ Virt e es pl.length esC plC x.1.toNat ∧ Ord (esC.set x.1.toNat e)) (fun J hJ => ?_) ?_
  · refine ⟨fun (x : Int × Unit) w1 => b6 < w1.heap.size ∧ 0 ≤ x.1 ∧ ∃ esC plC, HeapM w1 hb s t esC plC ∧ Chg (hF s t) w w1 ∧ Virt e es pl.length esC plC x.1.toNat ∧ UpOk (esC.set x.1.toNat e) x.1.toNat, fun x _ => x.1.toNat,
      ⟨by rw [o8.size]; exact hb7, h0, es, pl, h8, c8, hv0, ?_⟩, ?_⟩
    · have : es.set i.toNat e = es := by
        apply List.ext_getElem?
        intro j
        rw [set_get j hi]
        split
        · rename_i e1; rw [← e1, g_get hi, hge]
        · rfl
      rw [this]; exact up
    · rintro ⟨x, _⟩ w1 ⟨hb1, hx0, esC, plC, hm, hc, hv, hu⟩
      simp only at hx0 hv hu ⊢
      have hlt := hv.lt
      have hlen := hv.len
      rw [Bool.cond_decide]
      by_cases hxp : x > 0
      · rw [if_pos hxp]
        have hw1 : IntKind.i64.wrap (x - 1) = x - 1 := w64 (by omega) (by omega)
        have hp : (x - 1).tdiv 2 = (((x.toNat - 1) / 2 : Nat) : Int) := by
          obtain ⟨m, hm⟩ : ∃ m : Nat, x = m := ⟨x.toNat, by omega⟩
          subst hm
          rw [Int.tdiv_eq_ediv_of_nonneg (by omega)]
          omega
        have hw2 : IntKind.i64.wrap (IntKind.i64.wrap (x - 1) |>.tdiv 2) = (((x.toNat - 1) / 2 : Nat) : Int) := by
          rw [hw1, hp]; exact w64 (by omega) (by omega)
        rw [hw2]
        have hpl : (x.toNat - 1) / 2 < esC.length := by omega
        have hne : x.toNat ≠ (x.toNat - 1) / 2 := by omega
        refine ⟨_, rfl, s, by rw [addm]; exact hm.s0, hm.ent (by omega) (by omega) fun a ha0 ha1 => ⟨_, ha0, _, ha1, ?_⟩⟩
        simp only [Int.toNat_natCast]
        refine .mk (eLt e (g esC ((x.toNat - 1) / 2))) (fun w' ew K' hK => before_ok hK) ?_
        intro w22 e22
        have hm2 := hm.ext e22
        have gx : g (esC.set x.toNat e) x.toNat = e := by rw [g_set hlt, if_pos rfl]
        have gp : g (esC.set x.toNat e) ((x.toNat - 1) / 2) = g esC ((x.toNat - 1) / 2) := by rw [g_set hlt, if_neg hne]
        cases hb : eLt e (g esC ((x.toNat - 1) / 2)) with
        | true =>
          simp only [cond_true]
          refine ⟨_, rfl, s, by rw [addm]; exact hm2.s0, hm2.ent (by omega) (by omega) fun a ha0 ha1 => ⟨_, ha0, _, ha1, ?_⟩⟩
          simp only [Int.toNat_natCast]
          obtain ⟨k0, k1⟩ := hv.idk hpl hne
          refine hplay_ok hm2 hx0 hlt (by omega) k0 k1 fun w28 c28 hm28 => ?_
          have hb22 : b6 < w22.heap.size := Nat.lt_of_lt_of_le hb1 e22.size
          refine ⟨c28.keep hb22 (fun hF => hbF b6 hF rfl), ⟨Nat.lt_of_lt_of_le hb22 c28.size, by omega, _, _, hm28, ?_, ?_, ?_⟩, ?_⟩
          · exact (hc.trans (Chg.of_ext (F := fun _ => False) e22) (fun _ _ h => h.elim)).trans c28 (fun _ _ h => h)
          · have := hv.step hpl hne
            rw [show ((x.toNat : Int)) = x by omega] at this
            simpa using this
          · have := up_step hu (by omega) (by simpa using hlt) (by rw [gx, gp]; exact hb)
            rw [Virt.sw hlt hne] at this
            simpa using this
          · omega
        | false =>
          simp only [cond_false]
          refine hJ _ _ ⟨Nat.lt_of_lt_of_le hb1 e22.size, hx0, esC, plC, hm2, hc.trans (Chg.of_ext (F := fun _ => False) e22) (fun _ _ h => h.elim), hv, up_stop hu fun _ => ?_⟩
          rw [gx, gp]; exact hb
      · rw [if_neg hxp]
        intro w29 e29
        exact hJ _ _ ⟨Nat.lt_of_lt_of_le hb1 e29.size, hx0, esC, plC, hm.ext e29, hc.trans (Chg.of_ext (F := fun _ => False) e29) (fun _ _ h => h.elim), hv, up_stop hu fun h => by omega⟩
  · rintro ⟨x, _⟩ w31 ⟨hb1, hx0, esC, plC, hm, hc, hv, ho⟩
    simp only at hx0 hv ho ⊢
    obtain ⟨k0, k1⟩ := hv.id0
    have hlt := hv.lt
    have hlen := hv.len
    refine hplay_ok (key := e.2) hm hx0 hlt (by omega) k0 k1 fun w32 c32 hm32 => ?_
    refine ⟨c32.keep hb1 (fun hF => hbF b6 hF rfl), hk w32 _ _ (hc.trans c32 fun _ _ h => h) hm32 ?_ ho (by simp [hlen]) (by simp [hv.plen]) (fun y => hv.mem y)⟩
    have := hv.bij
    rwa [show ((x.toNat : Int)) = x by omega] at this

theorem wrapk {x : Int} {n : Nat} (h0 : 0 ≤ x) (h1 : x.toNat < n) (hn : n < 2 ^ 61) :
    IntKind.i64.wrap (IntKind.i64.wrap (2 * x) + 1) = ((2 * x.toNat + 1 : Nat) : Int) ∧ IntKind.i64.wrap (IntKind.i64.wrap (IntKind.i64.wrap (2 * x) + 1) + 1) = ((2 * x.toNat + 2 : Nat) : Int) := by
  have e1 : IntKind.i64.wrap (2 * x) = 2 * x := w64 (by omega) (by omega)
  have e2 : IntKind.i64.wrap (IntKind.i64.wrap (2 * x) + 1) = ((2 * x.toNat + 1 : Nat) : Int) := by rw [e1, w64 (by omega) (by omega)]; omega
  refine ⟨e2, ?_⟩
  rw [e2, w64 (by omega) (by omega)]; omega

theorem sink_ok {i : Int} {K : World → Prop} (h : HeapM w hb s t es pl) (h0 : 0 ≤ i) (hi : i.toNat < es.length) (hes : es.length < 2 ^ 61) (bj : Bij es pl) (dn : DownOk es i.toNat)
    (hk : ∀ w' es' pl' j, Chg (hF s t) w w' → HeapM w' hb s t es' pl' → Bij es' pl' → UpOk es' j → es'[j]? = some (g es i.toNat) → es'.length = es.length → pl'.length = pl.length → (∀ x, x ∈ es' ↔ x ∈ es) → K w') :
    sh_heap_queue_sink (some ⟨hb, 0, none⟩) i K w := by
  unfold sh_heap_queue_sink
  refine ⟨_, rfl, s, by rw [addm]; exact h.s0, h.ent h0 hi fun a ha0 ha1 => ⟨_, ha0, _, ha1, ?_⟩⟩
  generalize hge : g es i.toNat = e at *
  intro b6 w7 e7 hb6 hb7 w8 o8
  have hbF : ∀ k, hF s t k → k ≠ b6 := fun k hk e => by have := h.lt hk; omega
  have hhb : hb ≠ b6 := fun e => by have := blk_lt h.hd; omega
  have c8 : Chg (hF s t) w w8 := (Chg.of_ext e7).trans (Chg.of_off (F := fun k => k = b6) o8 rfl) (fun k hk e => by omega)
  have h8 : HeapM w8 hb s t es pl := (h.ext e7).chg (Chg.of_off (F := fun k => k = b6) o8 rfl) hhb (fun k hk => hbF k (.inl hk)) (fun k hk => hbF k (.inr hk))
  have hv0 := Virt.init bj hi
  rw [hge] at hv0
  refine Join.cut (fun (x : Int × Unit) w1 => b6 < w1.heap.size ∧ 0 ≤ x.1 ∧ ∃ esC plC, HeapM w1 hb s t esC plC ∧ Chg (hF s t) w w1 ∧ Virt e es pl.length esC plC x.1.toNat ∧ UpOk (esC.set x.1.toNat e) x.1.toNat) (fun J hJ => ?_) ?_
  · refine ⟨fun (x : Int × Unit) w1 => b6 < w1.heap.size ∧ 0 ≤ x.1 ∧ ∃ esC plC, HeapM w1 hb s t esC plC ∧ Chg (hF s t) w w1 ∧ Virt e es pl.length esC plC x.1.toNat ∧ DownOk (esC.set x.1.toNat e) x.1.toNat, fun x _ => es.length - x.1.toNat,
      ⟨by rw [o8.size]; exact hb7, h0, es, pl, h8, c8, hv0, ?_⟩, ?_⟩
    · have : es.set i.toNat e = es := by
        apply List.ext_getElem?
        intro j
        rw [set_get j hi]
        split
        · rename_i e1; rw [← e1, g_get hi, hge]
        · rfl
      rw [this]; exact dn
    · rintro ⟨x, _⟩ w1 ⟨hb1, hx0, esC, plC, hm, hc, hv, hu⟩
      simp only at hx0 hv hu ⊢
      have hlt := hv.lt
      have hlen := hv.len
      have hsl : s.len = esC.length := hm.l.view.len
      obtain ⟨wk1, wk2⟩ := wrapk hx0 hlt (by omega)
      rw [wk2, wk1]
      have gk : ∀ k, x.toNat ≠ k → g (esC.set x.toNat e) k = g esC k := fun k hk => by rw [g_set hlt, if_neg hk]
      have kidq : kid (esC.set x.toNat e) x.toNat = if 2 * x.toNat + 2 < esC.length ∧ eLt (g esC (2 * x.toNat + 2)) (g esC (2 * x.toNat + 1)) = true then 2 * x.toNat + 2 else 2 * x.toNat + 1 := by
        unfold kid
        rw [gk _ (by omega), gk _ (by omega), List.length_set]
      -- which child
      refine Join.cut (fun (k : Int × Unit) w2 => Ext w1 w2 ∧ k.1 = ((kid (esC.set x.toNat e) x.toNat : Nat) : Int)) (fun J2 hJ2 => ?_) ?_
      · refine ⟨_, rfl, s, by rw [addm]; exact hm.s0, ?_⟩
        rw [Bool.cond_decide]
        by_cases hk2 : ((2 * x.toNat + 2 : Nat) : Int) < (s.len : Int)
        · rw [if_pos hk2]
          refine ⟨_, rfl, s, by rw [addm]; exact hm.s0, hm.ent (by omega) (by omega) fun a ha0 ha1 => ⟨_, ha0, _, ha1, ?_⟩⟩
          refine ⟨_, rfl, s, by rw [addm]; exact hm.s0, hm.ent (by omega) (by omega) fun b hb0 hb1 => ⟨_, hb0, _, hb1, ?_⟩⟩
          simp only [Int.toNat_natCast]
          refine .mk (eLt (g esC (2 * x.toNat + 2)) (g esC (2 * x.toNat + 1))) (fun w' ew K' hK => before_ok hK) ?_
          intro w30 e30
          cases hbt : eLt (g esC (2 * x.toNat + 2)) (g esC (2 * x.toNat + 1)) with
          | true =>
            simp only [cond_true]
            refine hJ2 _ _ ⟨e30, ?_⟩
            rw [kidq, if_pos ⟨by omega, hbt⟩]
          | false =>
            simp only [cond_false]
            refine hJ2 _ _ ⟨e30, ?_⟩
            rw [kidq, if_neg (by rw [hbt]; simp)]
        · rw [if_neg hk2]
          intro w31 e31
          refine hJ2 _ _ ⟨e31, ?_⟩
          rw [kidq, if_neg (by omega)]
      · rintro ⟨k, _⟩ w2 ⟨e2, hkk⟩
        simp only at hkk ⊢
        subst hkk
        have hm2 := hm.ext e2
        have hb2 : b6 < w2.heap.size := Nat.lt_of_lt_of_le hb1 e2.size
        have hc2 : Chg (hF s t) w w2 := hc.trans (Chg.of_ext (F := fun _ => False) e2) (fun _ _ h => h.elim)
        have hor := kid_or (esC.set x.toNat e) x.toNat
        refine ⟨_, rfl, s, by rw [addm]; exact hm2.s0, ?_⟩
        rw [Bool.cond_decide]
        by_cases hkl : ((kid (esC.set x.toNat e) x.toNat : Nat) : Int) ≥ (s.len : Int)
        · rw [if_pos hkl]
          intro w36 e36
          exact hJ _ _ ⟨Nat.lt_of_lt_of_le hb2 e36.size, hx0, esC, plC, hm2.ext e36, hc2.trans (Chg.of_ext (F := fun _ => False) e36) (fun _ _ h => h.elim), hv, down_stop hu fun h => by simp at h; omega⟩
        · rw [if_neg hkl]
          have hkl2 : kid (esC.set x.toNat e) x.toNat < esC.length := by omega
          have hne : x.toNat ≠ kid (esC.set x.toNat e) x.toNat := by omega
          refine ⟨_, rfl, s, by rw [addm]; exact hm2.s0, hm2.ent (by omega) (by omega) fun a ha0 ha1 => ⟨_, ha0, _, ha1, ?_⟩⟩
          simp only [Int.toNat_natCast]
          refine .mk (eLt e (g esC (kid (esC.set x.toNat e) x.toNat))) (fun w' ew K' hK => before_ok hK) ?_
          intro w46 e46
          have hm4 := hm2.ext e46
          have hb4 : b6 < w46.heap.size := Nat.lt_of_lt_of_le hb2 e46.size
          have hc4 : Chg (hF s t) w w46 := hc2.trans (Chg.of_ext (F := fun _ => False) e46) (fun _ _ h => h.elim)
          have gx : g (esC.set x.toNat e) x.toNat = e := by rw [g_set hlt, if_pos rfl]
          cases hbt : eLt e (g esC (kid (esC.set x.toNat e) x.toNat)) with
          | true =>
            simp only [cond_true]
            refine hJ _ _ ⟨hb4, hx0, esC, plC, hm4, hc4, hv, down_stop hu fun _ => ?_⟩
            rw [gx, gk _ hne]; exact hbt
          | false =>
            simp only [cond_false]
            refine ⟨_, rfl, s, by rw [addm]; exact hm4.s0, hm4.ent (by omega) (by omega) fun a ha0 ha1 => ⟨_, ha0, _, ha1, ?_⟩⟩
            simp only [Int.toNat_natCast]
            obtain ⟨k0, k1⟩ := hv.idk hkl2 hne
            refine hplay_ok hm4 hx0 hlt (by omega) k0 k1 fun w5 c5 hm5 => ?_
            refine ⟨c5.keep hb4 (fun hF => hbF b6 hF rfl), ⟨Nat.lt_of_lt_of_le hb4 c5.size, by omega, _, _, hm5, hc4.trans c5 (fun _ _ h => h), ?_, ?_⟩, ?_⟩
            · have := hv.step hkl2 hne
              rw [show ((x.toNat : Int)) = x by omega] at this
              simpa using this
            · have := down_step hu (by simpa using hlt) (by simpa using hkl2) (by rw [gx, gk _ hne]; exact hbt)
              rw [Virt.sw hlt hne] at this
              simpa using this
            · omega
  · rintro ⟨x, _⟩ w31 ⟨hb1, hx0, esC, plC, hm, hc, hv, ho⟩
    simp only at hx0 hv ho ⊢
    obtain ⟨k0, k1⟩ := hv.id0
    have hlt := hv.lt
    have hlen := hv.len
    refine hplay_ok (key := e.2) hm hx0 hlt (by omega) k0 k1 fun w32 c32 hm32 => ?_
    refine ⟨c32.keep hb1 (fun hF => hbF b6 hF rfl), hk w32 _ _ x.toNat (hc.trans c32 fun _ _ h => h) hm32 ?_ ho (by rw [set_get _ hlt, if_pos rfl]) (by simp [hlen]) (by simp [hv.plen]) (fun y => hv.mem y)⟩
    have := hv.bij
    rwa [show ((x.toNat : Int)) = x by omega] at this
end
end Go.Sh

/- A heap, by what is in: put and drop. -/
set_option maxRecDepth 100000
namespace Go.Sh
open Go.RowKit

/-- A heap of so many, and what is in (in any order); its blocks. -/
structure HeapI (w : World) (hb : Nat) (s t : SV) (es : List (Int × Int)) (pl : List Int) : Prop where
  m : HeapM w hb s t es pl
  b : Bij es pl
  o : Ord es
  n : pl.length ≤ 2 ^ 24

theorem nodup_le : ∀ (n : Nat) (l : List Nat), l.Nodup → (∀ x ∈ l, x < n) → l.length ≤ n := by
  intro n l h hx
  have := h.length_le_of_subset (l₂ := List.range n) (fun x hx' => List.mem_range.2 (hx x hx'))
  simpa using this

theorem Bij.len {es : List (Int × Int)} {pl : List Int} (h : Bij es pl) : es.length ≤ pl.length := by
  have h1 : (es.map (fun e => e.1.toNat)).Nodup := by
    rw [List.nodup_iff_pairwise_ne, List.pairwise_iff_getElem]
    intro i j hi hj hij
    simp only [List.length_map] at hi hj
    simp only [List.getElem_map]
    intro he
    have a := h.a i _ (List.getElem?_eq_getElem hi)
    have b := h.a j _ (List.getElem?_eq_getElem hj)
    have := h.inj (List.getElem?_eq_getElem hi) (List.getElem?_eq_getElem hj) (by omega)
    omega
  have := nodup_le pl.length _ h1 (fun x hx => by
    obtain ⟨e, he, rfl⟩ := List.mem_map.1 hx
    obtain ⟨i, hi⟩ := List.mem_iff_getElem?.1 he
    exact (List.getElem?_eq_some_iff.1 (h.a i e hi).2).1)
  simpa using this

theorem Bij.nodupE {es : List (Int × Int)} {pl : List Int} (h : Bij es pl) : es.Nodup := by
  have := h.nodup
  rw [List.nodup_iff_pairwise_ne, List.pairwise_map] at this
  rw [List.nodup_iff_pairwise_ne]
  exact this.imp fun hne e => hne (by rw [e])

theorem Bij.place {es : List (Int × Int)} {pl : List Int} (h : Bij es pl) {e : Int × Int} (he : e ∈ es) : ∃ i : Nat, es[i]? = some e ∧ 0 ≤ e.1 ∧ pl[e.1.toNat]? = some ((i : Int) + 1) := by
  obtain ⟨i, hi⟩ := List.mem_iff_getElem?.1 he
  exact ⟨i, hi, h.a i e hi⟩

/-- Set in place. -/
theorem Bij.over {es : List (Int × Int)} {pl : List Int} (h : Bij es pl) {i : Nat} {e : Int × Int} (hi : es[i]? = some e) (key : Int) :
    Bij (es.set i (e.1, key)) pl ∧ ∀ y, y ∈ es.set i (e.1, key) ↔ y = (e.1, key) ∨ (y ∈ es ∧ y.1 ≠ e.1) := by
  have hl := (List.getElem?_eq_some_iff.1 hi).1
  refine ⟨⟨fun j f hj => ?_, fun d v hv => ?_⟩, fun y => ?_⟩
  · rw [set_get j hl] at hj
    split at hj
    · rename_i e1; subst e1; injection hj with hj; subst hj; exact h.a i e hi
    · exact h.a j f hj
  · rcases h.b d v hv with h0 | ⟨h1, f, hf, hd⟩
    · exact .inl h0
    · refine .inr ⟨h1, ?_⟩
      by_cases e1 : i = (v - 1).toNat
      · refine ⟨(e.1, key), by rw [set_get _ hl, if_pos e1], ?_⟩
        rw [← e1, hi] at hf; injection hf with hf; rw [hf]; exact hd
      · exact ⟨f, by rw [set_get _ hl, if_neg e1]; exact hf, hd⟩
  · rw [List.mem_iff_getElem?]
    constructor
    · rintro ⟨j, hj⟩
      rw [set_get j hl] at hj
      split at hj
      · injection hj with hj; exact .inl hj.symm
      · rename_i hne
        refine .inr ⟨List.mem_iff_getElem?.2 ⟨j, hj⟩, fun e1 => hne (h.inj hi hj e1.symm)⟩
    · rintro (rfl | ⟨hy, hne⟩)
      · exact ⟨i, by rw [set_get i hl, if_pos rfl]⟩
      · obtain ⟨j, hj⟩ := List.mem_iff_getElem?.1 hy
        refine ⟨j, ?_⟩
        rw [set_get j hl, if_neg (fun e1 => hne (by subst e1; rw [hi] at hj; injection hj with hj; rw [hj]))]
        exact hj

/-- One more. -/
theorem Bij.more {es : List (Int × Int)} {pl : List Int} (h : Bij es pl) {id : Int} (h0 : 0 ≤ id) (hp : pl[id.toNat]? = some 0) (key : Int) :
    Bij (es ++ [(id, key)]) (pl.set id.toNat ((es.length : Int) + 1)) := by
  have hl := (List.getElem?_eq_some_iff.1 hp).1
  refine ⟨fun j f hj => ?_, fun d v hv => ?_⟩
  · rw [List.getElem?_append] at hj
    split at hj
    · obtain ⟨g0, g1⟩ := h.a j f hj
      refine ⟨g0, ?_⟩
      rw [set_get _ hl, if_neg]
      · exact g1
      · intro e; rw [← e, hp] at g1; injection g1 with g1; omega
    · rename_i hge
      have : j - es.length = 0 := by
        have := (List.getElem?_eq_some_iff.1 hj).1; simp at this; omega
      rw [this] at hj; simp at hj; subst hj
      refine ⟨h0, ?_⟩
      rw [set_get _ hl, if_pos rfl, show es.length = j by omega]
  · rw [set_get _ hl] at hv
    split at hv
    · rename_i e1; injection hv with hv; subst hv
      refine .inr ⟨by omega, (id, key), ?_, by simp; omega⟩
      rw [show ((es.length : Int) + 1 - 1).toNat = es.length by omega]; simp
    · rcases h.b d v hv with h1 | ⟨h1, f, hf, hd⟩
      · exact .inl h1
      · exact .inr ⟨h1, f, by rw [List.getElem?_append_left (List.getElem?_eq_some_iff.1 hf).1]; exact hf, hd⟩

section
variable {w : World} {hb : Nat} {s t : SV} {es : List (Int × Int)} {pl : List Int}

/-- Behind a sink the rise: all is in order. -/
theorem sink_rise {i : Int} {K : World → Prop} (h : HeapM w hb s t es pl) (h0 : 0 ≤ i) (hi : i.toNat < es.length) (bj : Bij es pl) (hn : pl.length ≤ 2 ^ 24) (dn : DownOk es i.toNat) {id : Int} (hid : (g es i.toNat).1 = id)
    (hk : ∀ w' es' pl', Chg (hF s t) w w' → HeapM w' hb s t es' pl' → Bij es' pl' → Ord es' → es'.length = es.length → pl'.length = pl.length → (∀ x, x ∈ es' ↔ x ∈ es) → K w') :
    sh_heap_queue_sink (some ⟨hb, 0, none⟩) i (fun w19 => Nn (some ⟨hb, 0, none⟩) (fun a20 => ∃ s21 : SV, w19.cell? (a20.add 1) = some (.slice s21.a s21.len s21.cap) ∧
      Idx s21.a s21.len id 1 (fun a22 => ∃ x23 : Int, w19.cell? a22 = some (.int .i64 x23) ∧ sh_heap_queue_rise (some ⟨hb, 0, none⟩) (IntKind.i64.wrap (x23 - (1 : Int))) (fun w24 => K w24) w19))) w := by
  have hle := bj.len
  refine sink_ok h h0 hi (by omega) bj dn fun w1 es1 pl1 j c1 m1 b1 u1 hj l1 p1 mem1 => ?_
  refine ⟨_, rfl, t, by rw [addm]; exact m1.s1, ?_⟩
  obtain ⟨q0, q1⟩ := b1.a j _ hj
  rw [hid] at q0 q1
  have hql := (List.getElem?_eq_some_iff.1 q1)
  refine m1.plc q0 hql.1 fun a ha => ⟨_, ha, ?_⟩
  rw [hql.2, w64 (by omega) (by have := (List.getElem?_eq_some_iff.1 hj).1; omega), show (j : Int) + 1 - 1 = j by omega]
  refine rise_ok m1 (by omega) (by have := (List.getElem?_eq_some_iff.1 hj).1; simpa using this) (by omega) b1 (by simpa using u1) fun w2 es2 pl2 c2 m2 b2 o2 l2 p2 mem2 => ?_
  exact hk w2 es2 pl2 (c1.trans c2 fun _ _ h => h) m2 b2 o2 (l2.trans l1) (p2.trans p1) (fun x => (mem2 x).trans (mem1 x))

theorem hpput_ok {id key : Int} {K : World → Prop} (h : HeapI w hb s t es pl) (h0 : 0 ≤ id) (hd : id.toNat < pl.length)
    (hk : ∀ w' s' es' pl', Chg (fun k => k = hb ∨ hF s t k) w w' → (∀ k, s'.blk k → s.blk k ∨ w.heap.size ≤ k) → HeapI w' hb s' t es' pl' → pl'.length = pl.length → es'.Perm ((id, key) :: es.filter (fun e => e.1 != id)) → K w') :
    sh_heap_queue_put (some ⟨hb, 0, none⟩) id key K w := by
  unfold sh_heap_queue_put
  have hle := h.b.len
  have hn := h.n
  refine ⟨_, rfl, t, by rw [addm]; exact h.m.s1, h.m.plc h0 hd fun a ha => ⟨_, ha, ?_⟩⟩
  have hpm : ∀ es' : List (Int × Int), ∀ pl', Bij es' pl' → (∀ y, y ∈ es' ↔ y = (id, key) ∨ (y ∈ es ∧ y.1 ≠ id)) → es'.Perm ((id, key) :: es.filter (fun e => e.1 != id)) := fun es' pl' b hm => by
    rw [List.perm_ext_iff_of_nodup b.nodupE]
    · intro y; rw [hm]; simp [List.mem_filter]
    · rw [List.nodup_cons]; exact ⟨by simp [List.mem_filter], h.b.nodupE.filter _⟩
  rcases h.b.b id.toNat _ (List.getElem?_eq_getElem hd) with hz | ⟨h1, e, he, hed⟩
  · -- not in
    rw [hz]
    have hp0 : pl[id.toNat]? = some 0 := by rw [List.getElem?_eq_getElem hd, hz]
    have hnot : ∀ e ∈ es, e.1 ≠ id := fun e he hid => by
      obtain ⟨i, hi, _, hp⟩ := h.b.place he
      rw [hid, hp0] at hp; injection hp with hp; omega
    refine Join.cut (fun (x : Int × Unit) w1 => x.1 = es.length ∧ ∃ s', HeapM w1 hb s' t (es ++ [(0, 0)]) pl ∧ Chg (fun k => k = hb ∨ hF s t k) w w1 ∧ (∀ k, s'.blk k → s.blk k ∨ w.heap.size ≤ k)) (fun J hJ => ?_) ?_
    · rw [show IntKind.i64.wrap (0 - 1) = -1 from rfl]
      simp only [show decide ((-1 : Int) < 0) = true from rfl, cond_true]
      refine ⟨_, rfl, s, by rw [addm]; exact h.m.s0, _, rfl, s, by rw [addm]; exact h.m.s0, ?_⟩
      intro b10 w11 e11 hb10 hB
      have m11 := h.m.ext e11
      refine Own.app (R := RE) m11.l (View.one (R := RE) (x := (0, 0)) hB) (by simp only [List.length_cons, List.length_nil]; omega) (by simp only [List.length_cons, List.length_nil]; omega) fun s12 w13 c13 hs12 hO => ?_
      have hfr : ∀ k, s12.blk k → s.blk k ∨ w.heap.size ≤ k := fun k hk => (hs12 k hk).imp (fun h => h) (fun h => Nat.le_trans e11.size h)
      refine ⟨_, rfl, ?_⟩
      have hB13 := c13.blk m11.hd m11.n1
      simp only [addm]
      refine stL_blk (b := hb) (o := 0 + 0) [.slice s12.a s12.len s12.cap] 0 w13 _ _ hB13 (by simp) fun w15 o15 hB15 => ?_
      have hblt := blk_lt h.m.hd
      have hn1 : ¬ s12.blk hb := fun hk => by rcases hfr hb hk with h' | h'; exact h.m.n1 h'; omega
      refine hJ _ _ ⟨by rw [h.m.l.view.len], s12, ⟨hB15, ?_, ?_, hn1, h.m.n2, ?_⟩, ?_, hfr⟩
      · exact hO.chg (Chg.of_off (F := fun k => k = hb) o15 rfl) (fun k hk e => hn1 (e ▸ hk))
      · exact (m11.p.chg c13 (fun k hk h => m11.n3 k h hk)).chg (Chg.of_off (F := fun k => k = hb) o15 rfl) (fun k hk e => h.m.n2 (e ▸ hk))
      · intro k hk ht
        rcases hfr k hk with h' | h'
        · exact h.m.n3 k h' ht
        · have := h.m.p.lt ht; omega
      · refine ((Chg.of_ext e11).trans c13 (fun i _ h => .inr (.inl h))).trans (Chg.of_off (F := fun k => k = hb) o15 rfl) (fun i _ h => .inl h)
    · rintro ⟨x, _⟩ w17 ⟨hx, s', m17, c17, hfr⟩
      simp only at hx ⊢
      subst hx
      refine hplay_ok m17 (by omega) (by simp) (by simp; omega) h0 hd fun w18 c18 m18 => ?_
      have e1 : (es ++ [(0, 0)]).set es.length (id, key) = es ++ [(id, key)] := by
        rw [List.set_append_right _ _ (Nat.le_refl _)]; simp
      simp only [Int.toNat_natCast] at m18
      rw [e1] at m18
      have hF2 : ∀ i, i < w.heap.size → hF s' t i → (i = hb ∨ hF s t i) := fun i hi hh => .inr (hh.imp (fun h' => (hfr i h').resolve_right (by omega)) (fun h => h))
      have hgi : g (es ++ [(id, key)]) es.length = (id, key) := by simp [g, List.getD_eq_getElem?_getD]
      refine sink_rise (i := (es.length : Int)) m18 (by omega) (by simp) (h.b.more h0 hp0 key) (by simpa using hn) (by simpa using ord_push h.o (id, key)) (id := id) (by simp only [Int.toNat_natCast]; rw [hgi]) fun w2 es2 pl2 c2 m2 b2 o2 l2 p2 mem2 => ?_
      refine hk w2 s' es2 pl2 ((c17.trans c18 hF2).trans c2 hF2) hfr ⟨m2, b2, o2, by rw [p2]; simpa using hn⟩ (by rw [p2]; simp) (hpm es2 pl2 b2 fun y => ?_)
      rw [mem2, List.mem_append, List.mem_singleton]
      constructor
      · rintro (hy | hy)
        · exact .inr ⟨hy, hnot y hy⟩
        · exact .inl hy
      · rintro (hy | hy)
        · exact .inr hy
        · exact .inl hy.1
  · -- in
    generalize hv : pl[id.toNat] = v at *
    have hel := (List.getElem?_eq_some_iff.1 he).1
    have hei : e.1 = id := by omega
    have hpv : pl[id.toNat]? = some v := by rw [List.getElem?_eq_getElem hd, hv]
    have hw : IntKind.i64.wrap (v - 1) = v - 1 := w64 (by omega) (by omega)
    rw [hw]
    refine Join.cut (fun (x : Int × Unit) w1 => x.1 = v - 1 ∧ w1 = w) (fun J hJ => ?_) ?_
    · rw [Bool.cond_decide, if_neg (by omega)]
      exact hJ _ _ ⟨rfl, rfl⟩
    · rintro ⟨x, _⟩ w17 ⟨hx, rfl⟩
      simp only at hx ⊢
      subst hx
      refine hplay_ok h.m (by omega) hel (by omega) h0 hd fun w18 c18 m18 => ?_
      have e1 : pl.set id.toNat (v - 1 + 1) = pl := by
        apply List.ext_getElem?
        intro j
        rw [set_get j hd]
        split
        · rename_i e; subst e; rw [hpv]; congr 1; omega
        · rfl
      rw [e1] at m18
      obtain ⟨bo, bm⟩ := h.b.over he key
      rw [hei] at bo bm
      have hgi : g (es.set (v - 1).toNat (id, key)) (v - 1).toNat = (id, key) := by rw [g_set hel, if_pos rfl]
      refine sink_rise (i := v - 1) m18 (by omega) (by simpa using hel) bo hn (ord_down h.o (id, key) hel) (id := id) (by rw [hgi]) fun w2 es2 pl2 c2 m2 b2 o2 l2 p2 mem2 => ?_
      refine hk w2 s es2 pl2 ((c18.mono fun i _ h => .inr h).trans c2 fun i _ h => .inr h) (fun k hk => .inl hk) ⟨m2, b2, o2, by rw [p2]; exact hn⟩ p2 (hpm es2 pl2 b2 fun y => ?_)
      rw [mem2, bm]
end
end Go.Sh

/- A heap: drop. -/
set_option maxRecDepth 100000
namespace Go.Sh
open Go.RowKit

theorem Own.cut {α : Type} {R : Rc α} {w : World} {s : SV} {xs ys : List α} (h : Own R w s (xs ++ ys)) : Own R w ⟨s.a, xs.length, s.cap⟩ xs := by
  obtain ⟨rest, h1, h2, h3⟩ := h
  refine ⟨ys ++ rest, rfl, by simp [h2, Nat.add_assoc], ?_⟩
  rcases h3 with ⟨ha, hx, hr⟩ | ⟨b, ha, hB⟩
  · obtain ⟨hx, hy⟩ := List.append_eq_nil_iff.1 hx
    exact .inl ⟨ha, hx, by rw [hy, hr]; rfl⟩
  · exact .inr ⟨b, ha, by rw [← List.append_assoc]; exact hB⟩

theorem Bij.last {es : List (Int × Int)} {x : Int × Int} {pl : List Int} (h : Bij (es ++ [x]) pl) : Bij es (pl.set x.1.toNat 0) := by
  obtain ⟨x0, xp⟩ := h.a es.length x (by simp)
  have hl := (List.getElem?_eq_some_iff.1 xp).1
  refine ⟨fun j f hj => ?_, fun d v hv => ?_⟩
  · have hjl := (List.getElem?_eq_some_iff.1 hj).1
    obtain ⟨f0, fp⟩ := h.a j f (by rw [List.getElem?_append_left hjl]; exact hj)
    refine ⟨f0, ?_⟩
    rw [set_get _ hl, if_neg]
    · exact fp
    · intro e; rw [← e, xp] at fp; injection fp with fp; omega
  · rw [set_get _ hl] at hv
    split at hv
    · injection hv with hv; exact .inl hv.symm
    · rename_i hne
      rcases h.b d v hv with h1 | ⟨h1, f, hf, hd⟩
      · exact .inl h1
      · refine .inr ⟨h1, f, ?_, hd⟩
        rw [List.getElem?_append] at hf
        split at hf
        · exact hf
        · exfalso
          have : (v - 1).toNat - es.length = 0 := by
            have := (List.getElem?_eq_some_iff.1 hf).1; simp at this; omega
          rw [this] at hf; simp at hf; subst hf; omega

theorem Bij.fill {es : List (Int × Int)} {x e : Int × Int} {pl : List Int} (h : Bij (es ++ [x]) pl) {i : Nat} (hi : es[i]? = some e) :
    Bij (es.set i x) ((pl.set e.1.toNat 0).set x.1.toNat ((i : Int) + 1)) ∧ ∀ y, y ∈ es.set i x ↔ (y ∈ es ++ [x] ∧ y.1 ≠ e.1) := by
  obtain ⟨x0, xp⟩ := h.a es.length x (by simp)
  have hl := (List.getElem?_eq_some_iff.1 xp).1
  have hil := (List.getElem?_eq_some_iff.1 hi).1
  have hi' : (es ++ [x])[i]? = some e := by rw [List.getElem?_append_left hil]; exact hi
  obtain ⟨e0, ep⟩ := h.a i e hi'
  have hel := (List.getElem?_eq_some_iff.1 ep).1
  have hxe : x.1 ≠ e.1 := fun he => by
    have := h.inj (i := es.length) (j := i) (by simp) hi' he; omega
  have ps : ∀ d, ((pl.set e.1.toNat 0).set x.1.toNat ((i : Int) + 1))[d]? = if x.1.toNat = d then some ((i : Int) + 1) else if e.1.toNat = d then some 0 else pl[d]? := by
    intro d; rw [set_get d (by simpa using hl), set_get d hel]
  refine ⟨⟨fun j f hj => ?_, fun d v hv => ?_⟩, fun y => ?_⟩
  · rw [set_get j hil] at hj
    split at hj
    · rename_i e1; injection hj with hj; subst hj; exact ⟨x0, by rw [ps, if_pos rfl, e1]⟩
    · rename_i hne
      have hjl := (List.getElem?_eq_some_iff.1 hj).1
      have hj' : (es ++ [x])[j]? = some f := by rw [List.getElem?_append_left hjl]; exact hj
      obtain ⟨f0, fp⟩ := h.a j f hj'
      refine ⟨f0, ?_⟩
      rw [ps, if_neg, if_neg]
      · exact fp
      · intro e1; rw [← e1, ep] at fp; injection fp with fp; omega
      · intro e1; rw [← e1, xp] at fp; injection fp with fp; omega
  · rw [ps] at hv
    split at hv
    · injection hv with hv; subst hv
      rename_i e1
      refine .inr ⟨by omega, x, ?_, by omega⟩
      rw [show ((i : Int) + 1 - 1).toNat = i by omega, set_get i hil, if_pos rfl]
    · rename_i n1
      split at hv
      · injection hv with hv; exact .inl hv.symm
      · rename_i n2
        rcases h.b d v hv with h1 | ⟨h1, f, hf, hd⟩
        · exact .inl h1
        · refine .inr ⟨h1, f, ?_, hd⟩
          rw [List.getElem?_append] at hf
          split at hf
          · rename_i hlt
            rw [set_get _ hil, if_neg]
            · exact hf
            · intro e1; rw [← e1, hi] at hf; injection hf with hf; subst hf; omega
          · exfalso
            have : (v - 1).toNat - es.length = 0 := by
              have := (List.getElem?_eq_some_iff.1 hf).1; simp at this; omega
            rw [this] at hf; simp at hf; subst hf; omega
  · rw [List.mem_iff_getElem?]
    constructor
    · rintro ⟨j, hj⟩
      rw [set_get j hil] at hj
      split at hj
      · injection hj with hj; subst hj; exact ⟨by simp, hxe⟩
      · rename_i hne
        have hjl := (List.getElem?_eq_some_iff.1 hj).1
        have hj' : (es ++ [x])[j]? = some y := by rw [List.getElem?_append_left hjl]; exact hj
        exact ⟨List.mem_iff_getElem?.2 ⟨j, hj'⟩, fun he => hne (h.inj hi' hj' he.symm)⟩
    · rintro ⟨hy, hne⟩
      rcases List.mem_append.1 hy with hy | hy
      · obtain ⟨j, hj⟩ := List.mem_iff_getElem?.1 hy
        refine ⟨j, ?_⟩
        rw [set_get j hil, if_neg (fun e1 => hne (by subst e1; rw [hi] at hj; injection hj with hj; rw [hj]))]
        exact hj
      · simp at hy; subst hy; exact ⟨i, by rw [set_get i hil, if_pos rfl]⟩

section
variable {w : World} {hb : Nat} {s t : SV} {es : List (Int × Int)} {pl : List Int}

theorem drop_ok {id key : Int} {K : World → Prop} (h : HeapI w hb s t es pl) (hin : (id, key) ∈ es)
    (hk : ∀ w' s' es' pl', Chg (fun k => k = hb ∨ hF s t k) w w' → (∀ k, s'.blk k → s.blk k) → HeapI w' hb s' t es' pl' → pl'.length = pl.length → es'.Perm (es.filter (fun e => e.1 != id)) → K w') :
    sh_heap_queue_drop (some ⟨hb, 0, none⟩) id K w := by
  obtain ⟨i, hi, h0, hp⟩ := h.b.place hin
  simp only at h0 hp
  have hd := (List.getElem?_eq_some_iff.1 hp).1
  have hle := h.b.len
  have hn := h.n
  -- the last one
  obtain ⟨es0, x, rfl⟩ : ∃ es0 x, es = es0 ++ [x] := by
    rcases List.eq_nil_or_concat es with h' | h'
    · subst h'; cases hin
    · obtain ⟨l, a, h'⟩ := h'; exact ⟨l, a, by rw [h', List.concat_eq_append]⟩
  have hsl : s.len = es0.length + 1 := by rw [h.m.l.view.len]; simp
  have hil := (List.getElem?_eq_some_iff.1 hi).1
  simp only [List.length_append, List.length_cons, List.length_nil] at hil hle
  have hgl : g (es0 ++ [x]) es0.length = x := by simp [g, List.getD_eq_getElem?_getD]
  unfold sh_heap_queue_drop
  refine ⟨_, rfl, t, by rw [addm]; exact h.m.s1, h.m.plc h0 hd fun a ha => ⟨_, ha, ?_⟩⟩
  have hpe : pl[id.toNat] = (i : Int) + 1 := by
    rw [List.getElem?_eq_getElem hd] at hp; injection hp
  rw [hpe]
  refine ⟨_, rfl, s, by rw [addm]; exact h.m.s0, fun w7 e7 => ?_⟩
  have m7 := h.m.ext e7
  have hwl : IntKind.i64.wrap ((s.len : Int) - 1) = (es0.length : Int) := by rw [hsl, w64 (by omega) (by omega)]; omega
  have hwi : IntKind.i64.wrap ((i : Int) + 1 - 1) = (i : Int) := by rw [w64 (by omega) (by omega)]; omega
  rw [hwl, hwi]
  refine ⟨_, rfl, s, by rw [addm]; exact m7.s0, m7.ent (by omega) (by simp) fun a ha0 ha1 => ⟨_, ha0, _, ha1, ?_⟩⟩
  simp only [Int.toNat_natCast, hgl]
  intro b13 w14 e14 hb13 hb13' w15 o15
  have hbF : ∀ k, k = hb ∨ hF s t k → k ≠ b13 := fun k hk e => by
    have : k < w7.heap.size := by
      rcases hk with rfl | hk
      · exact blk_lt m7.hd
      · exact m7.lt hk
    omega
  have m15 : HeapM w15 hb s t (es0 ++ [x]) pl := (m7.ext e14).chg (Chg.of_off (F := fun k => k = b13) o15 rfl) (hbF hb (.inl rfl)) (fun k hk => hbF k (.inr (.inl hk))) (fun k hk => hbF k (.inr (.inr hk)))
  have c15 : Chg (fun k => k = hb ∨ hF s t k) w w15 := (Chg.of_ext (e7.trans e14)).trans (Chg.of_off (F := fun k => k = b13) o15 rfl) (fun k hk e => by have := e7.size; omega)
  refine ⟨_, rfl, t, by rw [addm]; exact m15.s1, _, rfl, s, by rw [addm]; exact m15.s0, ?_⟩
  have hcap : es0.length + 1 ≤ s.cap := by
    obtain ⟨rest, hq1, hq2, _⟩ := m15.l
    rw [hq2]; simp
  obtain ⟨sb, hsb⟩ : ∃ sb, s.a = some ⟨sb, 0, none⟩ := by
    obtain ⟨rest, _, _, hq3⟩ := m15.l
    rcases hq3 with ⟨_, hx, _⟩ | ⟨b, hb, _⟩
    · simp at hx
    · exact ⟨b, hb⟩
  unfold semSlice
  simp only [Option.getD_some, Option.getD_none, Int.toNat_natCast, Int.toNat_zero, Nat.sub_zero, Nat.zero_mul]
  refine ⟨by omega, (fun y hy => by injection hy with hy; omega), by omega, by omega, ?_⟩
  rw [if_neg (by omega), hsb]
  simp only [Option.map_some, addm, Nat.add_zero]
  refine ⟨_, rfl, fun w22 e22 => ?_⟩
  have m22 := m15.ext e22
  refine stL_blk (b := hb) (o := 0) [.slice (some ⟨sb, 0, none⟩) es0.length s.cap] 0 w22 _ _ m22.hd (by simp) fun w23 o23 hB23 => ?_
  have hbs : b13 < w22.heap.size := by have := e22.size; have := o15.size; omega
  refine ⟨fun c hc => by simp at hc; subst hc; exact o23.block _ (fun e => hbF hb (.inl rfl) e.symm), ?_⟩
  -- the shorter one
  have hblk : ∀ k, (⟨some ⟨sb, 0, none⟩, es0.length, s.cap⟩ : SV).blk k → s.blk k := fun k ⟨p, hp, hpk⟩ => ⟨p, by rw [hsb]; exact hp, hpk⟩
  have cO : Chg (fun k => k = hb) w22 w23 := Chg.of_off o23 rfl
  have m23 : HeapM w23 hb ⟨some ⟨sb, 0, none⟩, es0.length, s.cap⟩ t es0 pl := by
    refine ⟨hB23, ?_, m22.p.chg cO (fun k hk e => h.m.n2 (e ▸ hk)), fun hk => h.m.n1 (hblk _ hk), h.m.n2, fun k hk => h.m.n3 k (hblk k hk)⟩
    have := (m22.l.chg cO (fun k hk e => h.m.n1 (e ▸ hk))).cut
    rwa [hsb] at this
  refine m23.p.put h0 hd fun d htd hput => ?_
  have hdt : t.blk d := ⟨_, htd, rfl⟩
  intro w25 e25
  have m25 := m23.ext e25
  refine hput 0 w25 _ m25.p fun w26 o26 O26 => ?_
  refine ⟨fun c hc => by simp at hc; subst hc; exact o26.block _ (fun e => hbF d (.inr (.inr hdt)) e.symm), ?_⟩
  intro w27 e27
  have c26 : Chg t.blk w25 w26 := .of_off o26 hdt
  have m27 : HeapM w27 hb ⟨some ⟨sb, 0, none⟩, es0.length, s.cap⟩ t es0 (pl.set id.toNat 0) :=
    HeapM.ext ⟨c26.blk m25.hd m25.n2, m25.l.chg c26 m25.n3, O26, m25.n1, m25.n2, m25.n3⟩ e27
  have hFF : ∀ k, hF ⟨some ⟨sb, 0, none⟩, es0.length, s.cap⟩ t k → (k = hb ∨ hF s t k) := fun k hk => .inr (hk.imp (hblk k) (fun h => h))
  have c27 : Chg (fun k => k = hb ∨ hF s t k) w w27 :=
    ((((c15.trans (Chg.of_ext (F := fun _ => False) e22) (fun _ _ h => h.elim)).trans cO (fun _ _ h => .inl h)).trans (Chg.of_ext (F := fun _ => False) e25) (fun _ _ h => h.elim)).trans c26 (fun _ _ h => .inr (.inr h))).trans
      (Chg.of_ext (F := fun _ => False) e27) (fun _ _ h => h.elim)
  have hb27 : b13 < w27.heap.size := by
    have := e27.size; have := e25.size; have := o23.size; have := o26.size; omega
  have hpm : ∀ es' : List (Int × Int), ∀ pl', Bij es' pl' → (∀ y, y ∈ es' ↔ (y ∈ es0 ++ [x] ∧ y.1 ≠ id)) → es'.Perm ((es0 ++ [x]).filter (fun e => e.1 != id)) := fun es' pl' b hm => by
    rw [List.perm_ext_iff_of_nodup b.nodupE (h.b.nodupE.filter _)]
    intro y; rw [hm, List.mem_filter, bne_iff_ne]
  by_cases hx : x.1 = id
  · have hbe : (x.1 == id) = true := by simpa using hx
    rw [hbe, cond_true]
    have bl := h.b.last
    rw [hx] at bl
    refine hk w27 _ es0 _ c27 hblk ⟨m27, bl, ord_take h.o, by simpa using hn⟩ (by simp) (hpm es0 _ bl fun y => ?_)
    rw [List.mem_append, List.mem_singleton]
    constructor
    · intro hy
      refine ⟨.inl hy, fun hyi => ?_⟩
      obtain ⟨j, hj⟩ := List.mem_iff_getElem?.1 hy
      have hjl := (List.getElem?_eq_some_iff.1 hj).1
      have := h.b.inj (i := j) (j := es0.length) (by rw [List.getElem?_append_left hjl]; exact hj) (by simp) (hyi.trans hx.symm)
      omega
    · rintro ⟨hy | hy, hne⟩
      · exact hy
      · subst hy; exact absurd hx hne
  · have hbe : (x.1 == id) = false := by simpa using hx
    rw [hbe, cond_false]
    have hi0 : i < es0.length := by
      rcases Nat.lt_or_ge i es0.length with h' | h'
      · exact h'
      · exfalso
        have hie : i = es0.length := by omega
        rw [hie] at hi; simp at hi; rw [hi] at hx; exact hx rfl
    have hies : es0[i]? = some (id, key) := by rw [List.getElem?_append_left hi0] at hi; exact hi
    obtain ⟨bf, mf⟩ := h.b.fill hies
    simp only at bf mf
    obtain ⟨x0, xp⟩ := h.b.a es0.length x (by simp)
    have hxl := (List.getElem?_eq_some_iff.1 xp).1
    refine hplay_ok m27 (by omega) (by simpa using hi0) (by omega) x0 (by simpa using hxl) fun w28 c28 m28 => ?_
    simp only [Int.toNat_natCast] at m28
    refine ⟨c28.keep hb27 (fun hF => hbF b13 (hFF b13 hF) rfl), ?_⟩
    have hb28 := Nat.lt_of_lt_of_le hb27 c28.size
    have hlen : (es0.set i x).length = es0.length := by simp
    refine sink_ok m28 (by omega) (by simpa using hi0) (by rw [hlen]; omega) bf (by simpa using ord_down (ord_take h.o) x hi0) fun w1 es1 pl1 j c1 m1 b1 u1 hj l1 p1 mem1 => ?_
    refine ⟨c1.keep hb28 (fun hF => hbF b13 (hFF b13 hF) rfl), ?_⟩
    have hb1 := Nat.lt_of_lt_of_le hb28 c1.size
    rw [show g (es0.set i x) ((i : Int)).toNat = x by rw [Int.toNat_natCast, g_set hi0, if_pos rfl]] at hj
    refine ⟨_, rfl, t, by rw [addm]; exact m1.s1, ?_⟩
    obtain ⟨q0, q1⟩ := b1.a j _ hj
    have hql := (List.getElem?_eq_some_iff.1 q1)
    have hjl := (List.getElem?_eq_some_iff.1 hj).1
    have hl1 : es1.length = es0.length := by rw [l1]; simp
    refine m1.plc q0 hql.1 fun a ha => ⟨_, ha, fun w34 e34 => ?_⟩
    rw [hql.2, w64 (by omega) (by omega), show (j : Int) + 1 - 1 = j by omega]
    refine rise_ok (m1.ext e34) (by omega) (by simpa using hjl) (by omega) b1 (by simpa using u1) fun w2 es2 pl2 c2 m2 b2 o2 l2 p2 mem2 => ?_
    refine ⟨c2.keep (Nat.lt_of_lt_of_le hb1 e34.size) (fun hF => hbF b13 (hFF b13 hF) rfl), fun w36 e36 => ?_⟩
    refine hk w36 _ es2 pl2 ?_ hblk ⟨m2.ext e36, b2, o2, by rw [p2, p1]; simpa using hn⟩ (by rw [p2, p1]; simp) (hpm es2 pl2 b2 fun y => ?_)
    · exact ((((c27.trans c28 (fun k _ hk => hFF k hk)).trans c1 (fun k _ hk => hFF k hk)).trans (Chg.of_ext (F := fun _ => False) e34) (fun _ _ h => h.elim)).trans c2 (fun k _ hk => hFF k hk)).trans (Chg.of_ext (F := fun _ => False) e36) (fun _ _ h => h.elim)
    · rw [mem2, mem1, mf]
end
end Go.Sh

/- The heap, as it is handed out. -/
set_option maxRecDepth 100000
namespace Go.Sh
open Go.RowKit

/-- A heap of N numbers; what is in is L, in any order; F are its blocks. -/
def HeapA (w : World) (p : Option Addr) (N : Nat) (L : List (Int × Int)) (F : Nat → Prop) : Prop :=
  ∃ hb s t es pl, p = some ⟨hb, 0, none⟩ ∧ HeapI w hb s t es pl ∧ pl.length = N ∧ es.Perm L ∧ ∀ k, F k ↔ (k = hb ∨ hF s t k)

/-- The least of those that are in. -/
def Least (L : List (Int × Int)) (m : Int × Int) : Prop := m ∈ L ∧ ∀ y ∈ L, eLt y m = false
def rid (L : List (Int × Int)) (id : Int) : List (Int × Int) := L.filter (fun e => e.1 != id)

section
variable {w w' : World} {p : Option Addr} {N : Nat} {L : List (Int × Int)} {F : Nat → Prop}

theorem HeapA.lt (h : HeapA w p N L F) {k : Nat} (hk : F k) : k < w.heap.size := by
  obtain ⟨hb, s, t, es, pl, rfl, hi, hn, hp, hF⟩ := h
  rcases (hF k).1 hk with rfl | hk
  · exact blk_lt hi.m.hd
  · exact hi.m.lt hk
theorem HeapA.chg {G : Nat → Prop} (h : HeapA w p N L F) (c : Chg G w w') (hG : ∀ k, F k → ¬ G k) : HeapA w' p N L F := by
  obtain ⟨hb, s, t, es, pl, rfl, hi, hn, hp, hF⟩ := h
  exact ⟨hb, s, t, es, pl, rfl, ⟨hi.m.chg c (hG _ ((hF hb).2 (.inl rfl))) (fun k hk => hG k ((hF k).2 (.inr (.inl hk)))) (fun k hk => hG k ((hF k).2 (.inr (.inr hk)))), hi.b, hi.o, hi.n⟩, hn, hp, hF⟩
theorem HeapA.ext (h : HeapA w p N L F) (e : Ext w w') : HeapA w' p N L F := h.chg (G := fun _ => False) (.of_ext e) (fun _ _ h => h)
theorem HeapA.range (h : HeapA w p N L F) {e : Int × Int} (he : e ∈ L) : 0 ≤ e.1 ∧ e.1.toNat < N := by
  obtain ⟨hb, s, t, es, pl, h1, hi, rfl, hq, hF⟩ := h
  obtain ⟨i, _, h0, hp⟩ := hi.b.place (hq.mem_iff.2 he)
  exact ⟨h0, (List.getElem?_eq_some_iff.1 hp).1⟩
theorem HeapA.uniq (h : HeapA w p N L F) {a b c : Int} (h1 : (a, b) ∈ L) (h2 : (a, c) ∈ L) : b = c := by
  obtain ⟨hb, s, t, es, pl, _, hi, rfl, hq, hF⟩ := h
  obtain ⟨i, hi1⟩ := List.mem_iff_getElem?.1 (hq.mem_iff.2 h1)
  obtain ⟨j, hj1⟩ := List.mem_iff_getElem?.1 (hq.mem_iff.2 h2)
  have := hi.b.inj hi1 hj1 rfl
  subst this
  rw [hi1] at hj1; injection hj1 with hj1; injection hj1

theorem New_ok {n : Int} {K : Option Addr → World → Prop} (h0 : 0 ≤ n) (h1 : n ≤ 16777216)
    (hk : ∀ p w' F, Ext w w' → HeapA w' p n.toNat [] F → (∀ k, F k → w.heap.size ≤ k) → K p w') : sh_heap_New n K w := by
  unfold sh_heap_New
  rw [Bool.cond_decide, if_neg (by omega), Bool.cond_decide, if_neg (by omega)]
  refine Own.mk (R := RI) (bytes := 8) h0 (by omega) (by omega) fun b w2 e2 hb hO => ?_
  intro b3 w4 e4 hb3 _ hB
  have hbl : b < w2.heap.size := hO.lt ⟨_, rfl, rfl⟩
  refine hk _ _ (fun k => k = b3 ∨ hF ⟨none, 0, 0⟩ ⟨some ⟨b, 0, none⟩, n.toNat, n.toNat⟩ k) (e2.trans e4) ⟨b3, ⟨none, 0, 0⟩, ⟨some ⟨b, 0, none⟩, n.toNat, n.toNat⟩, [], List.replicate n.toNat 0, rfl, ⟨⟨hB, Own.nil, hO.ext e4, ?_, ?_, ?_⟩, ?_, ?_, ?_⟩, ?_, ?_, fun k => Iff.rfl⟩ ?_
  · rintro ⟨p, hp, _⟩; cases hp
  · rintro ⟨p, hp, hpk⟩; cases hp; simp at hpk; omega
  · rintro k ⟨p, hp, _⟩; cases hp
  · refine ⟨fun i e h => by simp at h, fun d v hv => ?_⟩
    rw [List.getElem?_replicate] at hv
    split at hv
    · injection hv with hv; exact .inl hv.symm
    · cases hv
  · intro j j0 hj; simp at hj
  · simp; omega
  · simp
  · exact List.Perm.refl _
  · have := e2.size
    rintro k (rfl | ⟨p, hp, _⟩ | ⟨p, hp, rfl⟩)
    · omega
    · cases hp
    · cases hp; exact hb
theorem may_ok {id : Int} {K : Bool → World → Prop} (h : HeapA w p N L F) (hk : K (decide (0 ≤ id ∧ id.toNat < N)) w) : sh_heap_Heap_may p id K w := by
  obtain ⟨hb, s, t, es, pl, rfl, hi, rfl, hq, hF⟩ := h
  unfold sh_heap_Heap_may
  simp only [Option.isNone_some, Bool.not_false, cond_true]
  rw [Bool.cond_decide]
  by_cases h0 : id ≥ 0
  · rw [if_pos h0]
    refine ⟨_, rfl, t, by simp only [addm]; exact hi.m.s1, ?_⟩
    rw [show decide (id < (t.len : Int)) = decide (0 ≤ id ∧ id.toNat < pl.length) by rw [hi.m.p.view.len]; congr 1; simp; omega]
    exact hk
  · rw [if_neg h0]
    rw [show decide (0 ≤ id ∧ id.toNat < pl.length) = false by simp; omega] at hk
    exact hk

theorem Set_ok {id key : Int} {K : Bool → World → Prop} (h : HeapA w p N L F) (h0 : 0 ≤ id) (hd : id.toNat < N)
    (hk : ∀ w' F', Chg F w w' → (∀ k, F' k → F k ∨ w.heap.size ≤ k) → HeapA w' p N ((id, key) :: rid L id) F' → K true w') : sh_heap_Heap_Set p id key K w := by
  unfold sh_heap_Heap_Set
  refine may_ok h ?_
  rw [decide_eq_true ⟨h0, hd⟩]
  simp only [Bool.not_true, cond_false]
  obtain ⟨hb, s, t, es, pl, rfl, hi, rfl, hq, hF⟩ := h
  refine ⟨_, rfl, ?_⟩
  simp only [addm]
  refine hpput_ok hi h0 hd fun w2 s2 es2 pl2 c2 hf2 i2 p2 q2 => ?_
  refine hk w2 (fun k => k = hb ∨ Go.Sh.hF s2 t k) (c2.mono fun i _ h => (hF i).2 h) (fun k hk => ?_) ⟨hb, s2, t, es2, pl2, rfl, i2, p2, q2.trans (.cons _ (hq.filter _)), fun k => Iff.rfl⟩
  rcases hk with hk | hk | hk
  · exact .inl ((hF k).2 (.inl hk))
  · exact (hf2 k hk).imp (fun h => (hF k).2 (.inr (.inl h))) (fun h => h)
  · exact .inl ((hF k).2 (.inr (.inr hk)))
theorem Len_ok {K : Int → World → Prop} (h : HeapA w p N L F) (hk : K (L.length : Int) w) : sh_heap_Heap_Len p K w := by
  obtain ⟨hb, s, t, es, pl, rfl, hi, rfl, hq, hF⟩ := h
  unfold sh_heap_Heap_Len
  simp only [Option.isNone_some, cond_false]
  refine ⟨_, rfl, s, by simp only [addm]; exact hi.m.s0, ?_⟩
  rw [hi.m.l.view.len, hq.length_eq]; exact hk
theorem First_no {K : Int → Int → Bool → World → Prop} (h : HeapA w p N [] F) (hk : K 0 0 false w) : sh_heap_Heap_First p K w := by
  unfold sh_heap_Heap_First
  refine Len_ok h ?_
  exact hk
theorem First_ok {K : Int → Int → Bool → World → Prop} (h : HeapA w p N L F) (hl : L ≠ []) (hk : ∀ m w', Least L m → Ext w w' → K m.1 m.2 true w') : sh_heap_Heap_First p K w := by
  unfold sh_heap_Heap_First
  refine Len_ok h ?_
  have hl0 : L.length ≠ 0 := fun e => hl (List.eq_nil_of_length_eq_zero e)
  rw [show (((L.length : Int)) == 0) = false by simp; exact fun e => hl e]
  simp only [cond_false]
  obtain ⟨hb, s, t, es, pl, rfl, hi, rfl, hq, hF⟩ := h
  have hel : 0 < es.length := by rw [hq.length_eq]; omega
  refine ⟨_, rfl, s, by simp only [addm]; exact hi.m.s0, hi.m.ent (by omega) (by simpa using hel) fun a ha0 _ => ⟨_, ha0, ?_⟩⟩
  refine ⟨_, rfl, s, by simp only [addm]; exact hi.m.s0, hi.m.ent (by omega) (by simpa using hel) fun a _ ha1 => ⟨_, ha1, fun w11 e11 => ?_⟩⟩
  refine hk (g es 0) w11 ⟨?_, fun y hy => ?_⟩ e11
  · exact hq.mem_iff.1 (List.mem_iff_getElem?.2 ⟨0, g_get hel⟩)
  · obtain ⟨j, hj⟩ := List.mem_iff_getElem?.1 (hq.mem_iff.2 hy)
    have hjl := (List.getElem?_eq_some_iff.1 hj).1
    rw [g_get hjl] at hj; injection hj with hj; subst hj
    exact ord_first hi.o j hjl

theorem dropq_ok {id key : Int} {K : World → Prop} (h : HeapA w p N L F) (hin : (id, key) ∈ L)
    (hk : ∀ w' F', Chg F w w' → (∀ k, F' k → F k ∨ w.heap.size ≤ k) → HeapA w' p N (rid L id) F' → K w') : Nn p (fun a => sh_heap_queue_drop (some (a.add 0)) id K w) := by
  obtain ⟨hb, s, t, es, pl, rfl, hi, rfl, hq, hF⟩ := h
  refine ⟨_, rfl, ?_⟩
  simp only [addm]
  refine drop_ok hi (hq.mem_iff.2 hin) fun w2 s2 es2 pl2 c2 hf2 i2 p2 q2 => ?_
  refine hk w2 (fun k => k = hb ∨ Go.Sh.hF s2 t k) (c2.mono fun i _ h => (hF i).2 h) (fun k hk => .inl ?_) ⟨hb, s2, t, es2, pl2, rfl, i2, p2, q2.trans (hq.filter _), fun k => Iff.rfl⟩
  rcases hk with hk | hk | hk
  · exact (hF k).2 (.inl hk)
  · exact (hF k).2 (.inr (.inl (hf2 k hk)))
  · exact (hF k).2 (.inr (.inr hk))

theorem Pop_no {K : Int → Int → Bool → World → Prop} (h : HeapA w p N [] F) (hk : K 0 0 false w) : sh_heap_Heap_Pop p K w := by
  unfold sh_heap_Heap_Pop
  refine First_no h ?_
  exact hk
theorem Pop_ok {K : Int → Int → Bool → World → Prop} (h : HeapA w p N L F) (hl : L ≠ [])
    (hk : ∀ m w' F', Least L m → Chg F w w' → (∀ k, F' k → F k ∨ w.heap.size ≤ k) → HeapA w' p N (rid L m.1) F' → K m.1 m.2 true w') : sh_heap_Heap_Pop p K w := by
  unfold sh_heap_Heap_Pop
  refine First_ok h hl fun m w1 hm e1 => ?_
  unfold Join
  simp only [cond_true]
  refine dropq_ok (h.ext e1) (id := m.1) (key := m.2) hm.1 fun w2 F2 c2 f2 h2 => ?_
  exact hk m w2 F2 hm ((Chg.of_ext e1).trans c2 fun _ _ h => h) (fun k hk => (f2 k hk).imp (fun h => h) (fun h => Nat.le_trans e1.size h)) h2

theorem Key_ok {id : Int} {K : Int → Bool → World → Prop} (h : HeapA w p N L F) (h1 : ∀ key, (id, key) ∈ L → ∀ w', Ext w w' → K key true w') (h2 : (∀ key, (id, key) ∉ L) → K 0 false w) : sh_heap_Heap_Key p id K w := by
  unfold sh_heap_Heap_Key
  refine may_ok h ?_
  by_cases hr : 0 ≤ id ∧ id.toNat < N
  · rw [decide_eq_true hr]
    simp only [Bool.not_true, cond_false]
    obtain ⟨h0, hd⟩ := hr
    obtain ⟨hb, s, t, es, pl, rfl, hi, rfl, hq, hF⟩ := h
    have hpd := List.getElem?_eq_getElem hd
    refine ⟨_, rfl, t, by simp only [addm]; exact hi.m.s1, hi.m.plc h0 hd fun a ha => ⟨_, ha, ?_⟩⟩
    rcases hi.b.b id.toNat _ hpd with hz | ⟨hv1, e, he, hed⟩
    · rw [hz]
      refine h2 fun key hin => ?_
      obtain ⟨i, _, _, hp⟩ := hi.b.place (hq.mem_iff.2 hin)
      simp only at hp
      rw [hpd, hz] at hp; injection hp with hp; omega
    · rw [show (pl[id.toNat] == 0) = false by simp; omega]
      simp only [cond_false]
      have hel := (List.getElem?_eq_some_iff.1 he).1
      have hle := hi.b.len
      have hn := hi.n
      obtain ⟨_, hp⟩ := hi.b.a _ e he
      have hei : e.1 = id := by have := (hi.b.a _ e he).1; omega
      refine ⟨_, rfl, s, by simp only [addm]; exact hi.m.s0, _, rfl, t, by simp only [addm]; exact hi.m.s1, hi.m.plc h0 hd fun a ha => ⟨_, ha, ?_⟩⟩
      have hw : IntKind.i64.wrap (pl[id.toNat] - 1) = pl[id.toNat] - 1 := w64 (by omega) (by omega)
      rw [hw]
      refine hi.m.ent (by omega) hel fun a _ ha1 => ⟨_, ha1, fun w15 e15 => ?_⟩
      rw [g_of he]
      refine h1 e.2 (hq.mem_iff.1 ?_) w15 e15
      rw [← hei]; exact List.mem_iff_getElem?.2 ⟨_, he⟩
  · rw [decide_eq_false hr]
    exact h2 fun key hin => hr (h.range hin)

end
end Go.Sh

/- The nearest first: from a place on, by edges. -/
set_option maxRecDepth 100000
namespace Go.Sh
open Go.RowKit

/-- They lead to places, and are not too long. -/
structure EdOk (n : Nat) (M : Int) (ed : Nat → List (Int × Int × Int)) : Prop where
  m : 0 ≤ M
  b : (n : Int) * M < 2 ^ 62
  nn : n ≤ 16777216
  e : ∀ u, u < n → ∀ e ∈ ed u, 0 ≤ e.1 ∧ e.1 < n ∧ 0 ≤ e.2.1 ∧ e.2.1 ≤ M
  l : ∀ u, u < n → (ed u).length < 2 ^ 40

theorem least_le {L : List (Int × Int)} {m : Int × Int} (h : Least L m) : m ∈ L ∧ ∀ y ∈ L, m.2 ≤ y.2 := by
  refine ⟨h.1, fun y hy => ?_⟩
  have := h.2 y hy
  unfold eLt at this; simp at this; omega
theorem rid_mem {L : List (Int × Int)} {id : Int} {e : Int × Int} : e ∈ rid L id ↔ e ∈ L ∧ e.1 ≠ id := by
  unfold rid; rw [List.mem_filter]; simp

end Go.Sh

/- A stable counting sort, in plain lists; arrays told by functions. -/
set_option maxRecDepth 100000
namespace Go.Sh
open Go.RowKit

def sortedL (n : Nat) (l : List Nat) (e : Nat → Nat) : List Nat := (List.range n).flatMap fun v => l.filter (e · == v)
def pre (l : List Nat) (e : Nat → Nat) (v : Nat) : Nat := (sortedL v l e).length

end Go.Sh

/- Maps and what of them counts, in plain lists. -/
set_option maxRecDepth 100000
namespace Go.Sh
open Go.RowKit

abbrev Arc := Int × Int × Int
def arcA (arcs : List Arc) (k : Nat) : Arc := arcs.getD k (0, 0, 0)
def frA (arcs : List Arc) (k : Nat) : Nat := (arcA arcs k).1.toNat
def toA (arcs : List Arc) (k : Nat) : Nat := (arcA arcs k).2.1.toNat
def wtA (arcs : List Arc) (k : Nat) : Int := (arcA arcs k).2.2
section
variable {n : Int} {arcs : List Arc}
end

/-- The same ends. -/
def Same (arcs : List Arc) (i k : Nat) : Prop := frA arcs i = frA arcs k ∧ toA arcs i = toA arcs k
/-- One arc is less. -/
def Less (arcs : List Arc) (i k : Nat) : Prop := wtA arcs i < wtA arcs k ∨ wtA arcs i = wtA arcs k ∧ i < k
instance (arcs : List Arc) (i k : Nat) : Decidable (Same arcs i k) := by unfold Same; infer_instance
instance (arcs : List Arc) (i k : Nat) : Decidable (Less arcs i k) := by unfold Less; infer_instance
/-- It counts. -/
def Kept (arcs : List Arc) (k : Nat) : Prop := frA arcs k ≠ toA arcs k ∧ ∀ i, i < arcs.length → Same arcs i k → ¬ Less arcs i k
instance (arcs : List Arc) (k : Nat) : Decidable (Kept arcs k) := by unfold Kept; infer_instance
end Go.Sh

/- The graph's counting sort. -/
set_option maxRecDepth 100000
namespace Go.Sh
open Go.RowKit

end Go.Sh

/- The graph's inner functions. -/
set_option maxRecDepth 100000
namespace Go.Sh
open Go.RowKit

def bl (n : Nat) (c : Nat → Bool) : List Bool := (List.range n).map c
section
variable {w : World} {s : SV} {arcs : List Arc} {N : Int}

end

end Go.Sh

/- The graph's sides, and which arcs count, as they are laid. -/
set_option maxRecDepth 100000
namespace Go.Sh
open Go.RowKit

end Go.Sh

/- A graph in memory; New and Kept. -/
set_option maxRecDepth 100000
namespace Go.Sh
open Go.RowKit

def gF (gb : Nat) (sA f1 e1 f2 e2 sc : SV) (k : Nat) : Prop := k = gb ∨ sA.blk k ∨ f1.blk k ∨ e1.blk k ∨ f2.blk k ∨ e2.blk k ∨ sc.blk k
section
variable {w w' : World} {p : Option Addr} {N : Int} {arcs : List Arc} {F : Nat → Prop}
end

section
variable {w0 w w' : World} {b1 b11 D : Nat} {s5 s9 : SV} {n : Nat} {arcs : List Arc} {c : Nat → Bool}
end

end Go.Sh

/- The graph's methods. -/
set_option maxRecDepth 100000
namespace Go.Sh
open Go.RowKit

section
variable {w w' : World} {p : Option Addr} {N : Int} {arcs : List Arc} {F : Nat → Prop}

end
end Go.Sh

/- What the laws of the graph lean on. -/
set_option maxRecDepth 100000
namespace Go.Sh
open Go.RowKit

section
variable {w : World}

theorem sameI_ok {a b : SV} {xs : List Int} {K : Bool → World → Prop} (ha : View RI w a xs) (hb : View RI w b xs) (hn : xs.length < 2 ^ 40) (hk : ∀ w', Ext w w' → K true w') : sh_postroadref00_SameInts a b K w := by
  unfold sh_postroadref00_SameInts
  have la := ha.len; have lb := hb.len
  rw [show ((a.len : Int) != (b.len : Int)) = false by rw [bne_eq_false_iff_eq]; omega, cond_false]
  refine LoopT.gh (γ := Nat) (fun i (st : Int × Unit) w' => st.1 = i ∧ i ≤ xs.length ∧ Ext w w') (fun i => xs.length - i) 0 ⟨rfl, Nat.zero_le _, .refl _⟩ ?_
  rintro i ⟨x, _⟩ w3 ⟨hx, hi, e3⟩ J1 hJ1
  simp only at hx; subst hx
  rw [Bool.cond_decide]
  by_cases hc : (i : Int) < (a.len : Int)
  · rw [if_pos hc]
    have hi' : i < xs.length := by omega
    refine int_idx (ha.ext e3) hi' fun _ a0 => ⟨_, a0, ?_⟩
    refine int_idx (hb.ext e3) hi' fun _ a0 => ⟨_, a0, ?_⟩
    intro w12 e12
    rw [bne_self_eq_false, cond_false]
    exact hJ1 (i + 1) _ _ ⟨wsucc (m := 2 ^ 40) (by omega) (by omega), by omega, e3.trans e12⟩ (by omega)
  · rw [if_neg hc]; exact hk w3 e3
end
end Go.Sh

/- GraphTurned. -/
set_option maxRecDepth 100000
namespace Go.Sh
open Go.RowKit

end Go.Sh

/- GraphLoops. -/
set_option maxRecDepth 100000
namespace Go.Sh
open Go.RowKit

end Go.Sh

/- GraphLeast. -/
set_option maxRecDepth 100000
namespace Go.Sh
open Go.RowKit

end Go.Sh

/- Places are taken one by one; ways stand in for what goes through them: in plain lists. -/
set_option maxRecDepth 100000
namespace Go.Sh

section
variable {E : Nat → Nat → Int → Prop} {arcs : List (Int × Int × Int)} {n k : Nat} {B : Int} {L H N L1 : List Wy} {r : Nat → Int} {v : Nat}

end
end Go.Sh

/- When all places are taken: the hierarchy may be, and is as far as the map. -/
set_option maxRecDepth 100000
namespace Go.Sh

/-- A map's edges: its arcs. -/
def EA (arcs : List (Int × Int × Int)) (u v : Nat) (x : Int) : Prop := ∃ k : Nat, arcs[k]? = some ((u : Int), (v : Int), x)
end Go.Sh

/- How far it is in a map, in plain words; the graph's edges tell the same. -/
set_option maxRecDepth 100000
namespace Go.Sh
open Go.RowKit

/-- How far it is by arcs; below 0: there is no way. -/
noncomputable def dst (arcs : List Arc) (s v : Nat) : Int := by
  classical exact if h : ∃ x, IsD (EA arcs) s v x then h.choose else -1

section
variable {N : Int} {arcs : List Arc}
end
end Go.Sh

/- No place is farther than all arcs together. -/
set_option maxRecDepth 100000
namespace Go.Sh
open Go.RowKit

end Go.Sh

/- dist's functions. -/
set_option maxRecDepth 100000
namespace Go.Sh
open Go.RowKit

section
variable {CV : CVT} {w : World} {p : Option Addr} {N : Int} {arcs : List Arc} {F : Nat → Prop}

end
end Go.Sh

/- The reference of layer 7, and what its laws lean on. -/
set_option maxRecDepth 100000
namespace Go.Sh
open Go.RowKit

section
variable {CV : CVT} {w : World} {N : Int} {s : SV} {arcs : List Arc}

end
end Go.Sh

/- What a way opens to, and how deep; in plain lists. -/
set_option maxRecDepth 100000
namespace Go.Sh
open Go.RowKit

/-- A way opens to these arcs, so deep, by so many openings. -/
inductive Opn (ways : List Wy) : Nat → List Int → Nat → Nat → Prop
  | arc {k : Nat} (hk : k < ways.length) (hm : yM ways[k] = -1) : Opn ways k [yA ways[k]] 1 1
  | mid {k a b : Nat} {l m : List Int} {d e s t : Nat} (hk : k < ways.length) (hm : yM ways[k] ≠ -1) (ha : findW ways (yF ways[k]) (yM ways[k]) = some a) (hb : findW ways (yM ways[k]) (yT ways[k]) = some b)
      (h1 : Opn ways a l d s) (h2 : Opn ways b m e t) : Opn ways k (l ++ m) (1 + max d e) (1 + s + t)
section
variable {rank : List Int} {ways : List Wy} {k : Nat} {l l' : List Int} {d d' s s' : Nat}
theorem Opn.lt (h : Opn ways k l d s) : k < ways.length := by cases h <;> assumption
theorem Opn.det (h : Opn ways k l d s) : ∀ {l' d' s'}, Opn ways k l' d' s' → l = l' ∧ d = d' ∧ s = s' := by
  induction h with
  | arc hk hm =>
    intro l' d' s' g
    cases g with
    | arc _ _ => exact ⟨rfl, rfl, rfl⟩
    | mid _ hm' _ _ _ _ => exact absurd hm hm'
  | mid hk hm ha hb h1 h2 i1 i2 =>
    intro l' d' s' g
    cases g with
    | arc _ hm' => exact absurd hm' hm
    | mid _ _ ga gb g1 g2 =>
      rw [ha] at ga; rw [hb] at gb
      injection ga with ga; injection gb with gb
      subst ga gb
      obtain ⟨rfl, rfl, rfl⟩ := i1 g1
      obtain ⟨rfl, rfl, rfl⟩ := i2 g2
      exact ⟨rfl, rfl, rfl⟩
theorem Opn.bd (h : Opn ways k l d s) : 1 ≤ l.length ∧ l.length ≤ s ∧ s + 1 ≤ 2 ^ d ∧ 1 ≤ d := by
  induction h with
  | arc hk hm => simp
  | @mid k a b l m d e s t hk hm ha hb h1 h2 i1 i2 =>
    obtain ⟨p1, p2, p3, p4⟩ := i1
    obtain ⟨q1, q2, q3, q4⟩ := i2
    refine ⟨by simp; omega, by simp; omega, ?_, by omega⟩
    have a1 : 2 ^ d ≤ 2 ^ max d e := Nat.pow_le_pow_right (by decide) (Nat.le_max_left _ _)
    have a2 : 2 ^ e ≤ 2 ^ max d e := Nat.pow_le_pow_right (by decide) (Nat.le_max_right _ _)
    rw [Nat.pow_add]; omega
theorem okW_mid (ok : OkH rank ways) (hk : k < ways.length) (hm : yM ways[k] ≠ -1) : 0 ≤ yM ways[k] ∧ yM ways[k] < rank.length ∧ rkA rank (yM ways[k]) < rkA rank (yF ways[k]) ∧ rkA rank (yM ways[k]) < rkA rank (yT ways[k]) ∧
    ∃ a b, findW ways (yF ways[k]) (yM ways[k]) = some a ∧ findW ways (yM ways[k]) (yT ways[k]) = some b ∧ wW ways a + wW ways b = yW ways[k] := by
  have := ok.w _ (List.getElem_mem hk)
  unfold OkW at this
  rw [if_neg hm] at this
  exact this.2
theorem rk_ge (ok : OkH rank ways) {v : Int} (h0 : 0 ≤ v) (h1 : v < rank.length) : 0 ≤ rkA rank v ∧ rkA rank v < rank.length := by
  obtain ⟨u, rfl⟩ := Int.eq_ofNat_of_zero_le h0
  have hu : u < rank.length := by omega
  rw [← rk_get hu]
  exact ok.r.1 _ (List.getElem_mem hu)
theorem Opn.ex' (ok : OkH rank ways) : ∀ (r : Nat) (k : Nat) (hk : k < ways.length), (rkA rank (yF ways[k]) ≤ r ∨ rkA rank (yT ways[k]) ≤ r) → ∃ l d s, Opn ways k l d s ∧ d ≤ r + 1 := by
  intro r
  induction r with
  | zero =>
    intro k hk hr
    by_cases hm : yM ways[k] = -1
    · exact ⟨_, _, _, .arc hk hm, by omega⟩
    · exfalso
      obtain ⟨m0, m1, m2, m3, _⟩ := okW_mid ok hk hm
      have := rk_ge ok m0 m1; omega
  | succ r ih =>
    intro k hk hr
    by_cases hm : yM ways[k] = -1
    · exact ⟨_, _, _, .arc hk hm, by omega⟩
    · obtain ⟨m0, m1, m2, m3, a, b, ha, hb, _⟩ := okW_mid ok hk hm
      obtain ⟨la, fa, ta, _⟩ := findW_some ha
      obtain ⟨lb, fb, tb, _⟩ := findW_some hb
      obtain ⟨l, d, s, h1, d1⟩ := ih a la (.inr (by rw [ta]; omega))
      obtain ⟨m, e, t, h2, d2⟩ := ih b lb (.inl (by rw [fb]; omega))
      exact ⟨_, _, _, .mid hk hm ha hb h1 h2, by omega⟩
theorem Opn.ex (ok : OkH rank ways) (hk : k < ways.length) : ∃ l d s, Opn ways k l d s ∧ d ≤ rank.length := by
  have hf := ok.f k hk
  unfold OkF at hf
  have := rk_ge ok (v := yF ways[k]) hf.2.2.1 (by omega)
  obtain ⟨l, d, s, h, hd⟩ := Opn.ex' ok (rkA rank (yF ways[k])).toNat k hk (.inl (by omega))
  exact ⟨l, d, s, h, by omega⟩
/-- What a way opens to; nothing, if there is none. -/
noncomputable def opnF (ways : List Wy) (k : Int) : List Int := by
  classical exact if h : 0 ≤ k ∧ ∃ l d s, Opn ways k.toNat l d s then h.2.choose else []
noncomputable def deepF (ways : List Wy) (k : Int) : Int := by
  classical exact if h : 0 ≤ k ∧ ∃ d l s, Opn ways k.toNat l d s then ((h.2.choose : Nat) : Int) else 0
theorem opnF_of (h : Opn ways k l d s) : opnF ways (k : Int) = l := by
  unfold opnF
  have hx : 0 ≤ (k : Int) ∧ ∃ l d s, Opn ways (k : Int).toNat l d s := ⟨by omega, l, d, s, h⟩
  rw [dif_pos hx]
  obtain ⟨d', s', h'⟩ := hx.2.choose_spec
  exact (Opn.det h' h).1
theorem deepF_of (h : Opn ways k l d s) : deepF ways (k : Int) = (d : Int) := by
  unfold deepF
  have hx : 0 ≤ (k : Int) ∧ ∃ d l s, Opn ways (k : Int).toNat l d s := ⟨by omega, d, l, s, h⟩
  rw [dif_pos hx]
  obtain ⟨l', s', h'⟩ := hx.2.choose_spec
  rw [(Opn.det h' h).2.1]
theorem opnF_no {k : Int} (h : ¬ (0 ≤ k ∧ k < (ways.length : Int))) : opnF ways k = [] := by
  unfold opnF
  rw [dif_neg]
  rintro ⟨h0, l, d, s, ho⟩
  exact h ⟨h0, by have := ho.lt; omega⟩
theorem deepF_no {k : Int} (h : ¬ (0 ≤ k ∧ k < (ways.length : Int))) : deepF ways k = 0 := by
  unfold deepF
  rw [dif_neg]
  rintro ⟨h0, d, l, s, ho⟩
  exact h ⟨h0, by have := ho.lt; omega⟩

end
end Go.Sh

/- hier's check. -/
set_option maxRecDepth 100000
namespace Go.Sh
open Go.RowKit

theorem MapIs.same {ag : Bool} {n b : Nat} {w w' : World} {m : List (List Int × Value)} (h : MapIs ag n w b m) (e : w'.heap[b]? = w.heap[b]?) : MapIs ag n w' b m := by
  obtain ⟨es, c, h1, h2⟩ := h
  exact ⟨es, c, by rw [e]; exact h1, h2⟩
theorem MapIs.lt {ag : Bool} {n b : Nat} {w : World} {m : List (List Int × Value)} (h : MapIs ag n w b m) : b < w.heap.size := by
  obtain ⟨es, c, h1, _⟩ := h
  exact (Array.getElem?_eq_some_iff.1 h1).1
theorem MapIs.grow {ag : Bool} {n b : Nat} {w w' : World} {m : List (List Int × Value)} (h : MapIs ag n w b m) (e : Ext w w') : MapIs ag n w' b m := h.same (e.blk h.lt)
theorem MapIs.nil {ag : Bool} {n b : Nat} {w : World} (h : w.heap[b]? = some (.map #[] 0)) : MapIs ag n w b [] :=
  ⟨#[], 0, h, rfl, fun p hp => by simp at hp, List.nodup_nil, fun e he => by simp at he, List.nodup_nil⟩

section
variable {w : World} {sr sy : SV} {rank : List Int} {ways : List Wy}

theorem nodup_snoc {α : Type} {l : List α} {x : α} : (l ++ [x]).Nodup ↔ l.Nodup ∧ x ∉ l := by
  rw [List.nodup_append]
  constructor
  · rintro ⟨h1, _, h3⟩; exact ⟨h1, fun hx => h3 x hx x (by simp) rfl⟩
  · rintro ⟨h1, h2⟩; exact ⟨h1, by simp, fun a ha b hb e => by simp at hb; subst hb; subst e; exact h2 ha⟩

/-- The places of the ranks. -/
def Placed (rank : List Int) (g : Nat → Int) : Prop := ∀ v (h : v < rank.length), g rank[v].toNat = (v : Int)

theorem placed_ok {K : SV → Bool → World → Prop} (h : View RI w sr rank) (hn : rank.length < 2 ^ 40)
    (h1 : OkR rank → ∀ s g w', Ext w w' → Own RI w' s (fi rank.length g) → Placed rank g → Fsh w s → K s true w') (h2 : ¬ OkR rank → ∀ w', Ext w w' → K ⟨none, 0, 0⟩ false w') : sh_hier_placed sr K w := by
  unfold sh_hier_placed
  have hl := h.len
  rw [hl]
  refine own_mk (R := RI) (bytes := 8) (by omega) (by omega) (by omega) fun s1 w2 e2 g1 hO => ?_
  simp only [Int.toNat_natCast] at hO
  rw [show RI.z = (0 : Int) from rfl, fi_rep] at hO
  have l1 := hO.view.len
  rw [fi_len] at l1
  refine Join.cut (fun _ w' => Ext w w' ∧ Own RI w' s1 (fi rank.length fun _ => -1)) (fun J hJ => ?_) ?_
  · refine LoopT.gh (γ := Nat) (fun i (st : Int × Unit) w' => st.1 = i ∧ i ≤ rank.length ∧ Ext w w' ∧ Own RI w' s1 (fi rank.length fun j => if j < i then -1 else 0)) (fun i => rank.length - i) 0 ⟨rfl, Nat.zero_le _, e2, (congrArg (Own RI w2 s1) (fi_congr fun j _ => by rw [if_neg (by omega)])).mp hO⟩ ?_
    rintro i ⟨x, _⟩ w6 ⟨hx, hi, e6, hO6⟩ J1 hJ1
    simp only at hx; subst hx
    dsimp only
    rw [Bool.cond_decide]
    by_cases hc : (i : Int) < (s1.len : Int)
    · rw [if_pos hc]
      refine fi_wr hO6 (by omega) fun a put => ?_
      refine put w6 _ _ hO6 fun w8 c8 hO8 => ?_
      refine hJ1 (i + 1) _ _ ⟨wsucc (m := 2 ^ 40) (by omega) (by omega), by omega, ext_chg e6 c8 g1, (congrArg (Own RI w8 s1) (fi_congr fun j _ => ?_)).mp hO8⟩ (by omega)
      by_cases hj : j = i
      · subst hj; rw [if_pos rfl, if_pos (by omega)]
      · rw [if_neg hj]
        by_cases hj2 : j < i
        · rw [if_pos hj2, if_pos (by omega)]
        · rw [if_neg hj2, if_neg (by omega)]
    · rw [if_neg hc]
      exact hJ _ _ ⟨e6, (congrArg (Own RI w6 s1) (fi_congr fun j hj => by rw [if_pos (by omega)])).mp hO6⟩
  rintro _ w10 ⟨e10, hO10⟩
  refine Join.cut (fun _ w' => Ext w w' ∧ OkR rank ∧ ∃ g, Own RI w' s1 (fi rank.length g) ∧ Placed rank g) (fun J hJ => ?_) (fun _ w22 ⟨e22, ok, g, hOg, hg⟩ => h1 ok s1 g w22 e22 hOg hg g1)
  refine LoopT.gh (γ := Nat × (Nat → Int)) (fun gh (st : Int × Unit) w' => st.1 = gh.1 ∧ gh.1 ≤ rank.length ∧ Ext w w' ∧ Own RI w' s1 (fi rank.length gh.2) ∧ (∀ r ∈ rank.take gh.1, 0 ≤ r ∧ r < rank.length) ∧ (rank.take gh.1).Nodup ∧
      (∀ v (hv : v < gh.1) (hv2 : v < rank.length), gh.2 rank[v].toNat = (v : Int)) ∧ (∀ r, gh.2 r ≠ -1 → ∃ v, ∃ hv2 : v < rank.length, v < gh.1 ∧ rank[v].toNat = r)) (fun gh => rank.length - gh.1) (0, fun _ => -1)
    ⟨rfl, Nat.zero_le _, e10, hO10, fun r hr => by simp at hr, by simp, fun v hv => by omega, fun r hr => absurd rfl hr⟩ ?_
  rintro ⟨i, g⟩ ⟨x, _⟩ w14 ⟨hx, hi, e14, hO14, hr, hnd, hg1, hg2⟩ J1 hJ1
  simp only at hx hi hO14 hr hnd hg1 hg2; subst hx
  dsimp only
  rw [Bool.cond_decide]
  by_cases hc : (i : Int) < (rank.length : Int)
  · rw [if_pos hc, ← hl]
    have hi' : i < rank.length := by omega
    refine int_idx (h.ext e14) hi' fun a ha => ⟨_, ha, ?_⟩
    have hmem : rank[i] ∈ rank := List.getElem_mem hi'
    rw [Bool.cond_decide]
    split
    · rename_i hneg; exact h2 (fun ok => by have := (ok.1 _ hmem).1; omega) _ e14
    rename_i hneg
    rw [Bool.cond_decide]
    split
    · rename_i hbig; exact h2 (fun ok => by have := (ok.1 _ hmem).2; omega) _ e14
    rename_i hbig
    obtain ⟨r, hr0⟩ := Int.eq_ofNat_of_zero_le (show 0 ≤ rank[i] by omega)
    rw [hr0]
    refine fi_rd hO14.view (by omega) fun a ha => ⟨_, ha, ?_⟩
    by_cases hgr : g r = -1
    · rw [show (g r != -1) = false by simpa using hgr, cond_false]
      refine fi_wr hO14 (by omega) fun a put => ?_
      refine put w14 _ _ hO14 fun w20 c20 hO20 => ?_
      have hnotin : rank[i] ∉ rank.take i := fun hin => by
        obtain ⟨v, hv, hve⟩ := List.getElem_of_mem hin
        rw [List.length_take] at hv
        rw [List.getElem_take] at hve
        have := hg1 v (by omega) (by omega)
        rw [hve, hr0, Int.toNat_natCast, hgr] at this; omega
      refine hJ1 (i + 1, _) _ _ ⟨wsucc (m := 2 ^ 40) (by omega) (by omega), by simp only; omega, ext_chg e14 c20 g1, hO20, ?_, ?_, fun v hv hv2 => ?_, fun r' hr' => ?_⟩ (by simp only; omega)
      · intro x hx
        simp only at hx
        rw [take_snoc' hi'] at hx
        rcases List.mem_append.1 hx with hx | hx
        · exact hr x hx
        · simp only [List.mem_singleton] at hx; subst hx; omega
      · simp only
        rw [take_snoc' hi', nodup_snoc]; exact ⟨hnd, hnotin⟩
      · change (if rank[v].toNat = r then (i : Int) else g rank[v].toNat) = (v : Int)
        have hv : v < i + 1 := hv
        by_cases hvi : v = i
        · subst hvi
          have he : rank[v].toNat = r := by rw [hr0]; simp
          rw [if_pos he]
        · have hlt : v < i := by omega
          have hne : rank[v].toNat ≠ r := fun e => by
            have := hg1 v hlt hv2
            rw [e, hgr] at this; omega
          rw [if_neg hne]; exact hg1 v hlt hv2
      · change (if r' = r then (i : Int) else g r') ≠ -1 at hr'
        show ∃ v, ∃ hv2 : v < rank.length, v < i + 1 ∧ rank[v].toNat = r'
        by_cases hrr : r' = r
        · exact ⟨i, hi', by omega, by rw [hr0, hrr]; simp⟩
        · rw [if_neg hrr] at hr'
          obtain ⟨v, hv2, hv, he⟩ := hg2 r' hr'
          exact ⟨v, hv2, by omega, he⟩
    · rw [show (g r != -1) = true by simpa using hgr, cond_true]
      obtain ⟨v, hv2, hv, he⟩ := hg2 r hgr
      refine h2 (fun ok => ?_) _ e14
      have hrv := (ok.1 _ (List.getElem_mem hv2)).1
      have heq : rank[v] = rank[i] := by rw [hr0]; omega
      have := (List.getElem_inj (h₀ := hv2) (h₁ := hi') ok.2).1 heq
      omega
  · rw [if_neg hc]
    have : i = rank.length := by omega
    subst this
    rw [List.take_length] at hr hnd
    exact hJ _ _ ⟨e14, ⟨hr, hnd⟩, g, hO14, fun v hv => hg1 v hv hv⟩

theorem found_ok {K : Option Nat → Bool → World → Prop} (hlr : sr.len = rank.length) (h : View RW w sy ways) (hn : ways.length < 2 ^ 40)
    (h1 : OkFs rank.length ways → ∀ r mm w', Ext w w' → MapIs true 2 w' r mm → MapOk mm ways → w.heap.size ≤ r → K (some r) true w') (h2 : ¬ OkFs rank.length ways → ∀ w', Ext w w' → K none false w') : sh_hier_found sr sy K w := by
  unfold sh_hier_found
  intro b1 w2 e2 g1 g1'
  have hl := h.len
  have z2 := e2.size
  intro r w4 e4 hr hm
  have z4 := e4.size
  refine Join.cut (fun _ w' => Ext w w' ∧ OkFs rank.length ways ∧ ∃ mm, MapIs true 2 w' r mm ∧ MapOk mm ways) (fun J hJ => ?_) (fun _ w25 ⟨e25, ok, mm, hM, hMo⟩ => h1 ok r mm w25 e25 hM hMo (by omega))
  refine LoopT.gh (γ := Nat) (fun i (st : Int × Unit) w' => st.1 = i ∧ i ≤ ways.length ∧ Ext w w' ∧ w4.heap.size ≤ w'.heap.size ∧ OkFs rank.length (ways.take i) ∧ ∃ mm, MapIs true 2 w' r mm ∧ MapOk mm (ways.take i)) (fun i => ways.length - i) 0
    ⟨rfl, Nat.zero_le _, e2.trans e4, Nat.le_refl _, fun i hi => by simp at hi, [], MapIs.nil hm, MapOk.nil⟩ ?_
  rintro i ⟨x, _⟩ w8 ⟨hx, hi, e8, z8, ok, mm, hM, hMo⟩ J1 hJ1
  simp only at hx; subst hx
  dsimp only
  rw [Bool.cond_decide]
  by_cases hc : (i : Int) < (sy.len : Int)
  · rw [if_pos hc]
    have hi' : i < ways.length := by omega
    refine way_idx (h.ext e8) hi' fun a _ a0 a1 a2 a3 a4 => ⟨_, a0, _, a1, _, a2, _, a3, _, a4, ?_⟩
    generalize hy : ways[i] = y
    intro b15 w16 e16 g15 g15' w17 o17
    have z16 := e16.size; have z17 := o17.size
    have e17 : Ext w w17 := ext_off (e8.trans e16) o17 (by have := e8.size; omega)
    have hM17 : MapIs true 2 w17 r mm := (hM.grow e16).same (o17.block r (by have := hM.lt; omega))
    have bad : ¬ OkF rank.length (ways.take i) y → K none false w17 := fun hno => h2 (fun okf => hno (by rw [← hy]; exact okf i hi')) w17 e17
    have hlk := hMo (yF y) (yT y)
    refine Join.cut (fun _ w' => w' = w17 ∧ OkF rank.length (ways.take i) y) (fun J2 hJ2 => ?_) ?_
    · refine ⟨mm, hM17, (match findW (ways.take i) (yF y) (yT y) with | some k => (k : Int) | none => 0), by rw [hlk]; cases findW (ways.take i) (yF y) (yT y) <;> rfl, ?_⟩
      rw [hlk]
      cases hf : findW (ways.take i) (yF y) (yT y) with
      | some k =>
        simp only [Option.map_some, Option.isSome_some, cond_true]
        exact bad fun o => by rw [o.1] at hf; cases hf
      | none =>
        simp only [Option.map_none, Option.isSome_none, cond_false, min3, max2]
        by_cases c1 : yF y = yT y
        · rw [show (yF y == yT y) = true by simpa using c1, cond_true, cond_true]
          exact bad fun o => o.2.1 c1
        rw [show (yF y == yT y) = false by simpa using c1, cond_false, Bool.cond_decide]
        by_cases c2 : yF y < 0 ∨ yT y < 0 ∨ yW y < 0
        · rw [if_pos c2, decide_eq_true c2, cond_true]
          exact bad fun o => by unfold OkF at o; omega
        rw [if_neg c2, Bool.cond_decide]
        by_cases c3 : yF y ≥ (sr.len : Int) ∨ yT y ≥ (sr.len : Int)
        · rw [if_pos c3, decide_eq_true c3, cond_true]
          exact bad fun o => by unfold OkF at o; omega
        rw [if_neg c3, Bool.cond_decide]
        by_cases c4 : yW y > 1152921504606846976
        · rw [if_pos c4]
          exact bad fun o => by unfold OkF at o; omega
        rw [if_neg c4]
        exact hJ2 _ _ ⟨rfl, hf, c1, by omega, by omega, by omega, by omega, by omega, by omega⟩
    rintro _ w22 ⟨rfl, hok⟩
    refine ⟨r, rfl, mm, hM17, fun w23 o23 hM23 => ⟨?_, ?_⟩⟩
    · intro c hc
      simp only [List.mem_cons, List.not_mem_nil, or_false] at hc
      have := hM.lt
      exact o23.block c (by omega)
    have z23 := o23.size
    refine hJ1 (i + 1) _ _ ⟨wsucc (m := 2 ^ 40) (by omega) (by omega), by omega, ext_off e17 o23 (by omega), by omega, ?_, _, hM23, ?_⟩ (by omega)
    · intro j hj
      rw [List.length_take] at hj
      rw [List.getElem_take, List.take_take, Nat.min_eq_left (by omega)]
      by_cases hji : j = i
      · subst hji; rw [hy]; exact hok
      · have := ok j (by rw [List.length_take]; omega)
        rw [List.getElem_take, List.take_take, Nat.min_eq_left (by omega)] at this
        exact this
    · have := hMo.step hok.1
      rw [List.length_take, Nat.min_eq_left (by omega)] at this
      rw [take_snoc' hi', hy]; exact this
  · rw [if_neg hc]
    have : i = ways.length := by omega
    subst this
    rw [List.take_length] at ok hMo
    exact hJ _ _ ⟨e8, ok, mm, hM, hMo⟩

def gN : Option Nat → Int | none => 0 | some k => (k : Int)
theorem halves_ok {r : Nat} {mm : List (List Int × Value)} {f t wd m ar : Int} {K : Int → Int → Bool → World → Prop} (hM : MapIs true 2 w r mm) (hMo : MapOk mm ways)
    (hk : ∀ w', Ext w w' → K (gN (findW ways f m)) (gN (findW ways m t)) ((findW ways f m).isSome && (findW ways m t).isSome) w') : sh_hier_halves sr sy (some r) f t wd m ar K w := by
  unfold sh_hier_halves
  intro b1 w2 e2 _ _ b3 w4 e4 _ _
  have e := e2.trans e4
  have h1 := hMo f m
  have h2 := hMo m t
  refine ⟨mm, hM.grow e, gN (findW ways f m), by rw [h1]; cases findW ways f m <;> rfl, mm, hM.grow e, gN (findW ways m t), by rw [h2]; cases findW ways m t <;> rfl, ?_⟩
  rw [h1, h2]
  have := hk w4 e
  cases h3 : findW ways f m with
  | none => rw [h3] at this; exact this
  | some k =>
    rw [h3] at this
    simp only [Option.map_some, Option.isSome_some, cond_true, Option.isSome_map, Bool.true_and] at this ⊢
    exact this

theorem wW_get {k : Nat} (h : k < ways.length) : yW ways[k] = wW ways k := by
  unfold wW; rw [List.getD_eq_getElem?_getD, List.getElem?_eq_getElem h]; rfl

theorem right_ok {r : Nat} {mm : List (List Int × Value)} {y : Wy} {K : Bool → World → Prop} (hr : View RI w sr rank) (hy : View RW w sy ways) (hM : MapIs true 2 w r mm) (hMo : MapOk mm ways) (okf : OkFs rank.length ways) (hmem : y ∈ ways)
    (hk : ∀ b w', Ext w w' → (b = true ↔ OkW rank ways y) → K b w') : sh_hier_right sr sy (some r) (yF y) (yT y) (yW y) (yM y) (yA y) K w := by
  unfold sh_hier_right
  intro b1 w2 e2 g1 g1' b3 w4 e4 g3 g3'
  have z2 := e2.size; have z4 := e4.size
  have e := e2.trans e4
  have hl := hr.len
  obtain ⟨i, hi, hyi⟩ := List.getElem_of_mem hmem
  have oky := okf i hi
  rw [hyi] at oky
  obtain ⟨_, _, f0, t0, f1, t1, _, _⟩ := oky
  by_cases hm : yM y = -1
  · rw [show (yM y == -1) = true by simpa using hm, cond_true, Bool.cond_decide]
    have hW : OkW rank ways y ↔ (0 ≤ yA y ∧ yA y < 67108864) := by unfold OkW; rw [if_pos hm]
    split
    · rename_i ha; exact hk _ _ e (by rw [hW, decide_eq_true_iff]; omega)
    · rename_i ha; exact hk _ _ e ⟨fun h => (by cases h), fun h => absurd (hW.1 h).1 (by omega)⟩
  rw [show (yM y == -1) = false by simpa using hm, cond_false]
  have hW : OkW rank ways y ↔ (yA y = -1 ∧ 0 ≤ yM y ∧ yM y < rank.length ∧ rkA rank (yM y) < rkA rank (yF y) ∧ rkA rank (yM y) < rkA rank (yT y) ∧
    ∃ a b, findW ways (yF y) (yM y) = some a ∧ findW ways (yM y) (yT y) = some b ∧ wW ways a + wW ways b = yW y) := by unfold OkW; rw [if_neg hm]
  have no : ¬ OkW rank ways y → ∀ w5, Ext w4 w5 → K false w5 := fun hno w5 e5 => hk _ _ (e.trans e5) ⟨fun h => (by cases h), fun h => absurd h hno⟩
  by_cases ha : yA y ≠ -1
  · rw [show (yA y != -1) = true by simpa using ha, cond_true]
    exact no fun h => ha (hW.1 h).1
  have ha : yA y = -1 := by omega
  rw [show (yA y != -1) = false by simpa using ha, cond_false, Bool.cond_decide]
  split
  · exact no fun h => by have := (hW.1 h).2.1; omega
  rw [Bool.cond_decide]
  split
  · exact no fun h => by have := (hW.1 h).2.2.1; omega
  rename_i hm0 hm1
  obtain ⟨m, hmm⟩ := Int.eq_ofNat_of_zero_le (show 0 ≤ yM y by omega)
  obtain ⟨f, hff⟩ := Int.eq_ofNat_of_zero_le f0
  obtain ⟨t, htt⟩ := Int.eq_ofNat_of_zero_le t0
  have hr4 := hr.ext e
  rw [hmm, hff, htt]
  refine int_idx hr4 (by omega) fun _ q => ⟨_, q, ?_⟩
  refine int_idx hr4 (by omega) fun _ q => ⟨_, q, ?_⟩
  refine int_idx hr4 (by omega) fun _ q => ⟨_, q, ?_⟩
  rw [rk_get (show m < rank.length by omega), rk_get (show f < rank.length by omega), rk_get (show t < rank.length by omega), ← hmm, ← hff, ← htt]
  intro w14 e14
  have z14 := e14.size
  simp only [min2]
  rw [Bool.cond_decide]
  split
  · rename_i hlt
    refine no (fun h => ?_) _ e14
    obtain ⟨_, _, _, h4, h5, _⟩ := hW.1 h
    omega
  rename_i hlt
  have hlt2 : rkA rank (yM y) < rkA rank (yF y) ∧ rkA rank (yM y) < rkA rank (yT y) := by omega
  have e014 := e.trans e14
  refine halves_ok (hM.grow e014) hMo fun w18 e18 => ⟨kp_ext e18 (by (intro b hb; simp only [List.mem_cons, List.not_mem_nil, or_false] at hb; omega)), ?_⟩
  have e018 := e14.trans e18
  cases h1 : findW ways (yF y) (yM y) with
  | none =>
    simp only [Option.isSome_none, Bool.false_and, cond_false]
    intro w24 e24
    exact no (fun h => by obtain ⟨_, _, _, _, _, a, b, q1, _, _⟩ := hW.1 h; rw [h1] at q1; cases q1) _ (e018.trans e24)
  | some a =>
    cases h2 : findW ways (yM y) (yT y) with
    | none =>
      simp only [Option.isSome_none, Bool.and_false, cond_false]
      intro w24 e24
      exact no (fun h => by obtain ⟨_, _, _, _, _, a, b, _, q2, _⟩ := hW.1 h; rw [h2] at q2; cases q2) _ (e018.trans e24)
    | some b =>
      simp only [Option.isSome_some, Bool.and_self, cond_true, gN]
      obtain ⟨hka, _, _, _⟩ := findW_some h1
      obtain ⟨hkb, _, _, _⟩ := findW_some h2
      have hy18 := hy.ext (e.trans e018)
      have wa := okf a hka; have wb := okf b hkb
      unfold OkF at wa wb
      refine way_idx hy18 hka fun q hq _ _ q2 _ _ => ⟨yW ways[a], ?_, ?_⟩
      · rw [add_add _ hq] at q2 ⊢; rw [addm]; exact q2
      refine way_idx hy18 hkb fun q hq _ _ q2 _ _ => ⟨yW ways[b], ?_, ?_⟩
      · rw [add_add _ hq] at q2 ⊢; rw [addm]; exact q2
      intro w23 e23
      refine hk _ _ (e.trans (e018.trans e23)) ?_
      rw [w64 (by omega) (by omega), beq_iff_eq, hW, wW_get hka, wW_get hkb]
      constructor
      · intro hs; exact ⟨ha, by omega, by omega, hlt2.1, hlt2.2, a, b, h1, h2, hs⟩
      · rintro ⟨_, _, _, _, _, a', b', q1, q2, hs⟩
        rw [h1] at q1; rw [h2] at q2
        injection q1 with q1; injection q2 with q2
        subst q1 q2; exact hs

/-- Neither is too long. -/
def OkL (rank : List Int) (ways : List Wy) : Prop := rank.length ≤ 16777216 ∧ ways.length ≤ 67108864

/-- What check has laid. -/
structure ChkM (w0 w : World) (hb : Nat) (sr sy s3 : SV) (r : Nat) (rank : List Int) (ways : List Wy) (g : Nat → Int) (mm : List (List Int × Value)) : Prop where
  hd : Blk w hb [.slice sr.a sr.len sr.cap, .slice sy.a sy.len sy.cap, .slice s3.a s3.len s3.cap, .map (some r), .slice none 0 0, .slice none 0 0]
  at_ : Own RI w s3 (fi rank.length g)
  pl : Placed rank g
  m : MapIs true 2 w r mm
  mo : MapOk mm ways
  ghb : w0.heap.size ≤ hb
  gs : Fsh w0 s3
  gr : w0.heap.size ≤ r
  d3 : ¬ s3.blk hb
  dr : r ≠ hb

theorem check_ok {K : Option Addr → Int → World → Prop} (hr : View RI w sr rank) (hy : View RW w sy ways)
    (h1 : OkH rank ways → ∀ hb s3 r g mm w', Ext w w' → ChkM w w' hb sr sy s3 r rank ways g mm → K (some ⟨hb, 0, none⟩) 0 w')
    (h2 : ¬ OkH rank ways → ∀ c w', Ext w w' → c ≠ 0 → (OkL rank ways → c = 2) → (¬ OkL rank ways → c = 3) → K none c w') : sh_hier_check sr sy K w := by
  unfold sh_hier_check
  intro b1 w2 e2 g1 g1'
  have z2 := e2.size
  have lr := hr.len; have ly := hy.len
  rw [Bool.cond_decide]
  split
  · rename_i c; exact h2 (fun ok => by have := ok.n; omega) 3 _ e2 (by decide) (fun h => by unfold OkL at h; omega) (fun _ => rfl)
  rename_i c1
  rw [Bool.cond_decide]
  split
  · rename_i c; exact h2 (fun ok => by have := ok.k; omega) 3 _ e2 (by decide) (fun h => by unfold OkL at h; omega) (fun _ => rfl)
  rename_i c2
  have okl : OkL rank ways := ⟨by omega, by omega⟩
  have bad : ¬ OkH rank ways → ∀ w', Ext w w' → K none 2 w' := fun hno w' e => h2 hno 2 w' e (by decide) (fun _ => rfl) (fun h => absurd okl h)
  -- behind 'placed' and 'found'
  refine placed_ok (hr.ext e2) (by omega) (fun okr s3 g w5 e5 hO3 hpl f3 => ⟨kp_ext e5 (by (intro b hb; simp only [List.mem_cons, List.not_mem_nil, or_false] at hb; omega)), ?_⟩) (fun hno w5 e5 => ⟨kp_ext e5 (by (intro b hb; simp only [List.mem_cons, List.not_mem_nil, or_false] at hb; omega)), ?_⟩)
  rotate_left
  · have z5 := e5.size
    refine found_ok (rank := rank) lr (hy.ext (e2.trans e5)) (by omega) (fun _ r mm w8 e8 _ _ _ => ⟨kp_ext e8 (by (intro b hb; simp only [List.mem_cons, List.not_mem_nil, or_false] at hb; omega)), ?_⟩) (fun _ w8 e8 => ⟨kp_ext e8 (by (intro b hb; simp only [List.mem_cons, List.not_mem_nil, or_false] at hb; omega)), ?_⟩)
    · simp only [Bool.not_false, cond_true]; exact bad (fun ok => hno ok.r) _ ((e2.trans e5).trans e8)
    · simp only [Bool.not_false, cond_true]; exact bad (fun ok => hno ok.r) _ ((e2.trans e5).trans e8)
  have z5 := e5.size
  refine found_ok (rank := rank) lr (hy.ext (e2.trans e5)) (by omega) (fun okf r mm w8 e8 hM hMo gr => ⟨kp_ext e8 (by (intro b hb; simp only [List.mem_cons, List.not_mem_nil, or_false] at hb; omega)), ?_⟩) (fun hno w8 e8 => ⟨kp_ext e8 (by (intro b hb; simp only [List.mem_cons, List.not_mem_nil, or_false] at hb; omega)), ?_⟩)
  rotate_left
  · simp only [Bool.not_true, cond_false, Bool.not_false, cond_true]; exact bad (fun ok => hno ok.f) _ ((e2.trans e5).trans e8)
  simp only [Bool.not_true, cond_false]
  have z8 := e8.size
  have e8' := (e2.trans e5).trans e8
  refine Join.cut (fun _ w' => Ext w8 w' ∧ ∀ y ∈ ways, OkW rank ways y) (fun J hJ => ?_) ?_
  · refine LoopT.gh (γ := Nat) (fun i (st : Int × Unit) w' => st.1 = i ∧ i ≤ ways.length ∧ Ext w8 w' ∧ ∀ y ∈ ways.take i, OkW rank ways y) (fun i => ways.length - i) 0 ⟨rfl, Nat.zero_le _, .refl _, fun y hy => by simp at hy⟩ ?_
    rintro i ⟨x, _⟩ w12 ⟨hx, hi, e12, hok⟩ J1 hJ1
    simp only at hx; subst hx
    dsimp only
    have z12 := e12.size
    rw [Bool.cond_decide]
    by_cases hc : (i : Int) < (sy.len : Int)
    · rw [if_pos hc]
      have hi' : i < ways.length := by omega
      refine way_idx (hy.ext (e8'.trans e12)) hi' fun a _ a0 a1 a2 a3 a4 => ⟨_, a0, _, a1, _, a2, _, a3, _, a4, ?_⟩
      intro b19 w20 e20 g19 g19' w21 o21
      have z20 := e20.size; have z21 := o21.size
      have e21 : Ext w8 w21 := ext_off (e12.trans e20) o21 (by omega)
      have e21' := e8'.trans e21
      refine right_ok (hr.ext e21') (hy.ext e21') (hM.grow e21) hMo okf (List.getElem_mem hi') fun b w23 e23 hb => ⟨kp_ext e23 (by (intro b hb; simp only [List.mem_cons, List.not_mem_nil, or_false] at hb; omega)), ?_⟩
      cases b with
      | false =>
        simp only [Bool.not_false, cond_true]
        refine bad (fun ok => ?_) _ (e21'.trans e23)
        have := hb.2 (ok.w _ (List.getElem_mem hi')); cases this
      | true =>
        simp only [Bool.not_true, cond_false]
        refine hJ1 (i + 1) _ _ ⟨wsucc (m := 2 ^ 40) (by omega) (by omega), by omega, e21.trans e23, fun y hyt => ?_⟩ (by omega)
        rw [take_snoc' hi'] at hyt
        rcases List.mem_append.1 hyt with hyt | hyt
        · exact hok y hyt
        · simp only [List.mem_singleton] at hyt; subst hyt; exact hb.1 rfl
    · rw [if_neg hc]
      have : i = ways.length := by omega
      subst this
      rw [List.take_length] at hok
      exact hJ _ _ ⟨e12, hok⟩
  rintro _ w25 ⟨e25, hok⟩ b26 w27 e27 g26 g26' hB
  have z25 := e25.size; have z27 := e27.size
  have l3 : ∀ k, s3.blk k → k < w5.heap.size := fun k hk => hO3.lt hk
  have lr' := hM.lt
  exact h1 ⟨okl.1, okl.2, okr, okf, hok⟩ b26 s3 r g mm w27 ((e8'.trans e25).trans e27) ⟨hB, ((hO3.ext e8).ext e25).ext e27, hpl, (hM.grow e25).grow e27, hMo, by omega, f3.ext e2, by omega, fun hk => by have := l3 _ hk; omega, by omega⟩
end
end Go.Sh

/- hier's put: an edge into a row, by its other end. -/
set_option maxRecDepth 100000
namespace Go.Sh
open Go.RowKit

/-- s[lo:] of an owned slice. -/
theorem Own.tail {α : Type} {R : Rc α} {w : World} {s : SV} {xs : List α} (h : Own R w s xs) {lo : Nat} (h1 : lo ≤ xs.length) {K : SV → Prop}
    (hk : ∀ t : SV, View R w t (xs.drop lo) → (∀ b, s.a = some ⟨b, 0, none⟩ → (∃ c, t.a = some ⟨b, c, none⟩) ∧ (lo < xs.length → t.a = some ⟨b, lo * R.sz, none⟩)) → K t) : semSlice R.sz s.a s.len s.cap (some (lo : Int)) none K := by
  obtain ⟨rest, hl, hc, hs⟩ := h
  unfold semSlice
  simp only [Option.getD_some, Option.getD_none, Int.toNat_natCast]
  refine ⟨by omega, fun x hx => (by cases hx), by omega, by omega, hk _ ?_ ?_⟩
  · refine ⟨by simp; omega, ?_, ?_⟩
    · rintro _ p hp
      rcases hs with ⟨ha, _, _⟩ | ⟨b, ha, hB⟩
      · simp only [ha, Option.map_none, ite_self] at hp; cases hp
      · simp only [ha, Option.map_some, addm] at hp
        split at hp <;> (cases hp; rfl)
    · intro i x hx
      have hi' : i < xs.length - lo := by have := (List.getElem?_eq_some_iff.1 hx).1; simp at this; omega
      rw [List.getElem?_drop] at hx
      rcases hs with ⟨ha, hx0, _⟩ | ⟨b, ha, hB⟩
      · subst hx0; simp at hx
      · refine ⟨⟨b, lo * R.sz, none⟩, ?_, fun j v hv => ?_⟩
        · simp only [ha, Option.map_some, addm, Nat.zero_add]
          rw [if_neg (by omega)]
        · have hj : j < R.sz := by rw [← R.len x]; exact (List.getElem?_eq_some_iff.1 hv).1
          have := R.flat_get (xs ++ rest) (lo + i) j x (by rw [List.getElem?_append_left (by omega)]; exact hx) hj
          simp only
          rw [cell_blk hB, show lo * R.sz + i * R.sz + j = (lo + i) * R.sz + j by rw [Nat.add_mul], this]; exact hv
  · intro b hb
    constructor
    · by_cases hcc : s.cap = lo
      · rw [if_pos hcc]; exact ⟨0, hb⟩
      · rw [if_neg hcc, hb]; simp only [Option.map_some, addm]; exact ⟨_, rfl⟩
    · intro hlo
      rw [if_neg (by omega), hb]
      simp only [Option.map_some, addm, Nat.zero_add]

/-- copy(s[k+1:], s[k:]) -/
theorem own_shift {α : Type} {R : Rc α} {w : World} {s : SV} {ys : List α} (h : Own R w s ys) {k : Nat} (hk : k < ys.length) {K : World → World → Prop}
    (hK : ∀ w1 w', Ext w w1 → Chg s.blk w1 w' → Own R w' s (ys.take (k + 1) ++ (ys.drop k).take (ys.length - k - 1)) → K w1 w') :
    semSlice R.sz s.a s.len s.cap (some ((k + 1 : Nat) : Int)) none (fun s16 => semSlice R.sz s.a s.len s.cap (some (k : Int)) none (fun s17 => ∀ w1, Ext w w1 → Cpy R.sz s16 s17 w1 (K w1))) := by
  refine h.tail (by omega) fun t16 v16 a16 => ?_
  refine h.tail (by omega) fun t17 v17 a17 => ?_
  intro w1 e1
  have h1 := h.ext e1
  obtain ⟨rest, hl, hc, hs⟩ := h1
  rcases hs with ⟨_, hx0, _⟩ | ⟨b, ha, hB⟩
  · subst hx0; simp at hk
  have l16 := v16.len; have l17 := v17.len
  rw [List.length_drop] at l16 l17
  have hp17 := (a17 b ha).2 hk
  obtain ⟨c16, hp16⟩ := (a16 b ha).1
  have hsrc := (v17.ext e1).cells
  refine ⟨R.flat ((ys.drop k).take (ys.length - k - 1)), ?_, ?_, ?_, fun w' hnil hoff => ?_⟩
  · rw [R.flat_len, List.length_take, List.length_drop, l16, l17]; congr 1; omega
  · rcases hsrc with hn | ⟨p, hp, hcell⟩
    · left
      have : ys.drop k = [] := by
        cases hd : ys.drop k with
        | nil => rfl
        | cons x l => rw [hd, Rc.flat_cons] at hn; have h3 := R.len x; have h4 := R.pos; rw [(List.append_eq_nil_iff.1 hn).1] at h3; simp at h3; omega
      rw [this]; simp [Rc.flat]
    · refine .inr ⟨p, hp, fun j v hv => hcell j v ?_⟩
      have hd : R.flat (ys.drop k) = R.flat ((ys.drop k).take (ys.length - k - 1)) ++ R.flat ((ys.drop k).drop (ys.length - k - 1)) := by rw [← R.flat_append, List.take_append_drop]
      rw [hd, List.getElem?_append_left (List.getElem?_eq_some_iff.1 hv).1]; exact hv
  · by_cases he : k + 1 < ys.length
    · right
      have hp16' := (a16 b ha).2 he
      refine ⟨_, hp16', rfl, flat_one _, fun j hj => ?_, fun j hj => frozen_blk hB _⟩
      rw [R.flat_len, List.length_take, List.length_drop] at hj
      rw [cell_blk hB, List.getElem?_eq_getElem]; rfl
      rw [R.flat_len, List.length_append]
      have h3 : ((k + 1) + min (ys.length - k - 1) (ys.length - k)) * R.sz ≤ (ys.length + rest.length) * R.sz := Nat.mul_le_mul_right _ (by omega)
      have h4 : ((k + 1) + min (ys.length - k - 1) (ys.length - k)) * R.sz = (k + 1) * R.sz + min (ys.length - k - 1) (ys.length - k) * R.sz := Nat.add_mul _ _ _
      show (k + 1) * R.sz + j < _
      omega
    · left
      rw [show ys.length - k - 1 = 0 by omega]; simp [Rc.flat]
  · obtain ⟨o, hc1, hc2, hcs⟩ := hoff _ hp16
    simp only at o hc1 hc2 hcs
    obtain ⟨cs', hB', hl'⟩ := hcs _ hB
    refine hK w1 w' e1 (.of_off o ⟨_, ha, rfl⟩) ⟨rest, ?_, ?_, .inr ⟨b, ha, ?_⟩⟩
    · rw [hl, List.length_append, List.length_take, List.length_take, List.length_drop]; omega
    · rw [hc, List.length_append, List.length_take, List.length_take, List.length_drop]; omega
    · by_cases he : k + 1 < ys.length
      · have hp16' := (a16 b ha).2 he
        rw [hp16] at hp16'
        have hcc : c16 = (k + 1) * R.sz := by injection hp16' with h; injection h
        subst hcc
        have : cs' = R.flat (ys.take (k + 1) ++ (ys.drop k).take (ys.length - k - 1) ++ rest) := by
          apply List.ext_getElem?
          intro i
          rw [← cell_blk hB', List.append_assoc, R.flat_append, R.flat_append]
          have ht : (R.flat (ys.take (k + 1))).length = (k + 1) * R.sz := by rw [R.flat_len, List.length_take, Nat.min_eq_left (by omega)]
          have hm : (R.flat ((ys.drop k).take (ys.length - k - 1))).length = (ys.length - k - 1) * R.sz := by rw [R.flat_len, List.length_take, List.length_drop]; congr 1; omega
          have hsum : (k + 1) * R.sz + (ys.length - k - 1) * R.sz = ys.length * R.sz := by rw [← Nat.add_mul]; congr 1; omega
          by_cases hi : (k + 1) * R.sz ≤ i ∧ i < ys.length * R.sz
          · have := hc1 (i - (k + 1) * R.sz) _ (List.getElem?_eq_getElem (by rw [hm]; omega))
            rw [show (k + 1) * R.sz + (i - (k + 1) * R.sz) = i by omega] at this
            rw [this, List.getElem?_append_right (by omega), ht, List.getElem?_append_left (by rw [hm]; omega), List.getElem?_eq_getElem (by rw [hm]; omega)]
          · rw [hc2 i (by rw [hm]; omega), cell_blk hB, R.flat_append ys rest]
            by_cases hi2 : i < (k + 1) * R.sz
            · have hy : R.flat ys = R.flat (ys.take (k + 1)) ++ R.flat (ys.drop (k + 1)) := by rw [← R.flat_append, List.take_append_drop]
              rw [List.getElem?_append_left (show i < (R.flat ys).length by rw [R.flat_len]; omega), List.getElem?_append_left (l₁ := R.flat (ys.take (k + 1))) (by omega), hy, List.getElem?_append_left (l₁ := R.flat (ys.take (k + 1))) (by omega)]
            · have hi3 : ys.length * R.sz ≤ i := by omega
              rw [List.getElem?_append_right (show (R.flat ys).length ≤ i by rw [R.flat_len]; exact hi3), List.getElem?_append_right (l₁ := R.flat (ys.take (k + 1))) (by omega), List.getElem?_append_right (by omega), R.flat_len]
              congr 1; omega
        subst this; exact hB'
      · have hz : ys.length - k - 1 = 0 := by omega
        rw [hz] at hnil ⊢
        have hw := hnil (by simp [Rc.flat])
        subst hw
        rw [List.take_zero, List.append_nil, List.take_of_length_le (by omega)]; exact hB

/-- An edge in a row that rises. -/
def insE (e : Int × Int × Int) (l : List (Int × Int × Int)) : List (Int × Int × Int) := l.takeWhile (fun x => decide (x.1 < e.1)) ++ e :: l.dropWhile (fun x => decide (x.1 < e.1))
theorem insE_len (e : Int × Int × Int) (l : List (Int × Int × Int)) : (insE e l).length = l.length + 1 := by
  unfold insE
  have this : (l.takeWhile (fun x => decide (x.1 < e.1)) ++ l.dropWhile (fun x => decide (x.1 < e.1))).length = l.length := by rw [List.takeWhile_append_dropWhile]
  rw [List.length_append] at this
  simp only [List.length_append, List.length_cons]; omega
theorem insE_at {e : Int × Int × Int} : ∀ {l : List (Int × Int × Int)} {k : Nat}, k ≤ l.length → (∀ j (hj : j < l.length), j < k → l[j].1 < e.1) → (∀ h : k < l.length, ¬ l[k].1 < e.1) → insE e l = l.take k ++ e :: l.drop k
  | [], k, hk, _, _ => by simp [insE]
  | x :: l, 0, hk, _, h2 => by
    have := h2 (by simp)
    simp only [List.getElem_cons_zero] at this
    simp [insE, List.takeWhile_cons, List.dropWhile_cons, this]
  | x :: l, k + 1, hk, h1, h2 => by
    have h0 := h1 0 (by simp) (by omega)
    simp only [List.getElem_cons_zero] at h0
    have ih := insE_at (e := e) (l := l) (k := k) (by simpa using hk) (fun j hj hjk => by
      have := h1 (j + 1) (by simp; omega) (by omega); simpa using this) (fun h => by have := h2 (by simp; omega); simpa using this)
    unfold insE at ih ⊢
    simp [List.takeWhile_cons, List.dropWhile_cons, h0, ih]
theorem insE_mem {e x : Int × Int × Int} {l : List (Int × Int × Int)} : x ∈ insE e l ↔ x = e ∨ x ∈ l := by
  have : x ∈ l ↔ x ∈ l.takeWhile (fun x => decide (x.1 < e.1)) ∨ x ∈ l.dropWhile (fun x => decide (x.1 < e.1)) := by
    rw [← List.mem_append, List.takeWhile_append_dropWhile]
  rw [this]; unfold insE
  simp only [List.mem_append, List.mem_cons]
  constructor
  · rintro (h | h | h)
    · exact .inr (.inl h)
    · exact .inl h
    · exact .inr (.inr h)
  · rintro (h | h | h)
    · exact .inr (.inl h)
    · exact .inl h
    · exact .inr (.inr h)
def Rise (l : List (Int × Int × Int)) : Prop := l.Pairwise fun a b => a.1 < b.1
theorem insE_rise {e : Int × Int × Int} {l : List (Int × Int × Int)} (h : Rise l) (hn : ∀ x ∈ l, x.1 ≠ e.1) : Rise (insE e l) := by
  induction l with
  | nil => simp [insE, Rise]
  | cons x l ih =>
    have hp := List.pairwise_cons.1 h
    have hx := hn x List.mem_cons_self
    by_cases hlt : x.1 < e.1
    · have e1 : insE e (x :: l) = x :: insE e l := by simp [insE, List.takeWhile_cons, List.dropWhile_cons, hlt]
      rw [e1]
      refine List.pairwise_cons.2 ⟨fun y hy => ?_, ih hp.2 fun y hy => hn y (List.mem_cons_of_mem _ hy)⟩
      rcases insE_mem.1 hy with rfl | hy
      · exact hlt
      · exact hp.1 y hy
    · have e1 : insE e (x :: l) = e :: x :: l := by simp [insE, List.takeWhile_cons, List.dropWhile_cons, hlt]
      rw [e1]
      refine List.pairwise_cons.2 ⟨fun y hy => ?_, h⟩
      rcases List.mem_cons.1 hy with rfl | hy
      · omega
      · have := hp.1 y hy; omega

theorem put_ok {w : World} {l0 : SV} {xs : List (Int × Int × Int)} {V W A : Int} {K : SV → World → Prop} (h : Own RD w l0 xs) (hr : Rise xs) (hn : xs.length < 2 ^ 40)
    (hk : ∀ s w', Chg l0.blk w w' → (∀ k, s.blk k → l0.blk k ∨ w.heap.size ≤ k) → Own RD w' s (insE (V, W, A) xs) → K s w') : sh_hier_put l0 V W A K w := by
  unfold sh_hier_put
  intro b1 w2 e2 g1 g1'
  have z2 := e2.size
  have hl := h.view.len
  refine Join.cut (fun (x : Int × Unit) w' => Ext w2 w' ∧ ∃ k : Nat, x.1 = (k : Int) ∧ k ≤ xs.length ∧ insE (V, W, A) xs = xs.take k ++ (V, W, A) :: xs.drop k) (fun J hJ => ?_) ?_
  · refine LoopT.gh (γ := Nat) (fun k (st : Int × Unit) w' => st.1 = k ∧ k ≤ xs.length ∧ Ext w2 w' ∧ ∀ h : k < xs.length, ¬ xs[k].1 < V) (fun k => k) xs.length ⟨by simp only; omega, Nat.le_refl _, .refl _, fun h => by omega⟩ ?_
    rintro k ⟨x, _⟩ w6 ⟨hx, hk', e6, hge⟩ J1 hJ1
    simp only at hx; subst hx
    dsimp only
    rw [Bool.cond_decide]
    by_cases hc : (k : Int) > 0
    · rw [if_pos hc, show IntKind.i64.wrap ((k : Int) - 1) = ((k - 1 : Nat) : Int) by rw [w64 (by omega) (by omega)]; omega]
      have hi : k - 1 < xs.length := by omega
      refine do_idx ((h.ext e2).ext e6).view hi fun _ a0 _ _ => ⟨_, a0, ?_⟩
      intro w9 e9
      rw [Bool.cond_decide]
      by_cases hlt : xs[k - 1].1 < V
      · rw [if_pos hlt]
        refine hJ _ _ ⟨e6.trans e9, k, rfl, hk', insE_at hk' (fun j hj hjk => ?_) hge⟩
        by_cases e : j = k - 1
        · subst e; exact hlt
        · have := List.pairwise_iff_getElem.1 hr j (k - 1) hj hi (by omega); simp only; omega
      · rw [if_neg hlt]
        exact hJ1 (k - 1) _ _ ⟨rfl, by omega, e6.trans e9, fun _ => hlt⟩ (by omega)
    · rw [if_neg hc]
      exact hJ _ _ ⟨e6, k, rfl, hk', insE_at hk' (fun j hj hjk => by omega) hge⟩
  · rintro ⟨_, _⟩ w11 ⟨e11, k, rfl, hk', hins⟩
    intro b12 w13 e13 g12 hB
    have z11 := e11.size; have z13 := e13.size
    have h13 := ((h.ext e2).ext e11).ext e13
    refine Own.app (R := RD) h13 (View.one (R := RD) (x := (V, W, A)) hB) (by simp only [List.length_cons, List.length_nil]; omega) (by simp only [List.length_cons, List.length_nil]; omega) fun s14 w15 c15 hs hO => ?_
    have z15 := c15.size
    have nb : ¬ l0.blk b1 := fun hk => by have := h.lt hk; omega
    refine ⟨kp_chg c15 fun c hc => by simp only [List.mem_cons, List.not_mem_nil, or_false] at hc; subst hc; exact ⟨by omega, nb⟩, ?_⟩
    have nb14 : ¬ s14.blk b1 := fun hk => by rcases hs _ hk with h' | h'; exact nb h'; omega
    have hlen : (xs ++ [(V, W, A)]).length = xs.length + 1 := by simp
    simp only
    rw [wsucc (m := 2 ^ 41) (by omega) (by omega)]
    have hsz : (xs ++ [(V, W, A)]).take (k + 1) ++ ((xs ++ [(V, W, A)]).drop k).take ((xs ++ [(V, W, A)]).length - k - 1) = (xs ++ [(V, W, A)]).take (k + 1) ++ xs.drop k := by
      congr 1
      rw [List.drop_append_of_le_length hk', hlen, List.take_append_of_le_length (by rw [List.length_drop]; omega), List.take_of_length_le (by rw [List.length_drop]; omega)]
    refine own_shift (R := RD) hO (k := k) (by omega) (K := fun w18 w19 => Keeps [b1] w18 w19 ∧ ∀ w20, Ext w19 w20 → Idx s14.a s14.len (k : Int) 3 fun a21 => stL w20 a21 [.int .i64 V, .int .i64 W, .int .i64 A] 0 fun w22 => Keeps [b1] w20 w22 ∧ K s14 w22) fun w18 w19 e18 c19 hO19 => ?_
    have z18 := e18.size; have z19 := c19.size
    refine ⟨kp_chg c19 fun c hc => by simp only [List.mem_cons, List.not_mem_nil, or_false] at hc; subst hc; exact ⟨by omega, nb14⟩, fun w20 e20 => ?_⟩
    have z20 := e20.size
    rw [hsz] at hO19
    have hO20 := hO19.ext e20
    have hlt : k < ((xs ++ [(V, W, A)]).take (k + 1) ++ xs.drop k).length := by simp; omega
    refine own_wr (R := RD) hO20 hlt fun b hb hput => ?_
    refine hput (V, W, A) w20 _ hO20 fun w22 o22 hO22 => ⟨kp_chg (.of_off (F := s14.blk) o22 ⟨_, hb, rfl⟩) fun c hc => by simp only [List.mem_cons, List.not_mem_nil, or_false] at hc; subst hc; exact ⟨by omega, nb14⟩, ?_⟩
    have hfin : ((xs ++ [(V, W, A)]).take (k + 1) ++ xs.drop k).set k (V, W, A) = insE (V, W, A) xs := by
      rw [hins, List.set_append_left _ _ (by simp; omega)]
      have : ((xs ++ [(V, W, A)]).take (k + 1)).set k (V, W, A) = xs.take k ++ [(V, W, A)] := by
        apply List.ext_getElem?
        intro j
        rw [List.getElem?_set]
        by_cases hj : k = j
        · subst hj
          rw [if_pos rfl, if_pos (by simp; omega), List.getElem?_append_right (by simp; omega)]
          rw [List.length_take, Nat.min_eq_left hk']; simp
        · rw [if_neg hj, List.getElem?_take]
          by_cases hjk : j < k
          · rw [if_pos (by omega), List.getElem?_append_left (by omega), List.getElem?_append_left (by rw [List.length_take]; omega), List.getElem?_take, if_pos hjk]
          · rw [if_neg (by omega), List.getElem?_eq_none (by simp; omega)]
      rw [this]; simp
    rw [hfin] at hO22
    refine hk s14 w22 ?_ ?_ hO22
    · have c0 : Chg l0.blk w w15 := (Chg.of_ext (F := l0.blk) ((e2.trans e11).trans e13)).trans c15 fun _ _ h => h
      refine (((c0.trans (.of_ext (F := fun _ => False) e18) fun _ _ h => h.elim).trans c19 fun i hi hb => ?_).trans (.of_ext (F := fun _ => False) e20) fun _ _ h => h.elim).trans (.of_off (F := s14.blk) o22 ⟨_, hb, rfl⟩) fun i hi hb => ?_
      · rcases hs i hb with h' | h'
        · exact h'
        · omega
      · rcases hs i hb with h' | h'
        · exact h'
        · omega
    · intro i hi
      rcases hs i hi with h' | h'
      · exact .inl h'
      · right; omega
end Go.Sh
