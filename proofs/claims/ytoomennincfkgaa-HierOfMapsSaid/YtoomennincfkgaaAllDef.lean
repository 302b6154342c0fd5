/- Shallow definitions, printed by gen.py of these sessions. -/
import Derived.Test.YtoomennincfkgaaPrim
set_option maxRecDepth 100000
set_option linter.unusedVariables false
namespace Go.Sh
def fn_postroadlaw10_long : FuncId := 10
/-- postroad/postroadlaw10.long -/
def sh_postroadlaw10_long (h0_Rank : SV) (h0_Ways : SV) (K : Bool → World → Prop) (w : World) : Prop :=
  (∀ b1 w2, Ext w w2 → w.heap.size ≤ b1 → b1 < w2.heap.size → (cond (decide ((h0_Rank.len : Int) > (40 : Int))) (K true w2) (K (decide ((h0_Ways.len : Int) > (150 : Int))) w2)))

def fn_postroadref10_At : FuncId := 29
/-- postroad/postroadref10.At -/
def sh_postroadref10_At (h0_Rank : SV) (h0_Ways : SV) (rank0 : Int) (K : Int → World → Prop) (w : World) : Prop :=
  (∀ b1 w2, Ext w w2 → w.heap.size ≤ b1 → b1 < w2.heap.size →
  (LoopT (Int × Unit) (fun t4 again3 w5 =>
  (cond (decide (t4.1 < (h0_Rank.len : Int))) (Idx h0_Rank.a h0_Rank.len t4.1 1 (fun a6 =>
  (∃ x7 : Int, w5.cell? a6 = some (.int .i64 x7) ∧
  (cond (x7 == rank0) (K t4.1 w5) (again3 ((IntKind.i64.wrap (t4.1 + (1 : Int))), ()) w5))))) (K (-1 : Int) w5))) ((0 : Int), ()) w2))

def fn_postroadref10_place : FuncId := 39
/-- postroad/postroadref10.place -/
def sh_postroadref10_place (h0_Rank : SV) (h0_Ways : SV) (v0 : Int) (K : Bool → World → Prop) (w : World) : Prop :=
  (∀ b1 w2, Ext w w2 → w.heap.size ≤ b1 → b1 < w2.heap.size → (cond (decide (v0 ≥ (0 : Int))) (K (decide (v0 < (h0_Rank.len : Int))) w2) (K false w2)))

def fn_postroadref10_Find : FuncId := 30
/-- postroad/postroadref10.Find -/
def sh_postroadref10_Find (h0_Rank : SV) (h0_Ways : SV) (u0 : Int) (v0 : Int) (K : Int → World → Prop) (w : World) : Prop :=
  (∀ b1 w2, Ext w w2 → w.heap.size ≤ b1 → b1 < w2.heap.size →
  (LoopT (Int × Unit) (fun t4 again3 w5 =>
  (cond (decide (t4.1 < (h0_Ways.len : Int))) (Join (Unit) (fun J6 =>
  (Idx h0_Ways.a h0_Ways.len t4.1 5 (fun a7 =>
  (∃ x8 : Int, w5.cell? (a7.add 0) = some (.int .i64 x8) ∧
  (cond (x8 == u0) (Idx h0_Ways.a h0_Ways.len t4.1 5 (fun a9 =>
  (∃ x10 : Int, w5.cell? (a9.add 1) = some (.int .i64 x10) ∧
  (cond (x10 == v0) (K t4.1 w5) (J6 () w5))))) (J6 () w5))))))
  (fun t11 w12 =>
  (again3 ((IntKind.i64.wrap (t4.1 + (1 : Int))), ()) w12))) (K (-1 : Int) w5))) ((0 : Int), ()) w2))

def fn_postroadref10_right : FuncId := 31
/-- postroad/postroadref10.right -/
def sh_postroadref10_right (h0_Rank : SV) (h0_Ways : SV) (i0 : Int) (K : Bool → World → Prop) (w : World) : Prop :=
  (∀ b1 w2, Ext w w2 → w.heap.size ≤ b1 → b1 < w2.heap.size →
  (Idx h0_Ways.a h0_Ways.len i0 5 (fun a3 =>
  (∃ x4 : Int, w2.cell? (a3.add 0) = some (.int .i64 x4) ∧ ∃ x5 : Int, w2.cell? (a3.add 1) = some (.int .i64 x5) ∧ ∃ x6 : Int, w2.cell? (a3.add 2) = some (.int .i64 x6) ∧ ∃ x7 : Int, w2.cell? (a3.add 3) = some (.int .i64 x7) ∧ ∃ x8 : Int, w2.cell? (a3.add 4) = some (.int .i64 x8) ∧
  (∀ b9 w10, Ext w2 w10 → w2.heap.size ≤ b9 → b9 < w10.heap.size →
  (∀ w11, Off b9 w10 w11 →
  (sh_postroadref10_place h0_Rank h0_Ways x4 (fun t12 w13 =>
  (Keeps [b9, b1] w11 w13 ∧
  (cond (!t12) (K false w13) (sh_postroadref10_place h0_Rank h0_Ways x5 (fun t14 w15 =>
  (Keeps [b9, b1] w13 w15 ∧
  (cond (!t14) (K false w15) (cond (x4 == x5) (K false w15) (cond (decide (x6 < (0 : Int))) (K false w15) (cond (decide (x6 > (1152921504606846976 : Int))) (K false w15) (sh_postroadref10_Find h0_Rank h0_Ways x4 x5 (fun x16 w17 =>
  (Keeps [b9, b1] w15 w17 ∧
  (cond (x16 != i0) (K false w17) (cond (x7 == (-1 : Int)) (cond (decide (x8 ≥ (0 : Int))) (K (decide (x8 < (67108864 : Int))) w17) (K false w17)) (cond (x8 != (-1 : Int)) (∀ w18, Ext w17 w18 →
  (K false w18)) (Quiet (Bool) (fun r20 =>
  (.bool r20)) (fun K21 w22' => sh_postroadref10_place h0_Rank h0_Ways x7 (fun t19 w22 => K21 t19 w22) w22') w17 (fun r20 =>
  (cond (!r20) (∀ w23, Ext w17 w23 →
  (K false w23)) (Idx h0_Rank.a h0_Rank.len x7 1 (fun a24 =>
  (∃ x25 : Int, w17.cell? a24 = some (.int .i64 x25) ∧
  (Idx h0_Rank.a h0_Rank.len x4 1 (fun a26 =>
  (∃ x27 : Int, w17.cell? a26 = some (.int .i64 x27) ∧
  (cond (decide (x25 ≥ x27)) (∀ w28, Ext w17 w28 →
  (K false w28)) (Idx h0_Rank.a h0_Rank.len x7 1 (fun a29 =>
  (∃ x30 : Int, w17.cell? a29 = some (.int .i64 x30) ∧
  (Idx h0_Rank.a h0_Rank.len x5 1 (fun a31 =>
  (∃ x32 : Int, w17.cell? a31 = some (.int .i64 x32) ∧
  (∀ w33, Ext w17 w33 →
  (cond (decide (x30 ≥ x32)) (K false w33) (sh_postroadref10_Find h0_Rank h0_Ways x4 x7 (fun x34 w35 =>
  (Keeps [b9, b1] w33 w35 ∧
  (sh_postroadref10_Find h0_Rank h0_Ways x7 x5 (fun x36 w37 =>
  (Keeps [b9, b1] w35 w37 ∧
  (cond (decide (x34 ≥ (0 : Int))) (cond (decide (x36 ≥ (0 : Int))) (Idx h0_Ways.a h0_Ways.len x34 5 (fun a38 =>
  (∃ x39 : Int, w37.cell? ((a38.add 2).add 0) = some (.int .i64 x39) ∧
  (Idx h0_Ways.a h0_Ways.len x36 5 (fun a40 =>
  (∃ x41 : Int, w37.cell? ((a40.add 2).add 0) = some (.int .i64 x41) ∧
  (∀ w42, Ext w37 w42 →
  (K ((IntKind.i64.wrap (x39 + x41)) == x6) w42)))))))) (∀ w43, Ext w37 w43 →
  (K false w43))) (∀ w44, Ext w37 w44 →
  (K false w44))))) w35))) w33)))))))))))))))))))))))) w15))))))) w13)))) w11)))))))

def fn_postroadref10_Check : FuncId := 11
/-- postroad/postroadref10.Check -/
def sh_postroadref10_Check (h0_Rank : SV) (h0_Ways : SV) (K : Int → World → Prop) (w : World) : Prop :=
  (∀ b1 w2, Ext w w2 → w.heap.size ≤ b1 → b1 < w2.heap.size →
  (cond (decide ((h0_Rank.len : Int) > (16777216 : Int))) (K (3 : Int) w2) (cond (decide ((h0_Ways.len : Int) > (67108864 : Int))) (K (3 : Int) w2) (Join (Unit) (fun J3 =>
  (LoopT (Int × Unit) (fun t5 again4 w6 =>
  (cond (decide (t5.1 < (h0_Rank.len : Int))) (sh_postroadref10_At h0_Rank h0_Ways t5.1 (fun x7 w8 =>
  (Keeps [b1] w6 w8 ∧
  (cond (decide (x7 < (0 : Int))) (K (2 : Int) w8) (again4 ((IntKind.i64.wrap (t5.1 + (1 : Int))), ()) w8)))) w6) (J3 () w6))) ((0 : Int), ()) w2))
  (fun t9 w10 =>
  (LoopT (Int × Unit) (fun t12 again11 w13 =>
  (cond (decide (t12.1 < (h0_Ways.len : Int))) (sh_postroadref10_right h0_Rank h0_Ways t12.1 (fun t14 w15 =>
  (Keeps [b1] w13 w15 ∧
  (cond (!t14) (K (2 : Int) w15) (again11 ((IntKind.i64.wrap (t12.1 + (1 : Int))), ()) w15)))) w13) (K (0 : Int) w13))) ((0 : Int), ()) w10))))))

def fn_hier_placed : FuncId := 40
/-- postroad/hier.placed -/
def sh_hier_placed (rank0 : SV) (K : SV → Bool → World → Prop) (w : World) : Prop :=
  (MkS 8 [(.int .i64 (0 : Int))] (rank0.len : Int) (rank0.len : Int) w (fun s1 w2 =>
  (Join (Unit) (fun J3 =>
  (LoopT (Int × Unit) (fun t5 again4 w6 =>
  (cond (decide (t5.1 < (s1.len : Int))) (Idx s1.a s1.len t5.1 1 (fun a7 =>
  (stL w6 a7 [(.int .i64 (-1 : Int))] 0 (fun w8 =>
  (again4 ((IntKind.i64.wrap (t5.1 + (1 : Int))), ()) w8))))) (J3 () w6))) ((0 : Int), ()) w2))
  (fun t9 w10 =>
  (Join (Unit) (fun J11 =>
  (LoopT (Int × Unit) (fun t13 again12 w14 =>
  (cond (decide (t13.1 < (rank0.len : Int))) (Idx rank0.a rank0.len t13.1 1 (fun a15 =>
  (∃ x16 : Int, w14.cell? a15 = some (.int .i64 x16) ∧
  (cond (decide (x16 < (0 : Int))) (K ⟨none, 0, 0⟩ false w14) (cond (decide (x16 ≥ (s1.len : Int))) (K ⟨none, 0, 0⟩ false w14) (Idx s1.a s1.len x16 1 (fun a17 =>
  (∃ x18 : Int, w14.cell? a17 = some (.int .i64 x18) ∧
  (cond (x18 != (-1 : Int)) (K ⟨none, 0, 0⟩ false w14) (Idx s1.a s1.len x16 1 (fun a19 =>
  (stL w14 a19 [(.int .i64 t13.1)] 0 (fun w20 =>
  (again12 ((IntKind.i64.wrap (t13.1 + (1 : Int))), ()) w20)))))))))))))) (J11 () w14))) ((0 : Int), ()) w10))
  (fun t21 w22 =>
  (K s1 true w22)))))))

def fn_hier_found : FuncId := 41
/-- postroad/hier.found -/
def sh_hier_found (h0_Rank : SV) (h0_Ways : SV) (K : Option Nat → Bool → World → Prop) (w : World) : Prop :=
  (∀ b1 w2, Ext w w2 → w.heap.size ≤ b1 → b1 < w2.heap.size →
  (MkM w2 (fun m3 w4 =>
  (Join (Unit) (fun J5 =>
  (LoopT (Int × Unit) (fun t7 again6 w8 =>
  (cond (decide (t7.1 < (h0_Ways.len : Int))) (Idx h0_Ways.a h0_Ways.len t7.1 5 (fun a9 =>
  (∃ x10 : Int, w8.cell? (a9.add 0) = some (.int .i64 x10) ∧ ∃ x11 : Int, w8.cell? (a9.add 1) = some (.int .i64 x11) ∧ ∃ x12 : Int, w8.cell? (a9.add 2) = some (.int .i64 x12) ∧ ∃ x13 : Int, w8.cell? (a9.add 3) = some (.int .i64 x13) ∧ ∃ x14 : Int, w8.cell? (a9.add 4) = some (.int .i64 x14) ∧
  (∀ b15 w16, Ext w8 w16 → w8.heap.size ≤ b15 → b15 < w16.heap.size →
  (∀ w17, Off b15 w16 w17 →
  (Join (Unit) (fun J18 =>
  (∃ mm19, MapR true 2 w17 m3 mm19 ∧ ∃ x20 : Int, (assoc mm19 [x10, x11]).getD (.int .i64 (0 : Int)) = (.int .i64 x20) ∧
  (cond ((assoc mm19 [x10, x11]).isSome) (cond ((assoc mm19 [x10, x11]).isSome) (K none false w17) (J18 () w17)) (cond (x10 == x11) (cond (x10 == x11) (K none false w17) (J18 () w17)) (cond (decide ((if x12 < (if x11 < x10 then x11 else x10) then x12 else (if x11 < x10 then x11 else x10)) < (0 : Int))) (cond (decide ((if x12 < (if x11 < x10 then x11 else x10) then x12 else (if x11 < x10 then x11 else x10)) < (0 : Int))) (K none false w17) (J18 () w17)) (cond (decide ((if x11 > x10 then x11 else x10) ≥ (h0_Rank.len : Int))) (cond (decide ((if x11 > x10 then x11 else x10) ≥ (h0_Rank.len : Int))) (K none false w17) (J18 () w17)) (cond (decide (x12 > (1152921504606846976 : Int))) (K none false w17) (J18 () w17))))))))
  (fun t21 w22 =>
  (MUp true m3 [x10, x11] (.int .i64 t7.1) w22 (fun w23 =>
  (Keeps [b15, b1] w22 w23 ∧
  (again6 ((IntKind.i64.wrap (t7.1 + (1 : Int))), ()) w23))))))))))) (J5 () w8))) ((0 : Int), ()) w4))
  (fun t24 w25 =>
  (K m3 true w25))))))

def fn_hier_halves : FuncId := 38
/-- postroad/hier.halves -/
def sh_hier_halves (h0_Rank : SV) (h0_Ways : SV) (find0 : Option Nat) (w_0_From : Int) (w_0_To : Int) (w_0_Way_W : Int) (w_0_Way_Mid : Int) (w_0_Way_Arc : Int) (K : Int → Int → Bool → World → Prop) (w : World) : Prop :=
  (∀ b1 w2, Ext w w2 → w.heap.size ≤ b1 → b1 < w2.heap.size →
  (∀ b3 w4, Ext w2 w4 → w2.heap.size ≤ b3 → b3 < w4.heap.size →
  (∃ mm5, MapR true 2 w4 find0 mm5 ∧ ∃ x6 : Int, (assoc mm5 [w_0_From, w_0_Way_Mid]).getD (.int .i64 (0 : Int)) = (.int .i64 x6) ∧
  (∃ mm7, MapR true 2 w4 find0 mm7 ∧ ∃ x8 : Int, (assoc mm7 [w_0_Way_Mid, w_0_To]).getD (.int .i64 (0 : Int)) = (.int .i64 x8) ∧
  (cond ((assoc mm5 [w_0_From, w_0_Way_Mid]).isSome) (K x6 x8 ((assoc mm7 [w_0_Way_Mid, w_0_To]).isSome) w4) (K x6 x8 false w4))))))

def fn_hier_right : FuncId := 42
/-- postroad/hier.right -/
def sh_hier_right (h0_Rank : SV) (h0_Ways : SV) (find0 : Option Nat) (w_0_From : Int) (w_0_To : Int) (w_0_Way_W : Int) (w_0_Way_Mid : Int) (w_0_Way_Arc : Int) (K : Bool → World → Prop) (w : World) : Prop :=
  (∀ b1 w2, Ext w w2 → w.heap.size ≤ b1 → b1 < w2.heap.size →
  (∀ b3 w4, Ext w2 w4 → w2.heap.size ≤ b3 → b3 < w4.heap.size →
  (cond (w_0_Way_Mid == (-1 : Int)) (cond (decide (w_0_Way_Arc ≥ (0 : Int))) (K (decide (w_0_Way_Arc < (67108864 : Int))) w4) (K false w4)) (cond (w_0_Way_Arc != (-1 : Int)) (∀ w5, Ext w4 w5 →
  (K false w5)) (cond (decide (w_0_Way_Mid < (0 : Int))) (∀ w6, Ext w4 w6 →
  (K false w6)) (cond (decide (w_0_Way_Mid ≥ (h0_Rank.len : Int))) (∀ w7, Ext w4 w7 →
  (K false w7)) (Idx h0_Rank.a h0_Rank.len w_0_Way_Mid 1 (fun a8 =>
  (∃ x9 : Int, w4.cell? a8 = some (.int .i64 x9) ∧
  (Idx h0_Rank.a h0_Rank.len w_0_From 1 (fun a10 =>
  (∃ x11 : Int, w4.cell? a10 = some (.int .i64 x11) ∧
  (Idx h0_Rank.a h0_Rank.len w_0_To 1 (fun a12 =>
  (∃ x13 : Int, w4.cell? a12 = some (.int .i64 x13) ∧
  (∀ w14, Ext w4 w14 →
  (cond (decide (x9 ≥ (if x13 < x11 then x13 else x11))) (K false w14) (sh_hier_halves h0_Rank h0_Ways find0 w_0_From w_0_To w_0_Way_W w_0_Way_Mid w_0_Way_Arc (fun x15 x16 t17 w18 =>
  (Keeps [b3, b1] w14 w18 ∧
  (cond t17 (Idx h0_Ways.a h0_Ways.len x15 5 (fun a19 =>
  (∃ x20 : Int, w18.cell? ((a19.add 2).add 0) = some (.int .i64 x20) ∧
  (Idx h0_Ways.a h0_Ways.len x16 5 (fun a21 =>
  (∃ x22 : Int, w18.cell? ((a21.add 2).add 0) = some (.int .i64 x22) ∧
  (∀ w23, Ext w18 w23 →
  (K ((IntKind.i64.wrap (x20 + x22)) == w_0_Way_W) w23)))))))) (∀ w24, Ext w18 w24 →
  (K false w24))))) w14))))))))))))))))))

def fn_hier_check : FuncId := 32
/-- postroad/hier.check -/
def sh_hier_check (h0_Rank : SV) (h0_Ways : SV) (K : Option Addr → Int → World → Prop) (w : World) : Prop :=
  (∀ b1 w2, Ext w w2 → w.heap.size ≤ b1 → b1 < w2.heap.size →
  (cond (decide ((h0_Rank.len : Int) > (16777216 : Int))) (K none (3 : Int) w2) (cond (decide ((h0_Ways.len : Int) > (67108864 : Int))) (K none (3 : Int) w2) (sh_hier_placed h0_Rank (fun s3 t4 w5 =>
  (Keeps [b1] w2 w5 ∧
  (sh_hier_found h0_Rank h0_Ways (fun m6 t7 w8 =>
  (Keeps [b1] w5 w8 ∧
  (cond (!t4) (K none (2 : Int) w8) (cond (!t7) (K none (2 : Int) w8) (Join (Unit) (fun J9 =>
  (LoopT (Int × Unit) (fun t11 again10 w12 =>
  (cond (decide (t11.1 < (h0_Ways.len : Int))) (Idx h0_Ways.a h0_Ways.len t11.1 5 (fun a13 =>
  (∃ x14 : Int, w12.cell? (a13.add 0) = some (.int .i64 x14) ∧ ∃ x15 : Int, w12.cell? (a13.add 1) = some (.int .i64 x15) ∧ ∃ x16 : Int, w12.cell? (a13.add 2) = some (.int .i64 x16) ∧ ∃ x17 : Int, w12.cell? (a13.add 3) = some (.int .i64 x17) ∧ ∃ x18 : Int, w12.cell? (a13.add 4) = some (.int .i64 x18) ∧
  (∀ b19 w20, Ext w12 w20 → w12.heap.size ≤ b19 → b19 < w20.heap.size →
  (∀ w21, Off b19 w20 w21 →
  (sh_hier_right h0_Rank h0_Ways m6 x14 x15 x16 x17 x18 (fun t22 w23 =>
  (Keeps [b19, b1] w21 w23 ∧
  (cond (!t22) (K none (2 : Int) w23) (again10 ((IntKind.i64.wrap (t11.1 + (1 : Int))), ()) w23)))) w21)))))) (J9 () w12))) ((0 : Int), ()) w8))
  (fun t24 w25 =>
  (∀ b26 w27, Ext w25 w27 → w25.heap.size ≤ b26 → b26 < w27.heap.size →
  (Blk w27 b26 [(.slice h0_Rank.a h0_Rank.len h0_Rank.cap), (.slice h0_Ways.a h0_Ways.len h0_Ways.cap), (.slice s3.a s3.len s3.cap), (.map m6), (.slice none 0 0), (.slice none 0 0)] →
  (K (some ⟨b26, 0, none⟩) (0 : Int) w27))))))))) w5))) w2))))

def fn_hier_put : FuncId := 33
/-- postroad/hier.put -/
def sh_hier_put (l0 : SV) (e0_V : Int) (e0_W : Int) (e0_Arc : Int) (K : SV → World → Prop) (w : World) : Prop :=
  (∀ b1 w2, Ext w w2 → w.heap.size ≤ b1 → b1 < w2.heap.size →
  (Join (Int × Unit) (fun J3 =>
  (LoopT (Int × Unit) (fun t5 again4 w6 =>
  (cond (decide (t5.1 > (0 : Int))) (Idx l0.a l0.len (IntKind.i64.wrap (t5.1 - (1 : Int))) 3 (fun a7 =>
  (∃ x8 : Int, w6.cell? (a7.add 0) = some (.int .i64 x8) ∧
  (∀ w9, Ext w6 w9 →
  (cond (decide (x8 < e0_V)) (J3 (t5.1, ()) w9) (again4 ((IntKind.i64.wrap (t5.1 - (1 : Int))), ()) w9)))))) (J3 (t5.1, ()) w6))) ((l0.len : Int), ()) w2))
  (fun t10 w11 =>
  (NewB [(.int .i64 e0_V), (.int .i64 e0_W), (.int .i64 e0_Arc)] w11 (fun b12 w13 =>
  (App 24 [(.int .i64 (0 : Int)), (.int .i64 (0 : Int)), (.int .i64 (0 : Int))] l0 ⟨(some ⟨b12, 0, none⟩), 1, 1⟩ w13 (fun s14 w15 =>
  (Keeps [b1] w13 w15 ∧
  (semSlice 3 s14.a s14.len s14.cap (some (IntKind.i64.wrap (t10.1 + (1 : Int)))) none (fun s16 =>
  (semSlice 3 s14.a s14.len s14.cap (some t10.1) none (fun s17 =>
  (∀ w18, Ext w15 w18 →
  (Cpy 3 s16 s17 w18 (fun w19 =>
  (Keeps [b1] w18 w19 ∧
  (∀ w20, Ext w19 w20 →
  (Idx s14.a s14.len t10.1 3 (fun a21 =>
  (stL w20 a21 [(.int .i64 e0_V), (.int .i64 e0_W), (.int .i64 e0_Arc)] 0 (fun w22 =>
  (Keeps [b1] w20 w22 ∧
  (K s14 w22)))))))))))))))))))))))

def fn_hier_New : FuncId := 13
/-- postroad/hier.New -/
def sh_hier_New (h0_Rank : SV) (h0_Ways : SV) (K : Option Addr → World → Prop) (w : World) : Prop :=
  (∀ b1 w2, Ext w w2 → w.heap.size ≤ b1 → b1 < w2.heap.size →
  (App 8 [(.int .i64 (0 : Int))] ⟨none, 0, 0⟩ h0_Rank w2 (fun s3 w4 =>
  (Keeps [b1] w2 w4 ∧
  (∀ w5, Off b1 w4 w5 →
  (App 40 [(.int .i64 (0 : Int)), (.int .i64 (0 : Int)), (.int .i64 (0 : Int)), (.int .i64 (0 : Int)), (.int .i64 (0 : Int))] ⟨none, 0, 0⟩ h0_Ways w5 (fun s6 w7 =>
  (Keeps [b1] w5 w7 ∧
  (∀ w8, Off b1 w7 w8 →
  (sh_hier_check s3 s6 (fun p9 x10 w11 =>
  (Keeps [b1] w8 w11 ∧
  (cond (x10 != (0 : Int)) (K none w11) (∀ w12, Ext w11 w12 →
  (MkS 24 [(.slice none 0 0)] (s3.len : Int) (s3.len : Int) w12 (fun s13 w14 =>
  (Nn p9 (fun a15 =>
  (∀ w16, Ext w14 w16 →
  (stL w16 (a15.add 4) [(.slice s13.a s13.len s13.cap)] 0 (fun w17 =>
  (KeepZ (zI (zI (fun _ => False) w11 w12) w14 w16) w16 w17 ∧
  (Keeps [b1] w16 w17 ∧
  (MkA 24 [(.slice none 0 0)] (s3.len : Int) (s3.len : Int) (zI (zI (fun _ => False) w11 w12) w14 w16) w17 (fun b18 w19 =>
  (Nn p9 (fun a20 =>
  (∀ w21, Ext w19 w21 →
  (stL w21 (a20.add 5) [(.slice (some ⟨b18, 0, none⟩) (((s3.len : Int)).toNat) (((s3.len : Int)).toNat))] 0 (fun w22 =>
  (Keeps [b1] w21 w22 ∧
  (∀ w23, Ext w22 w23 →
  (LoopT (Int × Unit) (fun t25 again24 w26 =>
  (cond (decide (t25.1 < (s6.len : Int))) (Idx s6.a s6.len t25.1 5 (fun a27 =>
  (∃ x28 : Int, w26.cell? (a27.add 0) = some (.int .i64 x28) ∧ ∃ x29 : Int, w26.cell? (a27.add 1) = some (.int .i64 x29) ∧ ∃ x30 : Int, w26.cell? (a27.add 2) = some (.int .i64 x30) ∧ ∃ x31 : Int, w26.cell? (a27.add 3) = some (.int .i64 x31) ∧ ∃ x32 : Int, w26.cell? (a27.add 4) = some (.int .i64 x32) ∧
  (∀ b33 w34, Ext w26 w34 → w26.heap.size ≤ b33 → b33 < w34.heap.size →
  (∀ w35, Off b33 w34 w35 →
  (Idx s3.a s3.len x28 1 (fun a36 =>
  (∃ x37 : Int, w35.cell? a36 = some (.int .i64 x37) ∧
  (Idx s3.a s3.len x29 1 (fun a38 =>
  (∃ x39 : Int, w35.cell? a38 = some (.int .i64 x39) ∧
  (∀ w40, Ext w35 w40 →
  (cond (decide (x37 < x39)) (Nn p9 (fun a41 =>
  (∃ s42 : SV, w40.cell? (a41.add 4) = some (.slice s42.a s42.len s42.cap) ∧
  (Nn p9 (fun a44 =>
  (∃ s45 : SV, w40.cell? (a44.add 4) = some (.slice s45.a s45.len s45.cap) ∧
  (Idx s45.a s45.len x28 1 (fun a46 =>
  (∃ s47 : SV, w40.cell? a46 = some (.slice s47.a s47.len s47.cap) ∧
  (∀ w49, Ext w40 w49 →
  (sh_hier_put s47 x29 x30 t25.1 (fun s48 w50 =>
  (Keeps [b33, b1] w49 w50 ∧
  ((∃ y43 : SV, w50.cell? (a41.add 4) = some (.slice y43.a y43.len y43.cap) ∧
  ((.slice y43.a y43.len y43.cap) : Value) = (.slice s42.a s42.len s42.cap)) ∧
  (Idx s42.a s42.len x28 1 (fun a51 =>
  (∀ w52, Ext w50 w52 →
  (stL w52 a51 [(.slice s48.a s48.len s48.cap)] 0 (fun w53 =>
  (Keeps [b33, b1] w52 w53 ∧
  (∀ w54, Ext w53 w54 →
  (again24 ((IntKind.i64.wrap (t25.1 + (1 : Int))), ()) w54))))))))))) w49))))))))))) (Nn p9 (fun a55 =>
  (∃ s56 : SV, w40.cell? (a55.add 5) = some (.slice s56.a s56.len s56.cap) ∧
  (Nn p9 (fun a58 =>
  (∃ s59 : SV, w40.cell? (a58.add 5) = some (.slice s59.a s59.len s59.cap) ∧
  (Idx s59.a s59.len x29 1 (fun a60 =>
  (∃ s61 : SV, w40.cell? a60 = some (.slice s61.a s61.len s61.cap) ∧
  (∀ w63, Ext w40 w63 →
  (sh_hier_put s61 x28 x30 t25.1 (fun s62 w64 =>
  (Keeps [b33, b1] w63 w64 ∧
  ((∃ y57 : SV, w64.cell? (a55.add 5) = some (.slice y57.a y57.len y57.cap) ∧
  ((.slice y57.a y57.len y57.cap) : Value) = (.slice s56.a s56.len s56.cap)) ∧
  (Idx s56.a s56.len x29 1 (fun a65 =>
  (∀ w66, Ext w64 w66 →
  (stL w66 a65 [(.slice s62.a s62.len s62.cap)] 0 (fun w67 =>
  (Keeps [b33, b1] w66 w67 ∧
  (∀ w68, Ext w67 w68 →
  (again24 ((IntKind.i64.wrap (t25.1 + (1 : Int))), ()) w68))))))))))) w63)))))))))))))))))))))))) (K p9 w26))) ((0 : Int), ()) w23))))))))))))))))))))))) w8))))))))))

def fn_hier_Hier_N : FuncId := 22
/-- (*postroad/hier.Hier).N -/
def sh_hier_Hier_N (h0 : Option Addr) (K : Int → World → Prop) (w : World) : Prop :=
  (cond h0.isNone (K (0 : Int) w) (Nn h0 (fun a1 => (∃ s2 : SV, w.cell? (a1.add 2) = some (.slice s2.a s2.len s2.cap) ∧ (K (s2.len : Int) w)))))

def fn_hier_Hier_Rank : FuncId := 23
/-- (*postroad/hier.Hier).Rank -/
def sh_hier_Hier_Rank (h0 : Option Addr) (v0 : Int) (K : Int → World → Prop) (w : World) : Prop :=
  (cond (decide (v0 < (0 : Int))) (K (-1 : Int) w) (sh_hier_Hier_N h0 (fun x1 w2 =>
  (cond (decide (v0 ≥ x1)) (K (-1 : Int) w2) (Nn h0 (fun a3 =>
  (∃ s4 : SV, w2.cell? ((a3.add 0).add 0) = some (.slice s4.a s4.len s4.cap) ∧
  (Idx s4.a s4.len v0 1 (fun a5 =>
  (∃ x6 : Int, w2.cell? a5 = some (.int .i64 x6) ∧
  (K x6 w2))))))))) w))

def fn_hier_Hier_Down : FuncId := 17
/-- (*postroad/hier.Hier).Down -/
def sh_hier_Hier_Down (h0 : Option Addr) (v0 : Int) (K : SV → World → Prop) (w : World) : Prop :=
  (sh_hier_Hier_Rank h0 v0 (fun x1 w2 =>
  (cond (decide (x1 < (0 : Int))) (K ⟨none, 0, 0⟩ w2) (Nn h0 (fun a3 =>
  (∃ s4 : SV, w2.cell? (a3.add 5) = some (.slice s4.a s4.len s4.cap) ∧
  (Idx s4.a s4.len v0 1 (fun a5 =>
  (∃ s6 : SV, w2.cell? a5 = some (.slice s6.a s6.len s6.cap) ∧
  (App 24 [(.int .i64 (0 : Int)), (.int .i64 (0 : Int)), (.int .i64 (0 : Int))] ⟨none, 0, 0⟩ s6 w2 (fun s7 w8 =>
  (K s7 w8))))))))))) w)

def fn_postroadref06_SameEdges : FuncId := 14
/-- postroad/postroadref06.SameEdges -/
def sh_postroadref06_SameEdges (a0 : SV) (b0 : SV) (K : Bool → World → Prop) (w : World) : Prop :=
  (cond ((a0.len : Int) != (b0.len : Int)) (K false w) (LoopT (Int × Unit) (fun t2 again1 w3 =>
  (cond (decide (t2.1 < (a0.len : Int))) (Idx a0.a a0.len t2.1 3 (fun a4 =>
  (∃ x5 : Int, w3.cell? (a4.add 0) = some (.int .i64 x5) ∧ ∃ x6 : Int, w3.cell? (a4.add 1) = some (.int .i64 x6) ∧ ∃ x7 : Int, w3.cell? (a4.add 2) = some (.int .i64 x7) ∧
  (Idx b0.a b0.len t2.1 3 (fun a8 =>
  (∃ x9 : Int, w3.cell? (a8.add 0) = some (.int .i64 x9) ∧ ∃ x10 : Int, w3.cell? (a8.add 1) = some (.int .i64 x10) ∧ ∃ x11 : Int, w3.cell? (a8.add 2) = some (.int .i64 x11) ∧
  (∀ w12, Ext w3 w12 →
  (cond (!((x5 == x9) && ((x6 == x10) && ((x7 == x11) && true)))) (K false w12) (again1 ((IntKind.i64.wrap (t2.1 + (1 : Int))), ()) w12))))))))) (K true w3))) ((0 : Int), ()) w))

def fn_hier_Hier_Up : FuncId := 15
/-- (*postroad/hier.Hier).Up -/
def sh_hier_Hier_Up (h0 : Option Addr) (v0 : Int) (K : SV → World → Prop) (w : World) : Prop :=
  (sh_hier_Hier_Rank h0 v0 (fun x1 w2 =>
  (cond (decide (x1 < (0 : Int))) (K ⟨none, 0, 0⟩ w2) (Nn h0 (fun a3 =>
  (∃ s4 : SV, w2.cell? (a3.add 4) = some (.slice s4.a s4.len s4.cap) ∧
  (Idx s4.a s4.len v0 1 (fun a5 =>
  (∃ s6 : SV, w2.cell? a5 = some (.slice s6.a s6.len s6.cap) ∧
  (App 24 [(.int .i64 (0 : Int)), (.int .i64 (0 : Int)), (.int .i64 (0 : Int))] ⟨none, 0, 0⟩ s6 w2 (fun s7 w8 =>
  (K s7 w8))))))))))) w)

def fn_postroadlaw10_known : FuncId := 12
/-- postroad/postroadlaw10.known -/
def sh_postroadlaw10_known  (K : Bool → World → Prop) (w : World) : Prop :=
  (NewB [(.int .i64 (1 : Int)), (.int .i64 (0 : Int))] w (fun b1 w2 =>
  (NewB [(.int .i64 (0 : Int)), (.int .i64 (1 : Int)), (.int .i64 (5 : Int)), (.int .i64 (-1 : Int)), (.int .i64 (0 : Int))] w2 (fun b3 w4 =>
  (sh_hier_New (⟨(some ⟨b1, 0, none⟩), 2, 2⟩) (⟨(some ⟨b3, 0, none⟩), 1, 1⟩) (fun p5 w6 =>
  (sh_hier_Hier_Down p5 (1 : Int) (fun s7 w8 =>
  (NewB [(.int .i64 (0 : Int)), (.int .i64 (5 : Int)), (.int .i64 (0 : Int))] w8 (fun b9 w10 =>
  (sh_postroadref06_SameEdges s7 (⟨(some ⟨b9, 0, none⟩), 1, 1⟩) (fun t11 w12 =>
  (cond t11 (sh_hier_Hier_Up p5 (0 : Int) (fun s13 w14 =>
  (cond ((s13.len : Int) == (0 : Int)) (sh_hier_Hier_N none (fun x15 w16 =>
  (cond (x15 == (0 : Int)) (sh_hier_Hier_Rank none (0 : Int) (fun x17 w18 =>
  (K (x17 == (-1 : Int)) w18)) w16) (K false w16))) w14) (K false w14))) w12) (K false w12))) w10)))) w6)) w4)))))

def fn_postroadref10_put : FuncId := 34
/-- postroad/postroadref10.put -/
def sh_postroadref10_put (l0 : SV) (e0_V : Int) (e0_W : Int) (e0_Arc : Int) (K : SV → World → Prop) (w : World) : Prop :=
  (∀ b1 w2, Ext w w2 → w.heap.size ≤ b1 → b1 < w2.heap.size →
  (Join (Int × Unit) (fun J3 =>
  (LoopT (Int × Unit) (fun t5 again4 w6 =>
  (cond (decide (t5.1 < (l0.len : Int))) (Idx l0.a l0.len t5.1 3 (fun a7 =>
  (∃ x8 : Int, w6.cell? (a7.add 0) = some (.int .i64 x8) ∧
  (∀ w9, Ext w6 w9 →
  (cond (decide (x8 < e0_V)) (again4 ((IntKind.i64.wrap (t5.1 + (1 : Int))), ()) w9) (J3 (t5.1, ()) w9)))))) (∀ w10, Ext w6 w10 →
  (J3 (t5.1, ()) w10)))) ((0 : Int), ()) w2))
  (fun t11 w12 =>
  (semSlice 3 l0.a l0.len l0.cap none (some t11.1) (fun s13 =>
  (App 24 [(.int .i64 (0 : Int)), (.int .i64 (0 : Int)), (.int .i64 (0 : Int))] ⟨none, 0, 0⟩ s13 w12 (fun s14 w15 =>
  (Keeps [b1] w12 w15 ∧
  (NewB [(.int .i64 e0_V), (.int .i64 e0_W), (.int .i64 e0_Arc)] w15 (fun b16 w17 =>
  (App 24 [(.int .i64 (0 : Int)), (.int .i64 (0 : Int)), (.int .i64 (0 : Int))] s14 ⟨(some ⟨b16, 0, none⟩), 1, 1⟩ w17 (fun s18 w19 =>
  (Keeps [b1] w17 w19 ∧
  (semSlice 3 l0.a l0.len l0.cap (some t11.1) none (fun s20 =>
  (App 24 [(.int .i64 (0 : Int)), (.int .i64 (0 : Int)), (.int .i64 (0 : Int))] s18 s20 w19 (fun s21 w22 =>
  (Keeps [b1] w19 w22 ∧
  (K s21 w22)))))))))))))))))))

def fn_postroadref10_Up : FuncId := 16
/-- postroad/postroadref10.Up -/
def sh_postroadref10_Up (h0_Rank : SV) (h0_Ways : SV) (v0 : Int) (K : SV → World → Prop) (w : World) : Prop :=
  (∀ b1 w2, Ext w w2 → w.heap.size ≤ b1 → b1 < w2.heap.size →
  (LoopT (SV × Int × Unit) (fun t4 again3 w5 =>
  (cond (decide (t4.2.1 < (h0_Ways.len : Int))) (Join (SV × Unit) (fun J6 =>
  (Idx h0_Ways.a h0_Ways.len t4.2.1 5 (fun a7 =>
  (∃ x8 : Int, w5.cell? (a7.add 0) = some (.int .i64 x8) ∧ ∃ x9 : Int, w5.cell? (a7.add 1) = some (.int .i64 x9) ∧ ∃ x10 : Int, w5.cell? (a7.add 2) = some (.int .i64 x10) ∧ ∃ x11 : Int, w5.cell? (a7.add 3) = some (.int .i64 x11) ∧ ∃ x12 : Int, w5.cell? (a7.add 4) = some (.int .i64 x12) ∧
  (∀ b13 w14, Ext w5 w14 → w5.heap.size ≤ b13 → b13 < w14.heap.size →
  (∀ w15, Off b13 w14 w15 →
  (cond (x8 == v0) (Idx h0_Rank.a h0_Rank.len x9 1 (fun a16 =>
  (∃ x17 : Int, w15.cell? a16 = some (.int .i64 x17) ∧
  (Idx h0_Rank.a h0_Rank.len v0 1 (fun a18 =>
  (∃ x19 : Int, w15.cell? a18 = some (.int .i64 x19) ∧
  (∀ w20, Ext w15 w20 →
  (cond (decide (x17 > x19)) (sh_postroadref10_put t4.1 x9 x10 t4.2.1 (fun s21 w22 =>
  (Keeps [b13, b1] w20 w22 ∧
  (J6 (s21, ()) w22))) w20) (J6 (t4.1, ()) w20))))))))) (∀ w23, Ext w15 w23 →
  (J6 (t4.1, ()) w23)))))))))
  (fun t24 w25 =>
  (again3 (t24.1, (IntKind.i64.wrap (t4.2.1 + (1 : Int))), ()) w25))) (K t4.1 w5))) (⟨none, 0, 0⟩, (0 : Int), ()) w2))

def fn_postroadref10_Down : FuncId := 18
/-- postroad/postroadref10.Down -/
def sh_postroadref10_Down (h0_Rank : SV) (h0_Ways : SV) (v0 : Int) (K : SV → World → Prop) (w : World) : Prop :=
  (∀ b1 w2, Ext w w2 → w.heap.size ≤ b1 → b1 < w2.heap.size →
  (LoopT (SV × Int × Unit) (fun t4 again3 w5 =>
  (cond (decide (t4.2.1 < (h0_Ways.len : Int))) (Join (SV × Unit) (fun J6 =>
  (Idx h0_Ways.a h0_Ways.len t4.2.1 5 (fun a7 =>
  (∃ x8 : Int, w5.cell? (a7.add 0) = some (.int .i64 x8) ∧ ∃ x9 : Int, w5.cell? (a7.add 1) = some (.int .i64 x9) ∧ ∃ x10 : Int, w5.cell? (a7.add 2) = some (.int .i64 x10) ∧ ∃ x11 : Int, w5.cell? (a7.add 3) = some (.int .i64 x11) ∧ ∃ x12 : Int, w5.cell? (a7.add 4) = some (.int .i64 x12) ∧
  (∀ b13 w14, Ext w5 w14 → w5.heap.size ≤ b13 → b13 < w14.heap.size →
  (∀ w15, Off b13 w14 w15 →
  (cond (x9 == v0) (Idx h0_Rank.a h0_Rank.len x8 1 (fun a16 =>
  (∃ x17 : Int, w15.cell? a16 = some (.int .i64 x17) ∧
  (Idx h0_Rank.a h0_Rank.len v0 1 (fun a18 =>
  (∃ x19 : Int, w15.cell? a18 = some (.int .i64 x19) ∧
  (∀ w20, Ext w15 w20 →
  (cond (decide (x17 > x19)) (sh_postroadref10_put t4.1 x8 x10 t4.2.1 (fun s21 w22 =>
  (Keeps [b13, b1] w20 w22 ∧
  (J6 (s21, ()) w22))) w20) (J6 (t4.1, ()) w20))))))))) (∀ w23, Ext w15 w23 →
  (J6 (t4.1, ()) w23)))))))))
  (fun t24 w25 =>
  (again3 (t24.1, (IntKind.i64.wrap (t4.2.1 + (1 : Int))), ()) w25))) (K t4.1 w5))) (⟨none, 0, 0⟩, (0 : Int), ()) w2))

def fn_postroadlaw10_HierSides : FuncId := 3
/-- postroad/postroadlaw10.HierSides -/
def sh_postroadlaw10_HierSides (h0_Rank : SV) (h0_Ways : SV) (K : Bool → World → Prop) (w : World) : Prop :=
  (∀ b1 w2, Ext w w2 → w.heap.size ≤ b1 → b1 < w2.heap.size →
  (sh_postroadlaw10_long h0_Rank h0_Ways (fun t3 w4 =>
  (Keeps [b1] w2 w4 ∧
  (cond t3 (sh_postroadlaw10_known  (fun t5 w6 =>
  (Keeps [b1] w4 w6 ∧
  (K t5 w6))) w4) (sh_postroadref10_Check h0_Rank h0_Ways (fun x7 w8 =>
  (Keeps [b1] w4 w8 ∧
  (cond (x7 != (0 : Int)) (sh_postroadlaw10_known  (fun t9 w10 =>
  (Keeps [b1] w8 w10 ∧
  (K t9 w10))) w8) (sh_hier_New h0_Rank h0_Ways (fun p11 w12 =>
  (Keeps [b1] w8 w12 ∧
  (Join (Unit) (fun J13 =>
  (LoopT (Int × Unit) (fun t15 again14 w16 =>
  (cond (decide (t15.1 < (h0_Rank.len : Int))) (∀ w18, Ext w16 w18 →
  (sh_hier_Hier_Up p11 t15.1 (fun s17 w19 =>
  (Keeps [b1] w18 w19 ∧
  (∀ w21, Ext w19 w21 →
  (sh_postroadref10_Up h0_Rank h0_Ways t15.1 (fun s20 w22 =>
  (Keeps [b1] w21 w22 ∧
  (Quiet (Bool) (fun r24 =>
  (.bool r24)) (fun K25 w26' => sh_postroadref06_SameEdges s17 s20 (fun t23 w26 => K25 t23 w26) w26') w22 (fun r24 =>
  (cond (!r24) (∀ w27, Ext w22 w27 →
  (K false w27)) (∀ w29, Ext w22 w29 →
  (sh_hier_Hier_Down p11 t15.1 (fun s28 w30 =>
  (Keeps [b1] w29 w30 ∧
  (∀ w32, Ext w30 w32 →
  (sh_postroadref10_Down h0_Rank h0_Ways t15.1 (fun s31 w33 =>
  (Keeps [b1] w32 w33 ∧
  (Quiet (Bool) (fun r35 =>
  (.bool r35)) (fun K36 w37' => sh_postroadref06_SameEdges s28 s31 (fun t34 w37 => K36 t34 w37) w37') w33 (fun r35 =>
  (∀ w38, Ext w33 w38 →
  (cond (!r35) (K false w38) (again14 ((IntKind.i64.wrap (t15.1 + (1 : Int))), ()) w38))))))) w32)))) w29))))))) w21)))) w18)) (J13 () w16))) ((0 : Int), ()) w12))
  (fun t39 w40 =>
  (sh_hier_Hier_Up p11 (-1 : Int) (fun s41 w42 =>
  (Keeps [b1] w40 w42 ∧
  (cond ((s41.len : Int) == (0 : Int)) (sh_hier_Hier_Down p11 (h0_Rank.len : Int) (fun s43 w44 =>
  (Keeps [b1] w42 w44 ∧
  (cond ((s43.len : Int) == (0 : Int)) (sh_postroadlaw10_known  (fun t45 w46 =>
  (Keeps [b1] w44 w46 ∧
  (K t45 w46))) w44) (K false w44)))) w42) (K false w42)))) w40))))) w8)))) w4)))) w2))

def fn_postroadlaw10_HierTwo : FuncId := 4
/-- postroad/postroadlaw10.HierTwo -/
def sh_postroadlaw10_HierTwo (h0_Rank : SV) (h0_Ways : SV) (g0_Rank : SV) (g0_Ways : SV) (v0 : Int) (K : Bool → World → Prop) (w : World) : Prop :=
  (∀ b1 w2, Ext w w2 → w.heap.size ≤ b1 → b1 < w2.heap.size →
  (∀ b3 w4, Ext w2 w4 → w2.heap.size ≤ b3 → b3 < w4.heap.size →
  (sh_postroadlaw10_long h0_Rank h0_Ways (fun t5 w6 =>
  (Keeps [b3, b1] w4 w6 ∧
  (cond t5 (sh_postroadlaw10_known  (fun t7 w8 =>
  (Keeps [b3, b1] w6 w8 ∧
  (K t7 w8))) w6) (sh_postroadlaw10_long g0_Rank g0_Ways (fun t9 w10 =>
  (Keeps [b3, b1] w6 w10 ∧
  (cond t9 (sh_postroadlaw10_known  (fun t11 w12 =>
  (Keeps [b3, b1] w10 w12 ∧
  (K t11 w12))) w10) (sh_postroadref10_Check h0_Rank h0_Ways (fun x13 w14 =>
  (Keeps [b3, b1] w10 w14 ∧
  (cond (x13 != (0 : Int)) (sh_postroadlaw10_known  (fun t15 w16 =>
  (Keeps [b3, b1] w14 w16 ∧
  (K t15 w16))) w14) (sh_hier_New h0_Rank h0_Ways (fun p17 w18 =>
  (Keeps [b3, b1] w14 w18 ∧
  (sh_hier_Hier_Up p17 v0 (fun s19 w20 =>
  (Keeps [b3, b1] w18 w20 ∧
  (sh_hier_New g0_Rank g0_Ways (fun p21 w22 =>
  (Keeps [b3, b1] w20 w22 ∧
  (sh_hier_Hier_Up p21 v0 (fun s23 w24 =>
  (Keeps [b3, b1] w22 w24 ∧
  (sh_hier_Hier_Down p17 v0 (fun s25 w26 =>
  (Keeps [b3, b1] w24 w26 ∧
  (Join (Unit) (fun J27 =>
  (LoopT (Int × Unit) (fun t29 again28 w30 =>
  (cond (decide (t29.1 < (s19.len : Int))) (Idx s19.a s19.len t29.1 3 (fun a31 =>
  (stL w30 (a31.add 0) [(.int .i64 (-7 : Int))] 0 (fun w32 =>
  (Keeps [b3, b1] w30 w32 ∧
  (again28 ((IntKind.i64.wrap (t29.1 + (1 : Int))), ()) w32)))))) (J27 () w30))) ((0 : Int), ()) w26))
  (fun t33 w34 =>
  (Join (Unit) (fun J35 =>
  (LoopT (Int × Unit) (fun t37 again36 w38 =>
  (cond (decide (t37.1 < (s25.len : Int))) (Idx s25.a s25.len t37.1 3 (fun a39 =>
  (stL w38 (a39.add 1) [(.int .i64 (-7 : Int))] 0 (fun w40 =>
  (Keeps [b3, b1] w38 w40 ∧
  (again36 ((IntKind.i64.wrap (t37.1 + (1 : Int))), ()) w40)))))) (J35 () w38))) ((0 : Int), ()) w34))
  (fun t41 w42 =>
  (sh_hier_Hier_Up p17 v0 (fun s43 w44 =>
  (Keeps [b3, b1] w42 w44 ∧
  (sh_hier_Hier_Down p17 v0 (fun s45 w46 =>
  (Keeps [b3, b1] w44 w46 ∧
  (Join (Unit) (fun J47 =>
  (LoopT (Int × Unit) (fun t49 again48 w50 =>
  (cond (decide (t49.1 < (s43.len : Int))) (Idx s43.a s43.len t49.1 3 (fun a51 =>
  (∃ x52 : Int, w50.cell? (a51.add 0) = some (.int .i64 x52) ∧
  (cond (decide (x52 < (0 : Int))) (K false w50) (again48 ((IntKind.i64.wrap (t49.1 + (1 : Int))), ()) w50))))) (J47 () w50))) ((0 : Int), ()) w46))
  (fun t53 w54 =>
  (Join (Unit) (fun J55 =>
  (LoopT (Int × Unit) (fun t57 again56 w58 =>
  (cond (decide (t57.1 < (s45.len : Int))) (Idx s45.a s45.len t57.1 3 (fun a59 =>
  (∃ x60 : Int, w58.cell? (a59.add 1) = some (.int .i64 x60) ∧
  (cond (decide (x60 < (0 : Int))) (K false w58) (again56 ((IntKind.i64.wrap (t57.1 + (1 : Int))), ()) w58))))) (J55 () w58))) ((0 : Int), ()) w54))
  (fun t61 w62 =>
  (cond ((s43.len : Int) == (s19.len : Int)) (cond ((s45.len : Int) == (s25.len : Int)) (sh_postroadlaw10_known  (fun t63 w64 =>
  (Keeps [b3, b1] w62 w64 ∧
  (K t63 w64))) w62) (K false w62)) (K false w62)))))))) w44))) w42))))))) w24))) w22))) w20))) w18))) w14)))) w10)))) w6)))) w4)))

def fn_postroadref06_part : FuncId := 43
/-- postroad/postroadref06.part -/
def sh_postroadref06_part (x0 : Int) (n0 : Int) (K : Int → World → Prop) (w : World) : Prop :=
  (if n0 = 0 then False else (cond (decide ((x0.tmod n0) < (0 : Int))) (K (IntKind.i64.wrap ((x0.tmod n0) + n0)) w) (K (x0.tmod n0) w)))

def fn_postroadref06_Of : FuncId := 35
/-- postroad/postroadref06.Of -/
def sh_postroadref06_Of (n0 : Int) (arcs0 : SV) (K : Int → SV → World → Prop) (w : World) : Prop :=
  (∀ b1 w2, Ext w w2 → w.heap.size ≤ b1 → b1 < w2.heap.size →
  (∀ b3 w4, Ext w2 w4 → w2.heap.size ≤ b3 → b3 < w4.heap.size →
  (∀ w5, Off b3 w4 w5 →
  (Join ((Int × SV × Unit) × Unit) (fun J6 =>
  (LoopT (Int × (Int × SV × Unit) × Unit) (fun t8 again7 w9 =>
  (cond (decide (t8.1 < (arcs0.len : Int))) (cond (decide (t8.1 < (40 : Int))) (Idx arcs0.a arcs0.len t8.1 3 (fun a10 =>
  (∃ x11 : Int, w9.cell? (a10.add 0) = some (.int .i64 x11) ∧ ∃ x12 : Int, w9.cell? (a10.add 1) = some (.int .i64 x12) ∧ ∃ x13 : Int, w9.cell? (a10.add 2) = some (.int .i64 x13) ∧
  (∀ b14 w15, Ext w9 w15 → w9.heap.size ≤ b14 → b14 < w15.heap.size →
  (∀ w16, Off b14 w15 w16 →
  (Quiet (Int) (fun r18 =>
  (.int .i64 r18)) (fun K19 w20' => sh_postroadref06_part x11 (if (if (12 : Int) < n0 then (12 : Int) else n0) > (1 : Int) then (if (12 : Int) < n0 then (12 : Int) else n0) else (1 : Int)) (fun x17 w20 => K19 x17 w20) w20') w16 (fun r18 =>
  (Quiet (Int) (fun r22 =>
  (.int .i64 r22)) (fun K23 w24' => sh_postroadref06_part x12 (if (if (12 : Int) < n0 then (12 : Int) else n0) > (1 : Int) then (if (12 : Int) < n0 then (12 : Int) else n0) else (1 : Int)) (fun x21 w24 => K23 x21 w24) w24') w16 (fun r22 =>
  (Quiet (Int) (fun r26 =>
  (.int .i64 r26)) (fun K27 w28' => sh_postroadref06_part x13 (2147483649 : Int) (fun x25 w28 => K27 x25 w28) w28') w16 (fun r26 =>
  (∀ w29, Ext w16 w29 →
  (NewB [(.int .i64 r18), (.int .i64 r22), (.int .i64 r26)] w29 (fun b30 w31 =>
  (∀ w32, Ext w31 w32 →
  (App 24 [(.int .i64 (0 : Int)), (.int .i64 (0 : Int)), (.int .i64 (0 : Int))] t8.2.1.2.1 ⟨(some ⟨b30, 0, none⟩), 1, 1⟩ w32 (fun s33 w34 =>
  (Keeps [b14, b3, b1] w32 w34 ∧
  (∀ w35, Ext w34 w35 →
  (∀ w36, Off b3 w35 w36 →
  (∀ w37, Ext w36 w37 →
  (again7 ((IntKind.i64.wrap (t8.1 + (1 : Int))), (t8.2.1.1, s33, ()), ()) w37)))))))))))))))))))))) (J6 ((t8.2.1.1, t8.2.1.2.1, ()), ()) w9)) (J6 ((t8.2.1.1, t8.2.1.2.1, ()), ()) w9))) ((0 : Int), ((if (if (12 : Int) < n0 then (12 : Int) else n0) > (1 : Int) then (if (12 : Int) < n0 then (12 : Int) else n0) else (1 : Int)), ⟨none, 0, 0⟩, ()), ()) w5))
  (fun t38 w39 =>
  (∀ w40, Off b1 w39 w40 →
  (K t38.1.1 t38.1.2.1 w40)))))))

def fn_postroadref07_Of : FuncId := 19
/-- postroad/postroadref07.Of -/
def sh_postroadref07_Of (n0 : Int) (arcs0 : SV) (K : Int → SV → World → Prop) (w : World) : Prop :=
  (∀ b1 w2, Ext w w2 → w.heap.size ≤ b1 → b1 < w2.heap.size → (sh_postroadref06_Of n0 arcs0 (fun x3 s4 w5 => (Keeps [b1] w2 w5 ∧ (∀ w6, Off b1 w5 w6 → (K x3 s4 w6)))) w2))

def fn_postroadref05_Check : FuncId := 44
/-- postroad/postroadref05.Check -/
def sh_postroadref05_Check (m0_N : Int) (m0_Arcs : SV) (K : Int → World → Prop) (w : World) : Prop :=
  (∀ b1 w2, Ext w w2 → w.heap.size ≤ b1 → b1 < w2.heap.size →
  (cond (decide (m0_N > (16777216 : Int))) (K (3 : Int) w2) (cond (decide ((m0_Arcs.len : Int) > (67108864 : Int))) (K (3 : Int) w2) (cond (decide (m0_N < (0 : Int))) (K (2 : Int) w2) (LoopT (Int × Unit) (fun t4 again3 w5 =>
  (cond (decide (t4.1 < (m0_Arcs.len : Int))) (Idx m0_Arcs.a m0_Arcs.len t4.1 3 (fun a6 =>
  (∃ x7 : Int, w5.cell? (a6.add 0) = some (.int .i64 x7) ∧ ∃ x8 : Int, w5.cell? (a6.add 1) = some (.int .i64 x8) ∧ ∃ x9 : Int, w5.cell? (a6.add 2) = some (.int .i64 x9) ∧
  (∀ b10 w11, Ext w5 w11 → w5.heap.size ≤ b10 → b10 < w11.heap.size →
  (∀ w12, Off b10 w11 w12 →
  (cond (decide (x7 < (0 : Int))) (K (2 : Int) w12) (cond (decide (x7 ≥ m0_N)) (K (2 : Int) w12) (cond (decide (x8 < (0 : Int))) (K (2 : Int) w12) (cond (decide (x8 ≥ m0_N)) (K (2 : Int) w12) (cond (decide (x9 < (0 : Int))) (K (2 : Int) w12) (cond (decide (x9 > (2147483648 : Int))) (K (2 : Int) w12) (again3 ((IntKind.i64.wrap (t4.1 + (1 : Int))), ()) w12)))))))))))) (K (0 : Int) w5))) ((0 : Int), ()) w2)))))

def fn_postroadref06_counts : FuncId := 45
/-- postroad/postroadref06.counts -/
def sh_postroadref06_counts (m0_N : Int) (m0_Arcs : SV) (k0 : Int) (K : Bool → World → Prop) (w : World) : Prop :=
  (∀ b1 w2, Ext w w2 → w.heap.size ≤ b1 → b1 < w2.heap.size →
  (Idx m0_Arcs.a m0_Arcs.len k0 3 (fun a3 =>
  (∃ x4 : Int, w2.cell? (a3.add 0) = some (.int .i64 x4) ∧ ∃ x5 : Int, w2.cell? (a3.add 1) = some (.int .i64 x5) ∧ ∃ x6 : Int, w2.cell? (a3.add 2) = some (.int .i64 x6) ∧
  (∀ b7 w8, Ext w2 w8 → w2.heap.size ≤ b7 → b7 < w8.heap.size →
  (∀ w9, Off b7 w8 w9 →
  (cond (x4 == x5) (K false w9) (LoopT (Int × Unit) (fun t11 again10 w12 =>
  (cond (decide (t11.1 < (m0_Arcs.len : Int))) (Join (Unit) (fun J13 =>
  (Idx m0_Arcs.a m0_Arcs.len t11.1 3 (fun a14 =>
  (∃ x15 : Int, w12.cell? (a14.add 0) = some (.int .i64 x15) ∧ ∃ x16 : Int, w12.cell? (a14.add 1) = some (.int .i64 x16) ∧ ∃ x17 : Int, w12.cell? (a14.add 2) = some (.int .i64 x17) ∧
  (∀ b18 w19, Ext w12 w19 → w12.heap.size ≤ b18 → b18 < w19.heap.size →
  (∀ w20, Off b18 w19 w20 →
  (cond (x15 == x4) (cond (x16 == x5) (cond (decide (x17 < x6)) (K false w20) (cond (x17 == x6) (cond (decide (t11.1 < k0)) (K false w20) (J13 () w20)) (J13 () w20))) (J13 () w20)) (J13 () w20))))))))
  (fun t21 w22 =>
  (again10 ((IntKind.i64.wrap (t11.1 + (1 : Int))), ()) w22))) (K true w12))) ((0 : Int), ()) w9))))))))

def fn_postroadref06_New : FuncId := 36
/-- postroad/postroadref06.New -/
def sh_postroadref06_New (m0_N : Int) (m0_Arcs : SV) (K : Int → SV → SV → Bool → World → Prop) (w : World) : Prop :=
  (∀ b1 w2, Ext w w2 → w.heap.size ≤ b1 → b1 < w2.heap.size →
  (∀ b3 w4, Ext w2 w4 → w2.heap.size ≤ b3 → b3 < w4.heap.size →
  (sh_postroadref05_Check m0_N m0_Arcs (fun x5 w6 =>
  (Keeps [b3, b1] w4 w6 ∧
  (cond (x5 != (0 : Int)) (∀ w7, Off b3 w6 w7 →
  (K (0 : Int) ⟨none, 0, 0⟩ ⟨none, 0, 0⟩ false w7)) (∀ b8 w9, Ext w6 w9 → w6.heap.size ≤ b8 → b8 < w9.heap.size →
  (∀ w10, Off b8 w9 w10 →
  (Join ((Int × SV × SV × Unit) × Unit) (fun J11 =>
  (LoopT (Int × (Int × SV × SV × Unit) × Unit) (fun t13 again12 w14 =>
  (cond (decide (t13.1 < (m0_Arcs.len : Int))) (Join (Int × Unit) (fun J15 =>
  (sh_postroadref06_counts m0_N m0_Arcs t13.1 (fun t16 w17 =>
  (Keeps [b8, b3, b1] w14 w17 ∧
  (cond t16 (J15 ((1 : Int), ()) w17) (J15 ((0 : Int), ()) w17)))) w14))
  (fun t18 w19 =>
  (NewB [(.int .i64 t18.1)] w19 (fun b20 w21 =>
  (App 8 [(.int .i64 (0 : Int))] t13.2.1.2.2.1 ⟨(some ⟨b20, 0, none⟩), 1, 1⟩ w21 (fun s22 w23 =>
  (Keeps [b8, b3, b1] w21 w23 ∧
  (∀ w24, Off b8 w23 w24 →
  (again12 ((IntKind.i64.wrap (t13.1 + (1 : Int))), (t13.2.1.1, t13.2.1.2.1, s22, ()), ()) w24))))))))) (J11 ((t13.2.1.1, t13.2.1.2.1, t13.2.1.2.2.1, ()), ()) w14))) ((0 : Int), (m0_N, m0_Arcs, ⟨none, 0, 0⟩, ()), ()) w10))
  (fun t25 w26 =>
  (∀ w27, Off b3 w26 w27 →
  (K t25.1.1 t25.1.2.1 t25.1.2.2.1 true w27))))))))) w4)))

def fn_postroadref06_put : FuncId := 59
/-- postroad/postroadref06.put -/
def sh_postroadref06_put (l0 : SV) (e0_V : Int) (e0_W : Int) (e0_Arc : Int) (K : SV → World → Prop) (w : World) : Prop :=
  (∀ b1 w2, Ext w w2 → w.heap.size ≤ b1 → b1 < w2.heap.size →
  (Join (Int × Unit) (fun J3 =>
  (LoopT (Int × Unit) (fun t5 again4 w6 =>
  (cond (decide (t5.1 < (l0.len : Int))) (Idx l0.a l0.len t5.1 3 (fun a7 =>
  (∃ x8 : Int, w6.cell? (a7.add 0) = some (.int .i64 x8) ∧
  (∀ w9, Ext w6 w9 →
  (cond (decide (x8 < e0_V)) (again4 ((IntKind.i64.wrap (t5.1 + (1 : Int))), ()) w9) (J3 (t5.1, ()) w9)))))) (∀ w10, Ext w6 w10 →
  (J3 (t5.1, ()) w10)))) ((0 : Int), ()) w2))
  (fun t11 w12 =>
  (semSlice 3 l0.a l0.len l0.cap none (some t11.1) (fun s13 =>
  (App 24 [(.int .i64 (0 : Int)), (.int .i64 (0 : Int)), (.int .i64 (0 : Int))] ⟨none, 0, 0⟩ s13 w12 (fun s14 w15 =>
  (Keeps [b1] w12 w15 ∧
  (NewB [(.int .i64 e0_V), (.int .i64 e0_W), (.int .i64 e0_Arc)] w15 (fun b16 w17 =>
  (App 24 [(.int .i64 (0 : Int)), (.int .i64 (0 : Int)), (.int .i64 (0 : Int))] s14 ⟨(some ⟨b16, 0, none⟩), 1, 1⟩ w17 (fun s18 w19 =>
  (Keeps [b1] w17 w19 ∧
  (semSlice 3 l0.a l0.len l0.cap (some t11.1) none (fun s20 =>
  (App 24 [(.int .i64 (0 : Int)), (.int .i64 (0 : Int)), (.int .i64 (0 : Int))] s18 s20 w19 (fun s21 w22 =>
  (Keeps [b1] w19 w22 ∧
  (K s21 w22)))))))))))))))))))

def fn_postroadref06_Out : FuncId := 54
/-- postroad/postroadref06.Out -/
def sh_postroadref06_Out (g0_M_N : Int) (g0_M_Arcs : SV) (g0_Kept : SV) (v0 : Int) (K : SV → World → Prop) (w : World) : Prop :=
  (∀ b1 w2, Ext w w2 → w.heap.size ≤ b1 → b1 < w2.heap.size →
  (LoopT (SV × Int × Unit) (fun t4 again3 w5 =>
  (cond (decide (t4.2.1 < (g0_Kept.len : Int))) (Join (SV × Unit) (fun J6 =>
  (Idx g0_Kept.a g0_Kept.len t4.2.1 1 (fun a7 =>
  (∃ x8 : Int, w5.cell? a7 = some (.int .i64 x8) ∧
  (cond (x8 == (1 : Int)) (Idx g0_M_Arcs.a g0_M_Arcs.len t4.2.1 3 (fun a9 =>
  (∃ x10 : Int, w5.cell? (a9.add 0) = some (.int .i64 x10) ∧
  (cond (x10 == v0) (Idx g0_M_Arcs.a g0_M_Arcs.len t4.2.1 3 (fun a11 =>
  (∃ x12 : Int, w5.cell? (a11.add 1) = some (.int .i64 x12) ∧
  (Idx g0_M_Arcs.a g0_M_Arcs.len t4.2.1 3 (fun a13 =>
  (∃ x14 : Int, w5.cell? (a13.add 2) = some (.int .i64 x14) ∧
  (∀ w16, Ext w5 w16 →
  (sh_postroadref06_put t4.1 x12 x14 t4.2.1 (fun s15 w17 =>
  (Keeps [b1] w16 w17 ∧
  (∀ w18, Ext w17 w18 →
  (J6 (s15, ()) w18)))) w16)))))))) (J6 (t4.1, ()) w5))))) (J6 (t4.1, ()) w5))))))
  (fun t19 w20 =>
  (again3 (t19.1, (IntKind.i64.wrap (t4.2.1 + (1 : Int))), ()) w20))) (K t4.1 w5))) (⟨none, 0, 0⟩, (0 : Int), ()) w2))

def fn_postroadref08_New : FuncId := 46
/-- postroad/postroadref08.New -/
def sh_postroadref08_New (g0_M_N : Int) (g0_M_Arcs : SV) (g0_Kept : SV) (K : Int → SV → SV → SV → World → Prop) (w : World) : Prop :=
  (∀ b1 w2, Ext w w2 → w.heap.size ≤ b1 → b1 < w2.heap.size →
  (∀ b3 w4, Ext w2 w4 → w2.heap.size ≤ b3 → b3 < w4.heap.size →
  (∀ b5 w6, Ext w4 w6 → w4.heap.size ≤ b5 → b5 < w6.heap.size →
  (∀ w7, Off b5 w6 w7 →
  (Join ((Int × SV × SV × SV × Unit) × Unit) (fun J8 =>
  (LoopT (Int × (Int × SV × SV × SV × Unit) × Unit) (fun t10 again9 w11 =>
  (cond (decide (t10.1 < t10.2.1.1)) (Join ((Int × SV × SV × SV × Unit) × Unit) (fun J12 =>
  (NewB [(.int .i64 (1 : Int))] w11 (fun b13 w14 =>
  (App 8 [(.int .i64 (0 : Int))] t10.2.1.2.1 ⟨(some ⟨b13, 0, none⟩), 1, 1⟩ w14 (fun s15 w16 =>
  (Keeps [b5, b3, b1] w14 w16 ∧
  (∀ w17, Off b5 w16 w17 →
  (NewB [(.int .i64 (0 : Int))] w17 (fun b18 w19 =>
  (App 8 [(.int .i64 (0 : Int))] t10.2.1.2.2.2.1 ⟨(some ⟨b18, 0, none⟩), 1, 1⟩ w19 (fun s20 w21 =>
  (Keeps [b5, b3, b1] w19 w21 ∧
  (∀ w22, Off b5 w21 w22 →
  (sh_postroadref06_Out g0_M_N g0_M_Arcs g0_Kept t10.1 (fun s23 w24 =>
  (Keeps [b5, b3, b1] w22 w24 ∧
  (LoopT (Int × (Int × SV × SV × SV × Unit) × Unit) (fun t26 again25 w27 =>
  (cond (decide (t26.1 < (s23.len : Int))) (Idx s23.a s23.len t26.1 3 (fun a28 =>
  (∃ x29 : Int, w27.cell? (a28.add 0) = some (.int .i64 x29) ∧
  (Idx s23.a s23.len t26.1 3 (fun a30 =>
  (∃ x31 : Int, w27.cell? (a30.add 1) = some (.int .i64 x31) ∧
  (Idx s23.a s23.len t26.1 3 (fun a32 =>
  (∃ x33 : Int, w27.cell? (a32.add 2) = some (.int .i64 x33) ∧
  (∀ w34, Ext w27 w34 →
  (NewB [(.int .i64 t10.1), (.int .i64 x29), (.int .i64 x31), (.int .i64 (-1 : Int)), (.int .i64 x33)] w34 (fun b35 w36 =>
  (∀ w37, Ext w36 w37 →
  (App 40 [(.int .i64 (0 : Int)), (.int .i64 (0 : Int)), (.int .i64 (0 : Int)), (.int .i64 (0 : Int)), (.int .i64 (0 : Int))] t26.2.1.2.2.1 ⟨(some ⟨b35, 0, none⟩), 1, 1⟩ w37 (fun s38 w39 =>
  (Keeps [b5, b3, b1] w37 w39 ∧
  (∀ w40, Ext w39 w40 →
  (∀ w41, Off b5 w40 w41 →
  (∀ w42, Ext w41 w42 →
  (again25 ((IntKind.i64.wrap (t26.1 + (1 : Int))), (t26.2.1.1, t26.2.1.2.1, s38, t26.2.1.2.2.2.1, ()), ()) w42)))))))))))))))))))) (J12 ((t26.2.1.1, t26.2.1.2.1, t26.2.1.2.2.1, t26.2.1.2.2.2.1, ()), ()) w27))) ((0 : Int), (t10.2.1.1, s15, t10.2.1.2.2.1, s20, ()), ()) w24))) w22))))))))))))))
  (fun t43 w44 =>
  (again9 ((IntKind.i64.wrap (t10.1 + (1 : Int))), (t43.1.1, t43.1.2.1, t43.1.2.2.1, t43.1.2.2.2.1, ()), ()) w44))) (J8 ((t10.2.1.1, t10.2.1.2.1, t10.2.1.2.2.1, t10.2.1.2.2.2.1, ()), ()) w11))) ((0 : Int), (g0_M_N, ⟨none, 0, 0⟩, ⟨none, 0, 0⟩, ⟨none, 0, 0⟩, ()), ()) w7))
  (fun t45 w46 =>
  (∀ w47, Off b3 w46 w47 →
  (K t45.1.1 t45.1.2.1 t45.1.2.2.1 t45.1.2.2.2.1 w47))))))))

def fn_postroadref08_Places : FuncId := 55
/-- postroad/postroadref08.Places -/
def sh_postroadref08_Places (t0_N : Int) (t0_In : SV) (t0_L : SV) (t0_Lost : SV) (K : SV → World → Prop) (w : World) : Prop :=
  (∀ b1 w2, Ext w w2 → w.heap.size ≤ b1 → b1 < w2.heap.size →
  (LoopT (SV × Int × Unit) (fun t4 again3 w5 =>
  (cond (decide (t4.2.1 < t0_N)) (Join (SV × Unit) (fun J6 =>
  (Idx t0_In.a t0_In.len t4.2.1 1 (fun a7 =>
  (∃ x8 : Int, w5.cell? a7 = some (.int .i64 x8) ∧
  (cond (x8 == (1 : Int)) (NewB [(.int .i64 t4.2.1)] w5 (fun b9 w10 =>
  (App 8 [(.int .i64 (0 : Int))] t4.1 ⟨(some ⟨b9, 0, none⟩), 1, 1⟩ w10 (fun s11 w12 =>
  (Keeps [b1] w10 w12 ∧
  (J6 (s11, ()) w12)))))) (J6 (t4.1, ()) w5))))))
  (fun t13 w14 =>
  (again3 (t13.1, (IntKind.i64.wrap (t4.2.1 + (1 : Int))), ()) w14))) (K t4.1 w5))) (⟨none, 0, 0⟩, (0 : Int), ()) w2))

def fn_postroadref08_is : FuncId := 58
/-- postroad/postroadref08.is -/
def sh_postroadref08_is (t0_N : Int) (t0_In : SV) (t0_L : SV) (t0_Lost : SV) (v0 : Int) (K : Bool → World → Prop) (w : World) : Prop :=
  (∀ b1 w2, Ext w w2 → w.heap.size ≤ b1 → b1 < w2.heap.size →
  (cond (decide (v0 ≥ (0 : Int))) (cond (decide (v0 < t0_N)) (Idx t0_In.a t0_In.len v0 1 (fun a3 =>
  (∃ x4 : Int, w2.cell? a3 = some (.int .i64 x4) ∧
  (K (x4 == (1 : Int)) w2)))) (K false w2)) (K false w2)))

def fn_postroadref08_Way : FuncId := 51
/-- postroad/postroadref08.Way -/
def sh_postroadref08_Way (t0_N : Int) (t0_In : SV) (t0_L : SV) (t0_Lost : SV) (u0 : Int) (v0 : Int) (K : Int → Int → Int → Bool → World → Prop) (w : World) : Prop :=
  (∀ b1 w2, Ext w w2 → w.heap.size ≤ b1 → b1 < w2.heap.size →
  (∀ b3 w4, Ext w2 w4 → w2.heap.size ≤ b3 → b3 < w4.heap.size →
  (Join ((Int × Int × Int × Unit) × Unit) (fun J5 =>
  (LoopT (Int × (Int × Int × Int × Unit) × Unit) (fun t7 again6 w8 =>
  (cond (decide (t7.1 < (t0_L.len : Int))) (Join ((Int × Int × Int × Unit) × Unit) (fun J9 =>
  (Idx t0_L.a t0_L.len t7.1 5 (fun a10 =>
  (∃ x11 : Int, w8.cell? (a10.add 0) = some (.int .i64 x11) ∧
  (cond (x11 == u0) (Idx t0_L.a t0_L.len t7.1 5 (fun a12 =>
  (∃ x13 : Int, w8.cell? (a12.add 1) = some (.int .i64 x13) ∧
  (cond (x13 == v0) (Idx t0_L.a t0_L.len t7.1 5 (fun a14 =>
  (∃ x15 : Int, w8.cell? ((a14.add 2).add 0) = some (.int .i64 x15) ∧ ∃ x16 : Int, w8.cell? ((a14.add 2).add 1) = some (.int .i64 x16) ∧ ∃ x17 : Int, w8.cell? ((a14.add 2).add 2) = some (.int .i64 x17) ∧
  (∀ w18, Off b3 w8 w18 →
  (K x15 x16 x17 true w18))))) (J9 ((t7.2.1.1, t7.2.1.2.1, t7.2.1.2.2.1, ()), ()) w8))))) (J9 ((t7.2.1.1, t7.2.1.2.1, t7.2.1.2.2.1, ()), ()) w8))))))
  (fun t19 w20 =>
  (again6 ((IntKind.i64.wrap (t7.1 + (1 : Int))), (t19.1.1, t19.1.2.1, t19.1.2.2.1, ()), ()) w20))) (J5 ((t7.2.1.1, t7.2.1.2.1, t7.2.1.2.2.1, ()), ()) w8))) ((0 : Int), ((0 : Int), (0 : Int), (0 : Int), ()), ()) w4))
  (fun t21 w22 =>
  (∀ w23, Off b3 w22 w23 →
  (K (0 : Int) (0 : Int) (0 : Int) false w23))))))

def fn_postroadref08_Ins : FuncId := 52
/-- postroad/postroadref08.Ins -/
def sh_postroadref08_Ins (t0_N : Int) (t0_In : SV) (t0_L : SV) (t0_Lost : SV) (v0 : Int) (K : SV → World → Prop) (w : World) : Prop :=
  (∀ b1 w2, Ext w w2 → w.heap.size ≤ b1 → b1 < w2.heap.size →
  (LoopT (SV × Int × Unit) (fun t4 again3 w5 =>
  (cond (decide (t4.2.1 < t0_N)) (Join (SV × Unit) (fun J6 =>
  (sh_postroadref08_Way t0_N t0_In t0_L t0_Lost t4.2.1 v0 (fun x7 x8 x9 t10 w11 =>
  (Keeps [b1] w5 w11 ∧
  (∀ b12 w13, Ext w11 w13 → w11.heap.size ≤ b12 → b12 < w13.heap.size →
  (∀ w14, Off b12 w13 w14 →
  (cond t10 (NewB [(.int .i64 t4.2.1)] w14 (fun b15 w16 =>
  (App 8 [(.int .i64 (0 : Int))] t4.1 ⟨(some ⟨b15, 0, none⟩), 1, 1⟩ w16 (fun s17 w18 =>
  (Keeps [b12, b1] w16 w18 ∧
  (J6 (s17, ()) w18)))))) (J6 (t4.1, ()) w14)))))) w5))
  (fun t19 w20 =>
  (again3 (t19.1, (IntKind.i64.wrap (t4.2.1 + (1 : Int))), ()) w20))) (K t4.1 w5))) (⟨none, 0, 0⟩, (0 : Int), ()) w2))

def fn_postroadref08_Outs : FuncId := 50
/-- postroad/postroadref08.Outs -/
def sh_postroadref08_Outs (t0_N : Int) (t0_In : SV) (t0_L : SV) (t0_Lost : SV) (v0 : Int) (K : SV → World → Prop) (w : World) : Prop :=
  (∀ b1 w2, Ext w w2 → w.heap.size ≤ b1 → b1 < w2.heap.size →
  (LoopT (SV × Int × Unit) (fun t4 again3 w5 =>
  (cond (decide (t4.2.1 < t0_N)) (Join (SV × Unit) (fun J6 =>
  (sh_postroadref08_Way t0_N t0_In t0_L t0_Lost v0 t4.2.1 (fun x7 x8 x9 t10 w11 =>
  (Keeps [b1] w5 w11 ∧
  (∀ b12 w13, Ext w11 w13 → w11.heap.size ≤ b12 → b12 < w13.heap.size →
  (∀ w14, Off b12 w13 w14 →
  (cond t10 (NewB [(.int .i64 t4.2.1)] w14 (fun b15 w16 =>
  (App 8 [(.int .i64 (0 : Int))] t4.1 ⟨(some ⟨b15, 0, none⟩), 1, 1⟩ w16 (fun s17 w18 =>
  (Keeps [b12, b1] w16 w18 ∧
  (J6 (s17, ()) w18)))))) (J6 (t4.1, ()) w14)))))) w5))
  (fun t19 w20 =>
  (again3 (t19.1, (IntKind.i64.wrap (t4.2.1 + (1 : Int))), ()) w20))) (K t4.1 w5))) (⟨none, 0, 0⟩, (0 : Int), ()) w2))

def fn_postroadref08_Cost : FuncId := 56
/-- postroad/postroadref08.Cost -/
def sh_postroadref08_Cost (t0_N : Int) (t0_In : SV) (t0_L : SV) (t0_Lost : SV) (v0 : Int) (K : Int → World → Prop) (w : World) : Prop :=
  (∀ b1 w2, Ext w w2 → w.heap.size ≤ b1 → b1 < w2.heap.size →
  (sh_postroadref08_is t0_N t0_In t0_L t0_Lost v0 (fun t3 w4 =>
  (Keeps [b1] w2 w4 ∧
  (cond (!t3) (K (0 : Int) w4) (sh_postroadref08_Ins t0_N t0_In t0_L t0_Lost v0 (fun s5 w6 =>
  (Keeps [b1] w4 w6 ∧
  (sh_postroadref08_Outs t0_N t0_In t0_L t0_Lost v0 (fun s7 w8 =>
  (Keeps [b1] w6 w8 ∧
  (Join (Int × Unit) (fun J9 =>
  (LoopT (Int × Int × Unit) (fun t11 again10 w12 =>
  (cond (decide (t11.2.1 < (s5.len : Int))) (Join (Int × Unit) (fun J13 =>
  (LoopT (Int × Int × Unit) (fun t15 again14 w16 =>
  (cond (decide (t15.2.1 < (s7.len : Int))) (Join (Int × Unit) (fun J17 =>
  (Idx s5.a s5.len t11.2.1 1 (fun a18 =>
  (∃ x19 : Int, w16.cell? a18 = some (.int .i64 x19) ∧
  (Idx s7.a s7.len t15.2.1 1 (fun a20 =>
  (∃ x21 : Int, w16.cell? a20 = some (.int .i64 x21) ∧
  (∀ w22, Ext w16 w22 →
  (cond (x19 != x21) (J17 ((IntKind.i64.wrap (t15.1 + (1 : Int))), ()) w22) (J17 (t15.1, ()) w22))))))))))
  (fun t23 w24 =>
  (again14 (t23.1, (IntKind.i64.wrap (t15.2.1 + (1 : Int))), ()) w24))) (J13 (t15.1, ()) w16))) (t11.1, (0 : Int), ()) w12))
  (fun t25 w26 =>
  (again10 (t25.1, (IntKind.i64.wrap (t11.2.1 + (1 : Int))), ()) w26))) (J9 (t11.1, ()) w12))) ((0 : Int), (0 : Int), ()) w8))
  (fun t27 w28 =>
  (Idx t0_Lost.a t0_Lost.len v0 1 (fun a29 =>
  (∃ x30 : Int, w28.cell? a29 = some (.int .i64 x30) ∧
  (K (IntKind.i64.wrap ((IntKind.i64.wrap ((IntKind.i64.wrap (t27.1 - (s5.len : Int))) - (s7.len : Int))) + x30)) w28)))))))) w6))) w4)))) w2))

def fn_postroadref09_Next : FuncId := 47
/-- postroad/postroadref09.Next -/
def sh_postroadref09_Next (t0_N : Int) (t0_In : SV) (t0_L : SV) (t0_Lost : SV) (K : Int → World → Prop) (w : World) : Prop :=
  (∀ b1 w2, Ext w w2 → w.heap.size ≤ b1 → b1 < w2.heap.size →
  (sh_postroadref08_Places t0_N t0_In t0_L t0_Lost (fun s3 w4 =>
  (Keeps [b1] w2 w4 ∧
  (LoopT (Int × Int × Unit) (fun t6 again5 w7 =>
  (cond (decide (t6.2.1 < (s3.len : Int))) (Join (Int × Unit) (fun J8 =>
  (cond (decide (t6.1 < (0 : Int))) (∀ w9, Ext w7 w9 →
  (Idx s3.a s3.len t6.2.1 1 (fun a10 =>
  (∃ x11 : Int, w9.cell? a10 = some (.int .i64 x11) ∧
  (J8 (x11, ()) w9))))) (Idx s3.a s3.len t6.2.1 1 (fun a12 =>
  (∃ x13 : Int, w7.cell? a12 = some (.int .i64 x13) ∧
  (Quiet (Int) (fun r15 =>
  (.int .i64 r15)) (fun K16 w17' => sh_postroadref08_Cost t0_N t0_In t0_L t0_Lost x13 (fun x14 w17 => K16 x14 w17) w17') w7 (fun r15 =>
  (Quiet (Int) (fun r19 =>
  (.int .i64 r19)) (fun K20 w21' => sh_postroadref08_Cost t0_N t0_In t0_L t0_Lost t6.1 (fun x18 w21 => K20 x18 w21) w21') w7 (fun r19 =>
  (∀ w22, Ext w7 w22 →
  (cond (decide (r15 < r19)) (Idx s3.a s3.len t6.2.1 1 (fun a23 =>
  (∃ x24 : Int, w22.cell? a23 = some (.int .i64 x24) ∧
  (J8 (x24, ()) w22)))) (J8 (t6.1, ()) w22))))))))))))
  (fun t25 w26 =>
  (again5 (t25.1, (IntKind.i64.wrap (t6.2.1 + (1 : Int))), ()) w26))) (K t6.1 w7))) ((-1 : Int), (0 : Int), ()) w4))) w2))

def fn_postroadref08_Near : FuncId := 57
/-- postroad/postroadref08.Near -/
def sh_postroadref08_Near (t0_N : Int) (t0_In : SV) (t0_L : SV) (t0_Lost : SV) (u0 : Int) (v0 : Int) (without0 : Int) (most0 : Int) (K : Bool → World → Prop) (w : World) : Prop :=
  (∀ b1 w2, Ext w w2 → w.heap.size ≤ b1 → b1 < w2.heap.size →
  (sh_postroadref08_is t0_N t0_In t0_L t0_Lost u0 (fun t3 w4 =>
  (Keeps [b1] w2 w4 ∧
  (cond (!t3) (K false w4) (sh_postroadref08_is t0_N t0_In t0_L t0_Lost v0 (fun t5 w6 =>
  (Keeps [b1] w4 w6 ∧
  (cond (!t5) (K false w6) (cond (u0 == without0) (K false w6) (cond (v0 == without0) (K false w6) (MkS 8 [(.int .i64 (0 : Int))] t0_N t0_N w6 (fun s7 w8 =>
  (Join (Unit) (fun J9 =>
  (LoopT (Int × Unit) (fun t11 again10 w12 =>
  (cond (decide (t11.1 < t0_N)) (Idx s7.a s7.len t11.1 1 (fun a13 =>
  (stL w12 a13 [(.int .i64 (-1 : Int))] 0 (fun w14 =>
  (Keeps [b1] w12 w14 ∧
  (again10 ((IntKind.i64.wrap (t11.1 + (1 : Int))), ()) w14)))))) (J9 () w12))) ((0 : Int), ()) w8))
  (fun t15 w16 =>
  (Idx s7.a s7.len u0 1 (fun a17 =>
  (stL w16 a17 [(.int .i64 (0 : Int))] 0 (fun w18 =>
  (Keeps [b1] w16 w18 ∧
  (Join (Unit) (fun J19 =>
  (LoopT (Bool × Unit) (fun t21 again20 w22 =>
  (cond t21.1 (LoopT (Bool × Int × Unit) (fun t24 again23 w25 =>
  (cond (decide (t24.2.1 < (t0_L.len : Int))) (Join (Bool × Unit) (fun J26 =>
  (Idx t0_L.a t0_L.len t24.2.1 5 (fun a27 =>
  (∃ x28 : Int, w25.cell? (a27.add 0) = some (.int .i64 x28) ∧ ∃ x29 : Int, w25.cell? (a27.add 1) = some (.int .i64 x29) ∧ ∃ x30 : Int, w25.cell? (a27.add 2) = some (.int .i64 x30) ∧ ∃ x31 : Int, w25.cell? (a27.add 3) = some (.int .i64 x31) ∧ ∃ x32 : Int, w25.cell? (a27.add 4) = some (.int .i64 x32) ∧
  (∀ b33 w34, Ext w25 w34 → w25.heap.size ≤ b33 → b33 < w34.heap.size →
  (∀ w35, Off b33 w34 w35 →
  (cond (x28 != without0) (cond (x29 != without0) (Idx s7.a s7.len x28 1 (fun a36 =>
  (∃ x37 : Int, w35.cell? a36 = some (.int .i64 x37) ∧
  (cond (decide (x37 ≥ (0 : Int))) (Idx s7.a s7.len x29 1 (fun a38 =>
  (∃ x39 : Int, w35.cell? a38 = some (.int .i64 x39) ∧
  (cond (decide (x39 < (0 : Int))) (∀ w40, Ext w35 w40 →
  (Idx s7.a s7.len x28 1 (fun a41 =>
  (∃ x42 : Int, w40.cell? a41 = some (.int .i64 x42) ∧
  (Idx s7.a s7.len x29 1 (fun a43 =>
  (∀ w44, Ext w40 w44 →
  (stL w44 a43 [(.int .i64 (IntKind.i64.wrap (x42 + x30)))] 0 (fun w45 =>
  (Keeps [b33, b1] w44 w45 ∧
  (∀ w46, Ext w45 w46 →
  (J26 (true, ()) w46)))))))))))) (Idx s7.a s7.len x28 1 (fun a47 =>
  (∃ x48 : Int, w35.cell? a47 = some (.int .i64 x48) ∧
  (Idx s7.a s7.len x29 1 (fun a49 =>
  (∃ x50 : Int, w35.cell? a49 = some (.int .i64 x50) ∧
  (∀ w51, Ext w35 w51 →
  (cond (decide ((IntKind.i64.wrap (x48 + x30)) < x50)) (Idx s7.a s7.len x28 1 (fun a52 =>
  (∃ x53 : Int, w51.cell? a52 = some (.int .i64 x53) ∧
  (Idx s7.a s7.len x29 1 (fun a54 =>
  (∀ w55, Ext w51 w55 →
  (stL w55 a54 [(.int .i64 (IntKind.i64.wrap (x53 + x30)))] 0 (fun w56 =>
  (Keeps [b33, b1] w55 w56 ∧
  (∀ w57, Ext w56 w57 →
  (J26 (true, ()) w57))))))))))) (J26 (t24.1, ()) w51))))))))))))) (∀ w58, Ext w35 w58 →
  (J26 (t24.1, ()) w58)))))) (∀ w59, Ext w35 w59 →
  (J26 (t24.1, ()) w59))) (∀ w60, Ext w35 w60 →
  (J26 (t24.1, ()) w60)))))))))
  (fun t61 w62 =>
  (again23 (t61.1, (IntKind.i64.wrap (t24.2.1 + (1 : Int))), ()) w62))) (again20 (t24.1, ()) w25))) (false, (0 : Int), ()) w22) (J19 () w22))) (true, ()) w18))
  (fun t63 w64 =>
  (Idx s7.a s7.len v0 1 (fun a65 =>
  (∃ x66 : Int, w64.cell? a65 = some (.int .i64 x66) ∧
  (cond (decide (x66 ≥ (0 : Int))) (Idx s7.a s7.len v0 1 (fun a67 =>
  (∃ x68 : Int, w64.cell? a67 = some (.int .i64 x68) ∧
  (K (decide (x68 ≤ most0)) w64)))) (K false w64))))))))))))))))))))) w4)))) w2))

def fn_postroadref09_Needed : FuncId := 48
/-- postroad/postroadref09.Needed -/
def sh_postroadref09_Needed (t0_N : Int) (t0_In : SV) (t0_L : SV) (t0_Lost : SV) (v0 : Int) (K : SV → World → Prop) (w : World) : Prop :=
  (∀ b1 w2, Ext w w2 → w.heap.size ≤ b1 → b1 < w2.heap.size →
  (sh_postroadref08_Ins t0_N t0_In t0_L t0_Lost v0 (fun s3 w4 =>
  (Keeps [b1] w2 w4 ∧
  (sh_postroadref08_Outs t0_N t0_In t0_L t0_Lost v0 (fun s5 w6 =>
  (Keeps [b1] w4 w6 ∧
  (LoopT (SV × Int × Unit) (fun t8 again7 w9 =>
  (cond (decide (t8.2.1 < (s3.len : Int))) (Join (SV × Unit) (fun J10 =>
  (Idx s3.a s3.len t8.2.1 1 (fun a11 =>
  (∃ x12 : Int, w9.cell? a11 = some (.int .i64 x12) ∧
  (Quiet (Int × Int × Int × Bool) (fun r17 =>
  (.tuple #[(.agg #[(.int .i64 r17.1), (.int .i64 r17.2.1), (.int .i64 r17.2.2.1)]), (.bool r17.2.2.2)])) (fun K18 w19' => sh_postroadref08_Way t0_N t0_In t0_L t0_Lost x12 v0 (fun x13 x14 x15 t16 w19 => K18 (x13, x14, x15, t16) w19) w19') w9 (fun r17 =>
  (∀ b20 w21, Ext w9 w21 → w9.heap.size ≤ b20 → b20 < w21.heap.size →
  (∀ w22, Ext w21 w22 →
  (∀ w23, Off b20 w22 w23 →
  (∀ w24, Ext w23 w24 →
  (LoopT (SV × Int × Unit) (fun t26 again25 w27 =>
  (cond (decide (t26.2.1 < (s5.len : Int))) (Join (SV × Unit) (fun J28 =>
  (Idx s5.a s5.len t26.2.1 1 (fun a29 =>
  (∃ x30 : Int, w27.cell? a29 = some (.int .i64 x30) ∧
  (Quiet (Int × Int × Int × Bool) (fun r35 =>
  (.tuple #[(.agg #[(.int .i64 r35.1), (.int .i64 r35.2.1), (.int .i64 r35.2.2.1)]), (.bool r35.2.2.2)])) (fun K36 w37' => sh_postroadref08_Way t0_N t0_In t0_L t0_Lost v0 x30 (fun x31 x32 x33 t34 w37 => K36 (x31, x32, x33, t34) w37) w37') w27 (fun r35 =>
  (∀ b38 w39, Ext w27 w39 → w27.heap.size ≤ b38 → b38 < w39.heap.size →
  (∀ w40, Ext w39 w40 →
  (∀ w41, Off b38 w40 w41 →
  (∀ w42, Ext w41 w42 →
  (Idx s3.a s3.len t8.2.1 1 (fun a43 =>
  (∃ x44 : Int, w42.cell? a43 = some (.int .i64 x44) ∧
  (Idx s5.a s5.len t26.2.1 1 (fun a45 =>
  (∃ x46 : Int, w42.cell? a45 = some (.int .i64 x46) ∧
  (cond (x44 != x46) (Idx s3.a s3.len t8.2.1 1 (fun a47 =>
  (∃ x48 : Int, w42.cell? a47 = some (.int .i64 x48) ∧
  (Idx s5.a s5.len t26.2.1 1 (fun a49 =>
  (∃ x50 : Int, w42.cell? a49 = some (.int .i64 x50) ∧
  (∀ w52, Ext w42 w52 →
  (sh_postroadref08_Near t0_N t0_In t0_L t0_Lost x48 x50 v0 (IntKind.i64.wrap (r17.1 + r35.1)) (fun t51 w53 =>
  (Keeps [b38, b20, b1] w52 w53 ∧
  (∀ w54, Ext w53 w54 →
  (cond (!t51) (Idx s3.a s3.len t8.2.1 1 (fun a55 =>
  (∃ x56 : Int, w54.cell? a55 = some (.int .i64 x56) ∧
  (Idx s5.a s5.len t26.2.1 1 (fun a57 =>
  (∃ x58 : Int, w54.cell? a57 = some (.int .i64 x58) ∧
  (∀ w59, Ext w54 w59 →
  (NewB [(.int .i64 x56), (.int .i64 x58), (.int .i64 (IntKind.i64.wrap (r17.1 + r35.1))), (.int .i64 v0), (.int .i64 (-1 : Int))] w59 (fun b60 w61 =>
  (∀ w62, Ext w61 w62 →
  (App 40 [(.int .i64 (0 : Int)), (.int .i64 (0 : Int)), (.int .i64 (0 : Int)), (.int .i64 (0 : Int)), (.int .i64 (0 : Int))] t26.1 ⟨(some ⟨b60, 0, none⟩), 1, 1⟩ w62 (fun s63 w64 =>
  (Keeps [b38, b20, b1] w62 w64 ∧
  (∀ w65, Ext w64 w65 →
  (J28 (s63, ()) w65))))))))))))))) (J28 (t26.1, ()) w54))))) w52)))))))) (∀ w66, Ext w42 w66 →
  (J28 (t26.1, ()) w66)))))))))))))))))))
  (fun t67 w68 =>
  (again25 (t67.1, (IntKind.i64.wrap (t26.2.1 + (1 : Int))), ()) w68))) (J10 (t26.1, ()) w27))) (t8.1, (0 : Int), ()) w24)))))))))))
  (fun t69 w70 =>
  (again7 (t69.1, (IntKind.i64.wrap (t8.2.1 + (1 : Int))), ()) w70))) (K t8.1 w9))) (⟨none, 0, 0⟩, (0 : Int), ()) w6))) w4))) w2))

def fn_postroadref08_Put : FuncId := 49
/-- postroad/postroadref08.Put -/
def sh_postroadref08_Put (t0_N : Int) (t0_In : SV) (t0_L : SV) (t0_Lost : SV) (u0 : Int) (v0 : Int) (w_0 : Int) (mid0 : Int) (K : Int → SV → SV → SV → Bool → World → Prop) (w : World) : Prop :=
  (∀ b1 w2, Ext w w2 → w.heap.size ≤ b1 → b1 < w2.heap.size →
  (∀ b3 w4, Ext w2 w4 → w2.heap.size ≤ b3 → b3 < w4.heap.size →
  (sh_postroadref08_Way t0_N t0_In t0_L t0_Lost u0 v0 (fun x5 x6 x7 t8 w9 =>
  (Keeps [b3, b1] w4 w9 ∧
  (∀ b10 w11, Ext w9 w11 → w9.heap.size ≤ b10 → b10 < w11.heap.size →
  (∀ w12, Off b10 w11 w12 →
  (Join ((Int × SV × SV × SV × Unit) × Unit) (fun J13 =>
  (sh_postroadref08_is t0_N t0_In t0_L t0_Lost u0 (fun t14 w15 =>
  (Keeps [b3, b10, b1] w12 w15 ∧
  (cond (!t14) (∀ w16, Off b3 w15 w16 →
  (K t0_N t0_In t0_L t0_Lost false w16)) (sh_postroadref08_is t0_N t0_In t0_L t0_Lost v0 (fun t17 w18 =>
  (Keeps [b3, b10, b1] w15 w18 ∧
  (cond (!t17) (∀ w19, Off b3 w18 w19 →
  (K t0_N t0_In t0_L t0_Lost false w19)) (cond (u0 == v0) (∀ w20, Off b3 w18 w20 →
  (K t0_N t0_In t0_L t0_Lost false w20)) (cond (decide (w_0 < (0 : Int))) (∀ w21, Off b3 w18 w21 →
  (K t0_N t0_In t0_L t0_Lost false w21)) (cond (decide (mid0 < (0 : Int))) (∀ w22, Off b3 w18 w22 →
  (K t0_N t0_In t0_L t0_Lost false w22)) (cond t8 (cond (decide (x5 ≤ w_0)) (∀ w23, Off b3 w18 w23 →
  (K t0_N t0_In t0_L t0_Lost false w23)) (J13 (((0 : Int), ⟨none, 0, 0⟩, ⟨none, 0, 0⟩, ⟨none, 0, 0⟩, ()), ()) w18)) (J13 (((0 : Int), ⟨none, 0, 0⟩, ⟨none, 0, 0⟩, ⟨none, 0, 0⟩, ()), ()) w18)))))))) w15)))) w12))
  (fun t24 w25 =>
  (Join (SV × Unit) (fun J26 =>
  (LoopT (SV × Int × Unit) (fun t28 again27 w29 =>
  (cond (decide (t28.2.1 < (t0_L.len : Int))) (Join (SV × Unit) (fun J30 =>
  (Idx t0_L.a t0_L.len t28.2.1 5 (fun a31 =>
  (∃ x32 : Int, w29.cell? (a31.add 0) = some (.int .i64 x32) ∧
  (cond (x32 != u0) (Idx t0_L.a t0_L.len t28.2.1 5 (fun a33 =>
  (∃ x34 : Int, w29.cell? (a33.add 0) = some (.int .i64 x34) ∧ ∃ x35 : Int, w29.cell? (a33.add 1) = some (.int .i64 x35) ∧ ∃ x36 : Int, w29.cell? (a33.add 2) = some (.int .i64 x36) ∧ ∃ x37 : Int, w29.cell? (a33.add 3) = some (.int .i64 x37) ∧ ∃ x38 : Int, w29.cell? (a33.add 4) = some (.int .i64 x38) ∧
  (NewB [(.int .i64 x34), (.int .i64 x35), (.int .i64 x36), (.int .i64 x37), (.int .i64 x38)] w29 (fun b39 w40 =>
  (App 40 [(.int .i64 (0 : Int)), (.int .i64 (0 : Int)), (.int .i64 (0 : Int)), (.int .i64 (0 : Int)), (.int .i64 (0 : Int))] t28.1 ⟨(some ⟨b39, 0, none⟩), 1, 1⟩ w40 (fun s41 w42 =>
  (Keeps [b3, b10, b1] w40 w42 ∧
  (J30 (s41, ()) w42))))))))) (Idx t0_L.a t0_L.len t28.2.1 5 (fun a43 =>
  (∃ x44 : Int, w29.cell? (a43.add 1) = some (.int .i64 x44) ∧
  (cond (x44 != v0) (Idx t0_L.a t0_L.len t28.2.1 5 (fun a45 =>
  (∃ x46 : Int, w29.cell? (a45.add 0) = some (.int .i64 x46) ∧ ∃ x47 : Int, w29.cell? (a45.add 1) = some (.int .i64 x47) ∧ ∃ x48 : Int, w29.cell? (a45.add 2) = some (.int .i64 x48) ∧ ∃ x49 : Int, w29.cell? (a45.add 3) = some (.int .i64 x49) ∧ ∃ x50 : Int, w29.cell? (a45.add 4) = some (.int .i64 x50) ∧
  (NewB [(.int .i64 x46), (.int .i64 x47), (.int .i64 x48), (.int .i64 x49), (.int .i64 x50)] w29 (fun b51 w52 =>
  (App 40 [(.int .i64 (0 : Int)), (.int .i64 (0 : Int)), (.int .i64 (0 : Int)), (.int .i64 (0 : Int)), (.int .i64 (0 : Int))] t28.1 ⟨(some ⟨b51, 0, none⟩), 1, 1⟩ w52 (fun s53 w54 =>
  (Keeps [b3, b10, b1] w52 w54 ∧
  (J30 (s53, ()) w54))))))))) (J30 (t28.1, ()) w29))))))))))
  (fun t55 w56 =>
  (again27 (t55.1, (IntKind.i64.wrap (t28.2.1 + (1 : Int))), ()) w56))) (J26 (t28.1, ()) w29))) (⟨none, 0, 0⟩, (0 : Int), ()) w25))
  (fun t57 w58 =>
  (NewB [(.int .i64 u0), (.int .i64 v0), (.int .i64 w_0), (.int .i64 mid0), (.int .i64 (-1 : Int))] w58 (fun b59 w60 =>
  (App 40 [(.int .i64 (0 : Int)), (.int .i64 (0 : Int)), (.int .i64 (0 : Int)), (.int .i64 (0 : Int)), (.int .i64 (0 : Int))] t57.1 ⟨(some ⟨b59, 0, none⟩), 1, 1⟩ w60 (fun s61 w62 =>
  (Keeps [b3, b10, b1] w60 w62 ∧
  (∀ w63, Off b1 w62 w63 →
  (∀ w64, Off b3 w63 w64 →
  (K t0_N t0_In s61 t0_Lost true w64)))))))))))))))) w4)))

def fn_postroadref08_Take : FuncId := 53
/-- postroad/postroadref08.Take -/
def sh_postroadref08_Take (t0_N : Int) (t0_In : SV) (t0_L : SV) (t0_Lost : SV) (v0 : Int) (K : Int → SV → SV → SV → Bool → World → Prop) (w : World) : Prop :=
  (∀ b1 w2, Ext w w2 → w.heap.size ≤ b1 → b1 < w2.heap.size →
  (∀ b3 w4, Ext w2 w4 → w2.heap.size ≤ b3 → b3 < w4.heap.size →
  (sh_postroadref08_is t0_N t0_In t0_L t0_Lost v0 (fun t5 w6 =>
  (Keeps [b3, b1] w4 w6 ∧
  (cond (!t5) (∀ w7, Off b3 w6 w7 →
  (K t0_N t0_In t0_L t0_Lost false w7)) (∀ b8 w9, Ext w6 w9 → w6.heap.size ≤ b8 → b8 < w9.heap.size →
  (∀ w10, Off b8 w9 w10 →
  (Join ((Int × SV × SV × SV × Unit) × Unit) (fun J11 =>
  (LoopT (Int × (Int × SV × SV × SV × Unit) × Unit) (fun t13 again12 w14 =>
  (cond (decide (t13.1 < t0_N)) (Idx t0_In.a t0_In.len t13.1 1 (fun a15 =>
  (∃ x16 : Int, w14.cell? a15 = some (.int .i64 x16) ∧
  (Idx t0_Lost.a t0_Lost.len t13.1 1 (fun a17 =>
  (∃ x18 : Int, w14.cell? a17 = some (.int .i64 x18) ∧
  (sh_postroadref08_Way t0_N t0_In t0_L t0_Lost v0 t13.1 (fun x19 x20 x21 t22 w23 =>
  (Keeps [b8, b3, b1] w14 w23 ∧
  (∀ b24 w25, Ext w23 w25 → w23.heap.size ≤ b24 → b24 < w25.heap.size →
  (∀ w26, Off b24 w25 w26 →
  (sh_postroadref08_Way t0_N t0_In t0_L t0_Lost t13.1 v0 (fun x27 x28 x29 t30 w31 =>
  (Keeps [b24, b8, b3, b1] w26 w31 ∧
  (∀ b32 w33, Ext w31 w33 → w31.heap.size ≤ b32 → b32 < w33.heap.size →
  (∀ w34, Off b32 w33 w34 →
  (Join (Int × Unit) (fun J35 =>
  (cond (t13.1 == v0) (J35 ((0 : Int), ()) w34) (J35 (x16, ()) w34)))
  (fun t36 w37 =>
  (Join (Int × Unit) (fun J38 =>
  (cond t22 (J38 ((IntKind.i64.wrap (x18 + (1 : Int))), ()) w37) (cond t30 (J38 ((IntKind.i64.wrap (x18 + (1 : Int))), ()) w37) (J38 (x18, ()) w37))))
  (fun t39 w40 =>
  (NewB [(.int .i64 t36.1)] w40 (fun b41 w42 =>
  (App 8 [(.int .i64 (0 : Int))] t13.2.1.2.1 ⟨(some ⟨b41, 0, none⟩), 1, 1⟩ w42 (fun s43 w44 =>
  (Keeps [b32, b24, b8, b3, b1] w42 w44 ∧
  (∀ w45, Off b8 w44 w45 →
  (NewB [(.int .i64 t39.1)] w45 (fun b46 w47 =>
  (App 8 [(.int .i64 (0 : Int))] t13.2.1.2.2.2.1 ⟨(some ⟨b46, 0, none⟩), 1, 1⟩ w47 (fun s48 w49 =>
  (Keeps [b8, b32, b24, b3, b1] w47 w49 ∧
  (∀ w50, Off b8 w49 w50 →
  (again12 ((IntKind.i64.wrap (t13.1 + (1 : Int))), (t13.2.1.1, s43, t13.2.1.2.2.1, s48, ()), ()) w50))))))))))))))))))))) w26))))) w14))))))) (J11 ((t13.2.1.1, t13.2.1.2.1, t13.2.1.2.2.1, t13.2.1.2.2.2.1, ()), ()) w14))) ((0 : Int), (t0_N, ⟨none, 0, 0⟩, ⟨none, 0, 0⟩, ⟨none, 0, 0⟩, ()), ()) w10))
  (fun t51 w52 =>
  (Join ((Int × SV × SV × SV × Unit) × Unit) (fun J53 =>
  (LoopT (Int × (Int × SV × SV × SV × Unit) × Unit) (fun t55 again54 w56 =>
  (cond (decide (t55.1 < (t0_L.len : Int))) (Join ((Int × SV × SV × SV × Unit) × Unit) (fun J57 =>
  (Idx t0_L.a t0_L.len t55.1 5 (fun a58 =>
  (∃ x59 : Int, w56.cell? (a58.add 0) = some (.int .i64 x59) ∧
  (cond (x59 != v0) (Idx t0_L.a t0_L.len t55.1 5 (fun a60 =>
  (∃ x61 : Int, w56.cell? (a60.add 1) = some (.int .i64 x61) ∧
  (cond (x61 != v0) (Idx t0_L.a t0_L.len t55.1 5 (fun a62 =>
  (∃ x63 : Int, w56.cell? (a62.add 0) = some (.int .i64 x63) ∧ ∃ x64 : Int, w56.cell? (a62.add 1) = some (.int .i64 x64) ∧ ∃ x65 : Int, w56.cell? (a62.add 2) = some (.int .i64 x65) ∧ ∃ x66 : Int, w56.cell? (a62.add 3) = some (.int .i64 x66) ∧ ∃ x67 : Int, w56.cell? (a62.add 4) = some (.int .i64 x67) ∧
  (∀ w68, Ext w56 w68 →
  (NewB [(.int .i64 x63), (.int .i64 x64), (.int .i64 x65), (.int .i64 x66), (.int .i64 x67)] w68 (fun b69 w70 =>
  (∀ w71, Ext w70 w71 →
  (App 40 [(.int .i64 (0 : Int)), (.int .i64 (0 : Int)), (.int .i64 (0 : Int)), (.int .i64 (0 : Int)), (.int .i64 (0 : Int))] t55.2.1.2.2.1 ⟨(some ⟨b69, 0, none⟩), 1, 1⟩ w71 (fun s72 w73 =>
  (Keeps [b8, b3, b1] w71 w73 ∧
  (∀ w74, Ext w73 w74 →
  (∀ w75, Off b8 w74 w75 →
  (∀ w76, Ext w75 w76 →
  (J57 ((t55.2.1.1, t55.2.1.2.1, s72, t55.2.1.2.2.2.1, ()), ()) w76)))))))))))))) (J57 ((t55.2.1.1, t55.2.1.2.1, t55.2.1.2.2.1, t55.2.1.2.2.2.1, ()), ()) w56))))) (J57 ((t55.2.1.1, t55.2.1.2.1, t55.2.1.2.2.1, t55.2.1.2.2.2.1, ()), ()) w56))))))
  (fun t77 w78 =>
  (again54 ((IntKind.i64.wrap (t55.1 + (1 : Int))), (t77.1.1, t77.1.2.1, t77.1.2.2.1, t77.1.2.2.2.1, ()), ()) w78))) (J53 ((t55.2.1.1, t55.2.1.2.1, t55.2.1.2.2.1, t55.2.1.2.2.2.1, ()), ()) w56))) ((0 : Int), (t51.1.1, t51.1.2.1, t51.1.2.2.1, t51.1.2.2.2.1, ()), ()) w52))
  (fun t79 w80 =>
  (∀ w81, Off b3 w80 w81 →
  (K t79.1.1 t79.1.2.1 t79.1.2.2.1 t79.1.2.2.2.1 true w81))))))))))) w4)))

def fn_postroadref09_Build : FuncId := 37
/-- postroad/postroadref09.Build -/
def sh_postroadref09_Build (g0_M_N : Int) (g0_M_Arcs : SV) (g0_Kept : SV) (K : SV → SV → World → Prop) (w : World) : Prop :=
  (∀ b1 w2, Ext w w2 → w.heap.size ≤ b1 → b1 < w2.heap.size →
  (∀ b3 w4, Ext w2 w4 → w2.heap.size ≤ b3 → b3 < w4.heap.size →
  (sh_postroadref08_New g0_M_N g0_M_Arcs g0_Kept (fun x5 s6 s7 s8 w9 =>
  (Keeps [b3, b1] w4 w9 ∧
  (∀ b10 w11, Ext w9 w11 → w9.heap.size ≤ b10 → b10 < w11.heap.size →
  (∀ w12, Off b10 w11 w12 →
  (∀ b13 w14, Ext w12 w14 → w12.heap.size ≤ b13 → b13 < w14.heap.size →
  (∀ w15, Off b13 w14 w15 →
  (Join ((SV × SV × Unit) × Unit) (fun J16 =>
  (LoopT (Int × (SV × SV × Unit) × Unit) (fun t18 again17 w19 =>
  (cond (decide (t18.1 < g0_M_N)) (NewB [(.int .i64 (0 : Int))] w19 (fun b20 w21 =>
  (App 8 [(.int .i64 (0 : Int))] t18.2.1.1 ⟨(some ⟨b20, 0, none⟩), 1, 1⟩ w21 (fun s22 w23 =>
  (Keeps [b13, b10, b3, b1] w21 w23 ∧
  (∀ w24, Off b13 w23 w24 →
  (again17 ((IntKind.i64.wrap (t18.1 + (1 : Int))), (s22, t18.2.1.2.1, ()), ()) w24))))))) (J16 ((t18.2.1.1, t18.2.1.2.1, ()), ()) w19))) ((0 : Int), (⟨none, 0, 0⟩, ⟨none, 0, 0⟩, ()), ()) w15))
  (fun t25 w26 =>
  (Join ((SV × SV × Unit) × Unit) (fun J27 =>
  (LoopT (Int × (Int × SV × SV × SV × Unit) × (SV × SV × Unit) × Unit) (fun t29 again28 w30 =>
  (cond (decide (t29.1 < g0_M_N)) (Join ((Int × SV × SV × SV × Unit) × (SV × SV × Unit) × Unit) (fun J31 =>
  (sh_postroadref09_Next t29.2.1.1 t29.2.1.2.1 t29.2.1.2.2.1 t29.2.1.2.2.2.1 (fun x32 w33 =>
  (Keeps [b10, b13, b3, b1] w30 w33 ∧
  (Idx t29.2.2.1.1.a t29.2.2.1.1.len x32 1 (fun a34 =>
  (stL w33 a34 [(.int .i64 t29.1)] 0 (fun w35 =>
  (Keeps [b10, b13, b3, b1] w33 w35 ∧
  (sh_postroadref09_Needed t29.2.1.1 t29.2.1.2.1 t29.2.1.2.2.1 t29.2.1.2.2.2.1 x32 (fun s36 w37 =>
  (Keeps [b10, b13, b3, b1] w35 w37 ∧
  (Join ((Int × SV × SV × SV × Unit) × Unit) (fun J38 =>
  (LoopT (Int × (Int × SV × SV × SV × Unit) × Unit) (fun t40 again39 w41 =>
  (cond (decide (t40.1 < (s36.len : Int))) (Idx s36.a s36.len t40.1 5 (fun a42 =>
  (∃ x43 : Int, w41.cell? (a42.add 0) = some (.int .i64 x43) ∧
  (Idx s36.a s36.len t40.1 5 (fun a44 =>
  (∃ x45 : Int, w41.cell? (a44.add 1) = some (.int .i64 x45) ∧
  (Idx s36.a s36.len t40.1 5 (fun a46 =>
  (∃ x47 : Int, w41.cell? ((a46.add 2).add 0) = some (.int .i64 x47) ∧
  (Idx s36.a s36.len t40.1 5 (fun a48 =>
  (∃ x49 : Int, w41.cell? ((a48.add 2).add 1) = some (.int .i64 x49) ∧
  (∀ w55, Ext w41 w55 →
  (sh_postroadref08_Put t40.2.1.1 t40.2.1.2.1 t40.2.1.2.2.1 t40.2.1.2.2.2.1 x43 x45 x47 x49 (fun x50 s51 s52 s53 t54 w56 =>
  (KeepZ (zI (fun _ => False) w41 w55) w55 w56 ∧
  (Keeps [b10, b13, b3, b1] w55 w56 ∧
  (∀ b57 w58, Ext w56 w58 →
  ((zI (fun _ => False) w41 w55) b57 ∨ w56.heap.size ≤ b57) → b57 < w58.heap.size →
  (∀ w59, Ext w58 w59 →
  (∀ w60, Off b57 w59 w60 →
  (∀ w61, Ext w60 w61 →
  (∀ w62, Off b10 w61 w62 →
  (again39 ((IntKind.i64.wrap (t40.1 + (1 : Int))), (x50, s51, s52, s53, ()), ()) w62))))))))) w55)))))))))))))) (J38 ((t40.2.1.1, t40.2.1.2.1, t40.2.1.2.2.1, t40.2.1.2.2.2.1, ()), ()) w41))) ((0 : Int), (t29.2.1.1, t29.2.1.2.1, t29.2.1.2.2.1, t29.2.1.2.2.2.1, ()), ()) w37))
  (fun t63 w64 =>
  (sh_postroadref08_Outs t63.1.1 t63.1.2.1 t63.1.2.2.1 t63.1.2.2.2.1 x32 (fun s65 w66 =>
  (Keeps [b10, b13, b3, b1] w64 w66 ∧
  (Join ((SV × SV × Unit) × Unit) (fun J67 =>
  (LoopT (Int × (SV × SV × Unit) × Unit) (fun t69 again68 w70 =>
  (cond (decide (t69.1 < (s65.len : Int))) (Idx s65.a s65.len t69.1 1 (fun a71 =>
  (∃ x72 : Int, w70.cell? a71 = some (.int .i64 x72) ∧
  (Quiet (Int × Int × Int × Bool) (fun r77 =>
  (.tuple #[(.agg #[(.int .i64 r77.1), (.int .i64 r77.2.1), (.int .i64 r77.2.2.1)]), (.bool r77.2.2.2)])) (fun K78 w79' => sh_postroadref08_Way t63.1.1 t63.1.2.1 t63.1.2.2.1 t63.1.2.2.2.1 x32 x72 (fun x73 x74 x75 t76 w79 => K78 (x73, x74, x75, t76) w79) w79') w70 (fun r77 =>
  (∀ b80 w81, Ext w70 w81 → w70.heap.size ≤ b80 → b80 < w81.heap.size →
  (∀ w82, Ext w81 w82 →
  (∀ w83, Off b80 w82 w83 →
  (∀ w84, Ext w83 w84 →
  (Idx s65.a s65.len t69.1 1 (fun a85 =>
  (∃ x86 : Int, w84.cell? a85 = some (.int .i64 x86) ∧
  (∀ w87, Ext w84 w87 →
  (NewB [(.int .i64 x32), (.int .i64 x86), (.int .i64 r77.1), (.int .i64 r77.2.1), (.int .i64 r77.2.2.1)] w87 (fun b88 w89 =>
  (∀ w90, Ext w89 w90 →
  (App 40 [(.int .i64 (0 : Int)), (.int .i64 (0 : Int)), (.int .i64 (0 : Int)), (.int .i64 (0 : Int)), (.int .i64 (0 : Int))] t69.2.1.2.1 ⟨(some ⟨b88, 0, none⟩), 1, 1⟩ w90 (fun s91 w92 =>
  (Keeps [b80, b13, b10, b3, b1] w90 w92 ∧
  (∀ w93, Ext w92 w93 →
  (∀ w94, Off b13 w93 w94 →
  (∀ w95, Ext w94 w95 →
  (again68 ((IntKind.i64.wrap (t69.1 + (1 : Int))), (t69.2.1.1, s91, ()), ()) w95))))))))))))))))))))))) (J67 ((t69.2.1.1, t69.2.1.2.1, ()), ()) w70))) ((0 : Int), (t29.2.2.1.1, t29.2.2.1.2.1, ()), ()) w66))
  (fun t96 w97 =>
  (sh_postroadref08_Ins t63.1.1 t63.1.2.1 t63.1.2.2.1 t63.1.2.2.2.1 x32 (fun s98 w99 =>
  (Keeps [b13, b10, b3, b1] w97 w99 ∧
  (Join ((SV × SV × Unit) × Unit) (fun J100 =>
  (LoopT (Int × (SV × SV × Unit) × Unit) (fun t102 again101 w103 =>
  (cond (decide (t102.1 < (s98.len : Int))) (Idx s98.a s98.len t102.1 1 (fun a104 =>
  (∃ x105 : Int, w103.cell? a104 = some (.int .i64 x105) ∧
  (Quiet (Int × Int × Int × Bool) (fun r110 =>
  (.tuple #[(.agg #[(.int .i64 r110.1), (.int .i64 r110.2.1), (.int .i64 r110.2.2.1)]), (.bool r110.2.2.2)])) (fun K111 w112' => sh_postroadref08_Way t63.1.1 t63.1.2.1 t63.1.2.2.1 t63.1.2.2.2.1 x105 x32 (fun x106 x107 x108 t109 w112 => K111 (x106, x107, x108, t109) w112) w112') w103 (fun r110 =>
  (∀ b113 w114, Ext w103 w114 → w103.heap.size ≤ b113 → b113 < w114.heap.size →
  (∀ w115, Ext w114 w115 →
  (∀ w116, Off b113 w115 w116 →
  (∀ w117, Ext w116 w117 →
  (Idx s98.a s98.len t102.1 1 (fun a118 =>
  (∃ x119 : Int, w117.cell? a118 = some (.int .i64 x119) ∧
  (∀ w120, Ext w117 w120 →
  (NewB [(.int .i64 x119), (.int .i64 x32), (.int .i64 r110.1), (.int .i64 r110.2.1), (.int .i64 r110.2.2.1)] w120 (fun b121 w122 =>
  (∀ w123, Ext w122 w123 →
  (App 40 [(.int .i64 (0 : Int)), (.int .i64 (0 : Int)), (.int .i64 (0 : Int)), (.int .i64 (0 : Int)), (.int .i64 (0 : Int))] t102.2.1.2.1 ⟨(some ⟨b121, 0, none⟩), 1, 1⟩ w123 (fun s124 w125 =>
  (Keeps [b113, b13, b10, b3, b1] w123 w125 ∧
  (∀ w126, Ext w125 w126 →
  (∀ w127, Off b13 w126 w127 →
  (∀ w128, Ext w127 w128 →
  (again101 ((IntKind.i64.wrap (t102.1 + (1 : Int))), (t102.2.1.1, s124, ()), ()) w128))))))))))))))))))))))) (J100 ((t102.2.1.1, t102.2.1.2.1, ()), ()) w103))) ((0 : Int), (t96.1.1, t96.1.2.1, ()), ()) w99))
  (fun t129 w130 =>
  (sh_postroadref08_Take t63.1.1 t63.1.2.1 t63.1.2.2.1 t63.1.2.2.2.1 x32 (fun x131 s132 s133 s134 t135 w136 =>
  (Keeps [b13, b10, b3, b1] w130 w136 ∧
  (∀ b137 w138, Ext w136 w138 → w136.heap.size ≤ b137 → b137 < w138.heap.size →
  (∀ w139, Off b137 w138 w139 →
  (∀ w140, Off b10 w139 w140 →
  (J31 ((x131, s132, s133, s134, ()), (t129.1.1, t129.1.2.1, ()), ()) w140)))))) w130))))) w97))))) w64))))) w35)))))))) w30))
  (fun t141 w142 =>
  (again28 ((IntKind.i64.wrap (t29.1 + (1 : Int))), (t141.1.1, t141.1.2.1, t141.1.2.2.1, t141.1.2.2.2.1, ()), (t141.2.1.1, t141.2.1.2.1, ()), ()) w142))) (J27 ((t29.2.2.1.1, t29.2.2.1.2.1, ()), ()) w30))) ((0 : Int), (x5, s6, s7, s8, ()), (t25.1.1, t25.1.2.1, ()), ()) w26))
  (fun t143 w144 =>
  (∀ w145, Off b3 w144 w145 →
  (K t143.1.1 t143.1.2.1 w145)))))))))))) w4)))

def fn_postroadref09_Of : FuncId := 20
/-- postroad/postroadref09.Of -/
def sh_postroadref09_Of (m0_N : Int) (m0_Arcs : SV) (K : SV → SV → World → Prop) (w : World) : Prop :=
  (∀ b1 w2, Ext w w2 → w.heap.size ≤ b1 → b1 < w2.heap.size →
  (∀ b3 w4, Ext w2 w4 → w2.heap.size ≤ b3 → b3 < w4.heap.size →
  (sh_postroadref06_New m0_N m0_Arcs (fun x5 s6 s7 t8 w9 =>
  (Keeps [b3, b1] w4 w9 ∧
  (∀ b10 w11, Ext w9 w11 → w9.heap.size ≤ b10 → b10 < w11.heap.size →
  (∀ w12, Off b10 w11 w12 →
  (sh_postroadref09_Build x5 s6 s7 (fun s13 s14 w15 =>
  (Keeps [b10, b3, b1] w12 w15 ∧
  (∀ w16, Off b3 w15 w16 →
  (K s13 s14 w16)))) w12))))) w4)))

def fn_hier_Check : FuncId := 21
/-- postroad/hier.Check -/
def sh_hier_Check (h0_Rank : SV) (h0_Ways : SV) (K : Int → World → Prop) (w : World) : Prop :=
  (∀ b1 w2, Ext w w2 → w.heap.size ≤ b1 → b1 < w2.heap.size → (sh_hier_check h0_Rank h0_Ways (fun p3 x4 w5 => (Keeps [b1] w2 w5 ∧ (K x4 w5))) w2))

def fn_postroadlaw10_HierOfMaps : FuncId := 5
/-- postroad/postroadlaw10.HierOfMaps -/
def sh_postroadlaw10_HierOfMaps (n0 : Int) (arcs0 : SV) (v0 : Int) (K : Bool → World → Prop) (w : World) : Prop :=
  (sh_postroadref07_Of n0 arcs0 (fun x1 s2 w3 =>
  (∀ b4 w5, Ext w3 w5 → w3.heap.size ≤ b4 → b4 < w5.heap.size →
  (∀ w6, Off b4 w5 w6 →
  (sh_postroadref09_Of x1 s2 (fun s7 s8 w9 =>
  (Keeps [b4] w6 w9 ∧
  (∀ b10 w11, Ext w9 w11 → w9.heap.size ≤ b10 → b10 < w11.heap.size →
  (∀ w12, Off b10 w11 w12 →
  (sh_hier_New s7 s8 (fun p13 w14 =>
  (Keeps [b10, b4] w12 w14 ∧
  (App 8 [(.int .i64 (0 : Int))] ⟨none, 0, 0⟩ s7 w14 (fun s15 w16 =>
  (Keeps [b10, b4] w14 w16 ∧
  (App 40 [(.int .i64 (0 : Int)), (.int .i64 (0 : Int)), (.int .i64 (0 : Int)), (.int .i64 (0 : Int)), (.int .i64 (0 : Int))] ⟨none, 0, 0⟩ s8 w16 (fun s17 w18 =>
  (Keeps [b10, b4] w16 w18 ∧
  (sh_hier_New s15 s17 (fun p19 w20 =>
  (Keeps [b10, b4] w18 w20 ∧
  (Join (Unit) (fun J21 =>
  (LoopT (Int × Unit) (fun t23 again22 w24 =>
  (cond (decide (t23.1 < (s15.len : Int))) (Idx s15.a s15.len t23.1 1 (fun a25 =>
  (stL w24 a25 [(.int .i64 (0 : Int))] 0 (fun w26 =>
  (Keeps [b10, b4] w24 w26 ∧
  (again22 ((IntKind.i64.wrap (t23.1 + (1 : Int))), ()) w26)))))) (J21 () w24))) ((0 : Int), ()) w20))
  (fun t27 w28 =>
  (Join (Unit) (fun J29 =>
  (LoopT (Int × Unit) (fun t31 again30 w32 =>
  (cond (decide (t31.1 < (s17.len : Int))) (Idx s17.a s17.len t31.1 5 (fun a33 =>
  (stL w32 a33 [(.int .i64 (0 : Int)), (.int .i64 (0 : Int)), (.int .i64 (0 : Int)), (.int .i64 (0 : Int)), (.int .i64 (0 : Int))] 0 (fun w34 =>
  (Keeps [b10, b4] w32 w34 ∧
  (again30 ((IntKind.i64.wrap (t31.1 + (1 : Int))), ()) w34)))))) (J29 () w32))) ((0 : Int), ()) w28))
  (fun t35 w36 =>
  (if x1 = 0 then False else (sh_hier_Hier_Up p19 ((IntKind.i64.wrap (v0)).tmod x1) (fun s37 w38 =>
  (Keeps [b10, b4] w36 w38 ∧
  (Join (Unit) (fun J39 =>
  (LoopT (Int × Unit) (fun t41 again40 w42 =>
  (cond (decide (t41.1 < (s37.len : Int))) (Idx s37.a s37.len t41.1 3 (fun a43 =>
  (stL w42 (a43.add 1) [(.int .i64 (-1 : Int))] 0 (fun w44 =>
  (Keeps [b10, b4] w42 w44 ∧
  (again40 ((IntKind.i64.wrap (t41.1 + (1 : Int))), ()) w44)))))) (J39 () w42))) ((0 : Int), ()) w38))
  (fun t45 w46 =>
  (∀ w48, Ext w46 w48 →
  (sh_hier_Check s7 s8 (fun x47 w49 =>
  (Keeps [b10, b4] w48 w49 ∧
  (cond (x47 == (0 : Int)) (Quiet (Int) (fun r51 =>
  (.int .i64 r51)) (fun K52 w53' => sh_hier_Hier_N p13 (fun x50 w53 => K52 x50 w53) w53') w49 (fun r51 =>
  (cond (r51 == x1) (Quiet (Int) (fun r55 =>
  (.int .i64 r55)) (fun K56 w57' => sh_hier_Hier_Rank p19 ((IntKind.i64.wrap (v0)).tmod x1) (fun x54 w57 => K56 x54 w57) w57') w49 (fun r55 =>
  (Quiet (Int) (fun r59 =>
  (.int .i64 r59)) (fun K60 w61' => sh_hier_Hier_Rank p13 ((IntKind.i64.wrap (v0)).tmod x1) (fun x58 w61 => K60 x58 w61) w61') w49 (fun r59 =>
  (cond (r55 == r59) (∀ w63, Ext w49 w63 →
  (sh_hier_Hier_Up p13 ((IntKind.i64.wrap (v0)).tmod x1) (fun s62 w64 =>
  (Keeps [b10, b4] w63 w64 ∧
  (∀ w66, Ext w64 w66 →
  (sh_hier_Hier_Up p19 ((IntKind.i64.wrap (v0)).tmod x1) (fun s65 w67 =>
  (Keeps [b10, b4] w66 w67 ∧
  (Quiet (Bool) (fun r69 =>
  (.bool r69)) (fun K70 w71' => sh_postroadref06_SameEdges s62 s65 (fun t68 w71 => K70 t68 w71) w71') w67 (fun r69 =>
  (cond r69 (∀ w73, Ext w67 w73 →
  (sh_hier_Hier_Down p13 ((IntKind.i64.wrap (v0)).tmod x1) (fun s72 w74 =>
  (Keeps [b10, b4] w73 w74 ∧
  (∀ w76, Ext w74 w76 →
  (sh_hier_Hier_Down p19 ((IntKind.i64.wrap (v0)).tmod x1) (fun s75 w77 =>
  (Keeps [b10, b4] w76 w77 ∧
  (Quiet (Bool) (fun r79 =>
  (.bool r79)) (fun K80 w81' => sh_postroadref06_SameEdges s72 s75 (fun t78 w81 => K80 t78 w81) w81') w77 (fun r79 =>
  (cond r79 (∀ w83, Ext w77 w83 →
  (sh_postroadlaw10_known  (fun t82 w84 =>
  (Keeps [b10, b4] w83 w84 ∧
  (∀ w85, Ext w84 w85 →
  (K t82 w85)))) w83)) (∀ w86, Ext w77 w86 →
  (K false w86))))))) w76)))) w73)) (∀ w87, Ext w67 w87 →
  (K false w87))))))) w66)))) w63)) (∀ w88, Ext w49 w88 →
  (K false w88))))))) (∀ w89, Ext w49 w89 →
  (K false w89))))) (∀ w90, Ext w49 w90 →
  (K false w90))))) w48)))))) w36)))))))) w18))))))))) w12))))) w6)))) w)

def fn_postroadlaw10_HierOdd : FuncId := 6
/-- postroad/postroadlaw10.HierOdd -/
def sh_postroadlaw10_HierOdd (h0_Rank : SV) (h0_Ways : SV) (at_0 : Int) (more0 : Int) (K : Bool → World → Prop) (w : World) : Prop :=
  (∀ b1 w2, Ext w w2 → w.heap.size ≤ b1 → b1 < w2.heap.size →
  (sh_postroadlaw10_long h0_Rank h0_Ways (fun t3 w4 =>
  (Keeps [b1] w2 w4 ∧
  (cond t3 (sh_postroadlaw10_known  (fun t5 w6 =>
  (Keeps [b1] w4 w6 ∧
  (K t5 w6))) w4) (sh_postroadref10_Check h0_Rank h0_Ways (fun x7 w8 =>
  (Keeps [b1] w4 w8 ∧
  (cond (x7 != (0 : Int)) (sh_postroadlaw10_known  (fun t9 w10 =>
  (Keeps [b1] w8 w10 ∧
  (K t9 w10))) w8) (cond ((h0_Ways.len : Int) == (0 : Int)) (sh_postroadlaw10_known  (fun t11 w12 =>
  (Keeps [b1] w8 w12 ∧
  (K t11 w12))) w8) (if (h0_Ways.len : Int) = 0 then False else (App 8 [(.int .i64 (0 : Int))] ⟨none, 0, 0⟩ h0_Rank w8 (fun s13 w14 =>
  (Keeps [b1] w8 w14 ∧
  (Idx h0_Ways.a h0_Ways.len ((IntKind.i64.wrap (at_0)).tmod (h0_Ways.len : Int)) 5 (fun a15 =>
  (∃ x16 : Int, w14.cell? (a15.add 0) = some (.int .i64 x16) ∧
  (Idx h0_Ways.a h0_Ways.len ((IntKind.i64.wrap (at_0)).tmod (h0_Ways.len : Int)) 5 (fun a17 =>
  (∃ x18 : Int, w14.cell? (a17.add 1) = some (.int .i64 x18) ∧
  (Idx s13.a s13.len x18 1 (fun a19 =>
  (∃ x20 : Int, w14.cell? a19 = some (.int .i64 x20) ∧
  (Idx s13.a s13.len x16 1 (fun a21 =>
  (∀ w22, Ext w14 w22 →
  (stL w22 a21 [(.int .i64 x20)] 0 (fun w23 =>
  (Keeps [b1] w22 w23 ∧
  (∀ w24, Ext w23 w24 →
  (App 40 [(.int .i64 (0 : Int)), (.int .i64 (0 : Int)), (.int .i64 (0 : Int)), (.int .i64 (0 : Int)), (.int .i64 (0 : Int))] ⟨none, 0, 0⟩ h0_Ways w24 (fun s25 w26 =>
  (Keeps [b1] w24 w26 ∧
  (Idx h0_Ways.a h0_Ways.len ((IntKind.i64.wrap (at_0)).tmod (h0_Ways.len : Int)) 5 (fun a27 =>
  (∃ x28 : Int, w26.cell? (a27.add 0) = some (.int .i64 x28) ∧ ∃ x29 : Int, w26.cell? (a27.add 1) = some (.int .i64 x29) ∧ ∃ x30 : Int, w26.cell? (a27.add 2) = some (.int .i64 x30) ∧ ∃ x31 : Int, w26.cell? (a27.add 3) = some (.int .i64 x31) ∧ ∃ x32 : Int, w26.cell? (a27.add 4) = some (.int .i64 x32) ∧
  (NewB [(.int .i64 x28), (.int .i64 x29), (.int .i64 x30), (.int .i64 x31), (.int .i64 x32)] w26 (fun b33 w34 =>
  (App 40 [(.int .i64 (0 : Int)), (.int .i64 (0 : Int)), (.int .i64 (0 : Int)), (.int .i64 (0 : Int)), (.int .i64 (0 : Int))] s25 ⟨(some ⟨b33, 0, none⟩), 1, 1⟩ w34 (fun s35 w36 =>
  (Keeps [b1] w34 w36 ∧
  (App 40 [(.int .i64 (0 : Int)), (.int .i64 (0 : Int)), (.int .i64 (0 : Int)), (.int .i64 (0 : Int)), (.int .i64 (0 : Int))] ⟨none, 0, 0⟩ h0_Ways w36 (fun s37 w38 =>
  (Keeps [b1] w36 w38 ∧
  (Idx s37.a s37.len ((IntKind.i64.wrap (at_0)).tmod (h0_Ways.len : Int)) 5 (fun a39 =>
  (∃ x40 : Int, w38.cell? ((a39.add 2).add 0) = some (.int .i64 x40) ∧
  (Idx s37.a s37.len ((IntKind.i64.wrap (at_0)).tmod (h0_Ways.len : Int)) 5 (fun a41 =>
  (stL w38 ((a41.add 2).add 0) [(.int .i64 (IntKind.i64.wrap ((IntKind.i64.wrap (x40 + (1 : Int))) + (IntKind.i64.wrap (more0)))))] 0 (fun w42 =>
  (Keeps [b1] w38 w42 ∧
  (sh_hier_Check s13 h0_Ways (fun x43 w44 =>
  (Keeps [b1] w42 w44 ∧
  (sh_hier_Check h0_Rank s35 (fun x45 w46 =>
  (Keeps [b1] w44 w46 ∧
  (sh_hier_Check h0_Rank s37 (fun x47 w48 =>
  (Keeps [b1] w46 w48 ∧
  (cond (x43 == (2 : Int)) (cond (x45 == (2 : Int)) (Idx h0_Ways.a h0_Ways.len ((IntKind.i64.wrap (at_0)).tmod (h0_Ways.len : Int)) 5 (fun a49 =>
  (∃ x50 : Int, w48.cell? ((a49.add 2).add 1) = some (.int .i64 x50) ∧
  (cond (x50 == (-1 : Int)) (sh_hier_Check h0_Rank h0_Ways (fun x51 w52 =>
  (Keeps [b1] w48 w52 ∧
  (cond (x51 == (0 : Int)) (sh_postroadlaw10_known  (fun t53 w54 =>
  (Keeps [b1] w52 w54 ∧
  (K t53 w54))) w52) (K false w52)))) w48) (cond (x47 == (2 : Int)) (sh_hier_Check h0_Rank h0_Ways (fun x55 w56 =>
  (Keeps [b1] w48 w56 ∧
  (cond (x55 == (0 : Int)) (sh_postroadlaw10_known  (fun t57 w58 =>
  (Keeps [b1] w56 w58 ∧
  (K t57 w58))) w56) (K false w56)))) w48) (K false w48)))))) (K false w48)) (K false w48)))) w46))) w44))) w42))))))))))))))))))))))))))))))))))))))))))))))) w4)))) w2))

def fn_hier_Hier_Find : FuncId := 24
/-- (*postroad/hier.Hier).Find -/
def sh_hier_Hier_Find (h0 : Option Addr) (u0 : Int) (v0 : Int) (K : Int → World → Prop) (w : World) : Prop :=
  (cond h0.isNone (K (-1 : Int) w) (Nn h0 (fun a1 =>
  (∃ m2 : Option Nat, w.cell? (a1.add 3) = some (.map m2) ∧
  (∃ mm3, MapR true 2 w m2 mm3 ∧ ∃ x4 : Int, (assoc mm3 [u0, v0]).getD (.int .i64 (0 : Int)) = (.int .i64 x4) ∧
  (cond (!((assoc mm3 [u0, v0]).isSome)) (K (-1 : Int) w) (K x4 w)))))))

def fn_hier_Hier_At : FuncId := 25
/-- (*postroad/hier.Hier).At -/
def sh_hier_Hier_At (h0 : Option Addr) (rank0 : Int) (K : Int → World → Prop) (w : World) : Prop :=
  (cond (decide (rank0 < (0 : Int))) (K (-1 : Int) w) (sh_hier_Hier_N h0 (fun x1 w2 =>
  (cond (decide (rank0 ≥ x1)) (K (-1 : Int) w2) (Nn h0 (fun a3 =>
  (∃ s4 : SV, w2.cell? (a3.add 2) = some (.slice s4.a s4.len s4.cap) ∧
  (Idx s4.a s4.len rank0 1 (fun a5 =>
  (∃ x6 : Int, w2.cell? a5 = some (.int .i64 x6) ∧
  (K x6 w2))))))))) w))

def fn_postroadlaw10_HierFinds : FuncId := 7
/-- postroad/postroadlaw10.HierFinds -/
def sh_postroadlaw10_HierFinds (h0_Rank : SV) (h0_Ways : SV) (u0 : Int) (v0 : Int) (K : Bool → World → Prop) (w : World) : Prop :=
  (∀ b1 w2, Ext w w2 → w.heap.size ≤ b1 → b1 < w2.heap.size →
  (sh_postroadlaw10_long h0_Rank h0_Ways (fun t3 w4 =>
  (Keeps [b1] w2 w4 ∧
  (cond t3 (sh_postroadlaw10_known  (fun t5 w6 =>
  (Keeps [b1] w4 w6 ∧
  (K t5 w6))) w4) (sh_hier_Check h0_Rank h0_Ways (fun x7 w8 =>
  (Keeps [b1] w4 w8 ∧
  (cond (x7 != (0 : Int)) (sh_postroadlaw10_known  (fun t9 w10 =>
  (Keeps [b1] w8 w10 ∧
  (K t9 w10))) w8) (sh_hier_New h0_Rank h0_Ways (fun p11 w12 =>
  (Keeps [b1] w8 w12 ∧
  (Join (Int × Unit) (fun J13 =>
  (LoopT (Int × Int × Unit) (fun t15 again14 w16 =>
  (cond (decide (t15.2.1 < (h0_Ways.len : Int))) (Join (Int × Unit) (fun J17 =>
  (Idx h0_Ways.a h0_Ways.len t15.2.1 5 (fun a18 =>
  (∃ x19 : Int, w16.cell? (a18.add 0) = some (.int .i64 x19) ∧
  (Idx h0_Ways.a h0_Ways.len t15.2.1 5 (fun a20 =>
  (∃ x21 : Int, w16.cell? (a20.add 1) = some (.int .i64 x21) ∧
  (Quiet (Int) (fun r23 =>
  (.int .i64 r23)) (fun K24 w25' => sh_hier_Hier_Find p11 x19 x21 (fun x22 w25 => K24 x22 w25) w25') w16 (fun r23 =>
  (∀ w26, Ext w16 w26 →
  (cond (r23 != t15.2.1) (K false w26) (Idx h0_Ways.a h0_Ways.len t15.2.1 5 (fun a27 =>
  (∃ x28 : Int, w26.cell? (a27.add 0) = some (.int .i64 x28) ∧
  (cond (x28 == u0) (Idx h0_Ways.a h0_Ways.len t15.2.1 5 (fun a29 =>
  (∃ x30 : Int, w26.cell? (a29.add 1) = some (.int .i64 x30) ∧
  (cond (x30 == v0) (J17 (t15.2.1, ()) w26) (J17 (t15.1, ()) w26))))) (J17 (t15.1, ()) w26))))))))))))))))
  (fun t31 w32 =>
  (again14 (t31.1, (IntKind.i64.wrap (t15.2.1 + (1 : Int))), ()) w32))) (J13 (t15.1, ()) w16))) ((-1 : Int), (0 : Int), ()) w12))
  (fun t33 w34 =>
  (Join (Unit) (fun J35 =>
  (LoopT (Int × Unit) (fun t37 again36 w38 =>
  (cond (decide (t37.1 < (h0_Rank.len : Int))) (Quiet (Int) (fun r40 =>
  (.int .i64 r40)) (fun K41 w42' => sh_hier_Hier_Rank p11 t37.1 (fun x39 w42 => K41 x39 w42) w42') w38 (fun r40 =>
  (Idx h0_Rank.a h0_Rank.len t37.1 1 (fun a43 =>
  (∃ x44 : Int, w38.cell? a43 = some (.int .i64 x44) ∧
  (cond (r40 != x44) (∀ w45, Ext w38 w45 →
  (K false w45)) (Idx h0_Rank.a h0_Rank.len t37.1 1 (fun a46 =>
  (∃ x47 : Int, w38.cell? a46 = some (.int .i64 x47) ∧
  (Quiet (Int) (fun r49 =>
  (.int .i64 r49)) (fun K50 w51' => sh_hier_Hier_At p11 x47 (fun x48 w51 => K50 x48 w51) w51') w38 (fun r49 =>
  (∀ w52, Ext w38 w52 →
  (cond (r49 != t37.1) (K false w52) (again36 ((IntKind.i64.wrap (t37.1 + (1 : Int))), ()) w52)))))))))))))) (J35 () w38))) ((0 : Int), ()) w34))
  (fun t53 w54 =>
  (Quiet (Int) (fun r56 =>
  (.int .i64 r56)) (fun K57 w58' => sh_hier_Hier_Find p11 u0 v0 (fun x55 w58 => K57 x55 w58) w58') w54 (fun r56 =>
  (cond (r56 == t33.1) (Quiet (Int) (fun r60 =>
  (.int .i64 r60)) (fun K61 w62' => sh_hier_Hier_N p11 (fun x59 w62 => K61 x59 w62) w62') w54 (fun r60 =>
  (cond (r60 == (h0_Rank.len : Int)) (∀ w64, Ext w54 w64 →
  (sh_postroadlaw10_known  (fun t63 w65 =>
  (Keeps [b1] w64 w65 ∧
  (∀ w66, Ext w65 w66 →
  (K t63 w66)))) w64)) (∀ w67, Ext w54 w67 →
  (K false w67))))) (∀ w68, Ext w54 w68 →
  (K false w68))))))))))) w8)))) w4)))) w2))

def fn_hier_Hier_Way : FuncId := 26
/-- (*postroad/hier.Hier).Way -/
def sh_hier_Hier_Way (h0 : Option Addr) (k0 : Int) (K : Int → Int → Int → Int → Int → Bool → World → Prop) (w : World) : Prop :=
  (∀ b1 w2, Ext w w2 → w.heap.size ≤ b1 → b1 < w2.heap.size →
  (cond h0.isNone (∀ w3, Off b1 w2 w3 →
  (K (0 : Int) (0 : Int) (0 : Int) (0 : Int) (0 : Int) false w3)) (cond (decide (k0 < (0 : Int))) (∀ w4, Off b1 w2 w4 →
  (K (0 : Int) (0 : Int) (0 : Int) (0 : Int) (0 : Int) false w4)) (Nn h0 (fun a5 =>
  (∃ s6 : SV, w2.cell? ((a5.add 0).add 1) = some (.slice s6.a s6.len s6.cap) ∧
  (cond (decide (k0 ≥ (s6.len : Int))) (∀ w7, Off b1 w2 w7 →
  (K (0 : Int) (0 : Int) (0 : Int) (0 : Int) (0 : Int) false w7)) (Nn h0 (fun a8 =>
  (∃ s9 : SV, w2.cell? ((a8.add 0).add 1) = some (.slice s9.a s9.len s9.cap) ∧
  (Idx s9.a s9.len k0 5 (fun a10 =>
  (∃ x11 : Int, w2.cell? (a10.add 0) = some (.int .i64 x11) ∧ ∃ x12 : Int, w2.cell? (a10.add 1) = some (.int .i64 x12) ∧ ∃ x13 : Int, w2.cell? (a10.add 2) = some (.int .i64 x13) ∧ ∃ x14 : Int, w2.cell? (a10.add 3) = some (.int .i64 x14) ∧ ∃ x15 : Int, w2.cell? (a10.add 4) = some (.int .i64 x15) ∧
  (∀ w16, Off b1 w2 w16 →
  (K x11 x12 x13 x14 x15 true w16)))))))))))))))

def fn_hier_Hier_Halves : FuncId := 27
/-- (*postroad/hier.Hier).Halves -/
def sh_hier_Hier_Halves (h0 : Option Addr) (k0 : Int) (K : Int → Int → Bool → World → Prop) (w : World) : Prop :=
  (sh_hier_Hier_Way h0 k0 (fun x1 x2 x3 x4 x5 t6 w7 =>
  (∀ b8 w9, Ext w7 w9 → w7.heap.size ≤ b8 → b8 < w9.heap.size →
  (∀ w10, Off b8 w9 w10 →
  (cond (!t6) (K (0 : Int) (0 : Int) false w10) (cond (x4 == (-1 : Int)) (K (0 : Int) (0 : Int) false w10) (Nn h0 (fun a11 =>
  (∃ s12 : SV, w10.cell? ((a11.add 0).add 0) = some (.slice s12.a s12.len s12.cap) ∧ ∃ s13 : SV, w10.cell? ((a11.add 0).add 1) = some (.slice s13.a s13.len s13.cap) ∧
  (Nn h0 (fun a14 =>
  (∃ m15 : Option Nat, w10.cell? (a14.add 3) = some (.map m15) ∧
  (Quiet (Int × Int × Bool) (fun r19 =>
  (.tuple #[(.int .i64 r19.1), (.int .i64 r19.2.1), (.bool r19.2.2)])) (fun K20 w21' => sh_hier_halves s12 s13 m15 x1 x2 x3 x4 x5 (fun x16 x17 t18 w21 => K20 (x16, x17, t18) w21) w21') w10 (fun r19 =>
  (∀ w22, Ext w10 w22 →
  (K r19.1 r19.2.1 r19.2.2 w22))))))))))))))) w)

def fn_postroadref10_Halves : FuncId := 28
/-- postroad/postroadref10.Halves -/
def sh_postroadref10_Halves (h0_Rank : SV) (h0_Ways : SV) (k0 : Int) (K : Int → Int → Bool → World → Prop) (w : World) : Prop :=
  (∀ b1 w2, Ext w w2 → w.heap.size ≤ b1 → b1 < w2.heap.size →
  (cond (decide (k0 < (0 : Int))) (K (0 : Int) (0 : Int) false w2) (cond (decide (k0 ≥ (h0_Ways.len : Int))) (K (0 : Int) (0 : Int) false w2) (Idx h0_Ways.a h0_Ways.len k0 5 (fun a3 =>
  (∃ x4 : Int, w2.cell? ((a3.add 2).add 1) = some (.int .i64 x4) ∧
  (cond (x4 == (-1 : Int)) (K (0 : Int) (0 : Int) false w2) (Idx h0_Ways.a h0_Ways.len k0 5 (fun a5 =>
  (∃ x6 : Int, w2.cell? (a5.add 0) = some (.int .i64 x6) ∧ ∃ x7 : Int, w2.cell? (a5.add 1) = some (.int .i64 x7) ∧ ∃ x8 : Int, w2.cell? (a5.add 2) = some (.int .i64 x8) ∧ ∃ x9 : Int, w2.cell? (a5.add 3) = some (.int .i64 x9) ∧ ∃ x10 : Int, w2.cell? (a5.add 4) = some (.int .i64 x10) ∧
  (∀ b11 w12, Ext w2 w12 → w2.heap.size ≤ b11 → b11 < w12.heap.size →
  (∀ w13, Off b11 w12 w13 →
  (Quiet (Int) (fun r15 =>
  (.int .i64 r15)) (fun K16 w17' => sh_postroadref10_Find h0_Rank h0_Ways x6 x9 (fun x14 w17 => K16 x14 w17) w17') w13 (fun r15 =>
  (Quiet (Int) (fun r19 =>
  (.int .i64 r19)) (fun K20 w21' => sh_postroadref10_Find h0_Rank h0_Ways x9 x7 (fun x18 w21 => K20 x18 w21) w21') w13 (fun r19 =>
  (∀ w22, Ext w13 w22 →
  (K r15 r19 true w22))))))))))))))))))

def fn_postroadlaw10_HierTells : FuncId := 8
/-- postroad/postroadlaw10.HierTells -/
def sh_postroadlaw10_HierTells (h0_Rank : SV) (h0_Ways : SV) (u0 : Int) (v0 : Int) (k0 : Int) (K : Bool → World → Prop) (w : World) : Prop :=
  (∀ b1 w2, Ext w w2 → w.heap.size ≤ b1 → b1 < w2.heap.size →
  (sh_postroadlaw10_long h0_Rank h0_Ways (fun t3 w4 =>
  (Keeps [b1] w2 w4 ∧
  (cond t3 (sh_postroadlaw10_known  (fun t5 w6 =>
  (Keeps [b1] w4 w6 ∧
  (K t5 w6))) w4) (sh_postroadref10_Check h0_Rank h0_Ways (fun x7 w8 =>
  (Keeps [b1] w4 w8 ∧
  (sh_hier_New h0_Rank h0_Ways (fun p9 w10 =>
  (Keeps [b1] w8 w10 ∧
  (sh_hier_Check h0_Rank h0_Ways (fun x11 w12 =>
  (Keeps [b1] w10 w12 ∧
  (cond (x11 != x7) (K false w12) (cond (!((!p9.isNone) == (x7 == (0 : Int)))) (K false w12) (cond (x7 != (0 : Int)) (sh_hier_Hier_Rank p9 (0 : Int) (fun x13 w14 =>
  (Keeps [b1] w12 w14 ∧
  (cond (x13 == (-1 : Int)) (sh_hier_Hier_Find p9 (0 : Int) (1 : Int) (fun x15 w16 =>
  (Keeps [b1] w14 w16 ∧
  (cond (x15 == (-1 : Int)) (sh_hier_Hier_Up p9 u0 (fun s17 w18 =>
  (Keeps [b1] w16 w18 ∧
  (cond ((s17.len : Int) == (0 : Int)) (sh_postroadlaw10_known  (fun t19 w20 =>
  (Keeps [b1] w18 w20 ∧
  (K t19 w20))) w18) (K false w18)))) w16) (K false w16)))) w14) (K false w14)))) w12) (Join (Int × Unit) (fun J21 =>
  (cond (decide (v0 ≥ (0 : Int))) (cond (decide (v0 < (h0_Rank.len : Int))) (Idx h0_Rank.a h0_Rank.len v0 1 (fun a22 =>
  (∃ x23 : Int, w12.cell? a22 = some (.int .i64 x23) ∧
  (J21 (x23, ()) w12)))) (J21 ((-1 : Int), ()) w12)) (J21 ((-1 : Int), ()) w12)))
  (fun t24 w25 =>
  (sh_hier_Hier_Way p9 k0 (fun x26 x27 x28 x29 x30 t31 w32 =>
  (Keeps [b1] w25 w32 ∧
  (∀ b33 w34, Ext w32 w34 → w32.heap.size ≤ b33 → b33 < w34.heap.size →
  (∀ w35, Off b33 w34 w35 →
  (cond (decide (k0 ≥ (0 : Int))) (Join (Unit) (fun J36 =>
  (cond (!(t31 == (decide (k0 < (h0_Ways.len : Int))))) (∀ w37, Ext w35 w37 →
  (K false w37)) (cond (decide (k0 < (h0_Ways.len : Int))) (Idx h0_Ways.a h0_Ways.len k0 5 (fun a38 =>
  (∃ x39 : Int, w35.cell? (a38.add 0) = some (.int .i64 x39) ∧ ∃ x40 : Int, w35.cell? (a38.add 1) = some (.int .i64 x40) ∧ ∃ x41 : Int, w35.cell? (a38.add 2) = some (.int .i64 x41) ∧ ∃ x42 : Int, w35.cell? (a38.add 3) = some (.int .i64 x42) ∧ ∃ x43 : Int, w35.cell? (a38.add 4) = some (.int .i64 x43) ∧
  (cond (!((x26 == x39) && ((x27 == x40) && (((x28 == x41) && ((x29 == x42) && ((x30 == x43) && true))) && true)))) (∀ w44, Ext w35 w44 →
  (K false w44)) (cond (!(decide (k0 < (h0_Ways.len : Int)))) (∀ w45, Ext w35 w45 →
  (cond (!((x26 == (0 : Int)) && ((x27 == (0 : Int)) && (((x28 == (0 : Int)) && ((x29 == (0 : Int)) && ((x30 == (0 : Int)) && true))) && true)))) (K false w45) (J36 () w45))) (∀ w46, Ext w35 w46 →
  (J36 () w46))))))) (cond (!(decide (k0 < (h0_Ways.len : Int)))) (∀ w47, Ext w35 w47 →
  (cond (!((x26 == (0 : Int)) && ((x27 == (0 : Int)) && (((x28 == (0 : Int)) && ((x29 == (0 : Int)) && ((x30 == (0 : Int)) && true))) && true)))) (K false w47) (J36 () w47))) (∀ w48, Ext w35 w48 →
  (J36 () w48))))))
  (fun t49 w50 =>
  (sh_hier_Hier_Halves p9 k0 (fun x51 x52 t53 w54 =>
  (Keeps [b33, b1] w50 w54 ∧
  (sh_postroadref10_Halves h0_Rank h0_Ways k0 (fun x55 x56 t57 w58 =>
  (Keeps [b33, b1] w54 w58 ∧
  (cond (x51 != x55) (K false w58) (cond (x52 != x56) (K false w58) (cond (!(t53 == t57)) (K false w58) (Quiet (Int) (fun r60 =>
  (.int .i64 r60)) (fun K61 w62' => sh_hier_Hier_N p9 (fun x59 w62 => K61 x59 w62) w62') w58 (fun r60 =>
  (cond (r60 == (h0_Rank.len : Int)) (Quiet (Int) (fun r64 =>
  (.int .i64 r64)) (fun K65 w66' => sh_hier_Hier_Rank p9 v0 (fun x63 w66 => K65 x63 w66) w66') w58 (fun r64 =>
  (cond (r64 == t24.1) (Quiet (Int) (fun r68 =>
  (.int .i64 r68)) (fun K69 w70' => sh_hier_Hier_At p9 k0 (fun x67 w70 => K69 x67 w70) w70') w58 (fun r68 =>
  (Quiet (Int) (fun r72 =>
  (.int .i64 r72)) (fun K73 w74' => sh_postroadref10_At h0_Rank h0_Ways k0 (fun x71 w74 => K73 x71 w74) w74') w58 (fun r72 =>
  (cond (r68 == r72) (Quiet (Int) (fun r76 =>
  (.int .i64 r76)) (fun K77 w78' => sh_hier_Hier_Find p9 u0 v0 (fun x75 w78 => K77 x75 w78) w78') w58 (fun r76 =>
  (Quiet (Int) (fun r80 =>
  (.int .i64 r80)) (fun K81 w82' => sh_postroadref10_Find h0_Rank h0_Ways u0 v0 (fun x79 w82 => K81 x79 w82) w82') w58 (fun r80 =>
  (cond (r76 == r80) (∀ w84, Ext w58 w84 →
  (sh_postroadlaw10_known  (fun t83 w85 =>
  (Keeps [b33, b1] w84 w85 ∧
  (∀ w86, Ext w85 w86 →
  (K t83 w86)))) w84)) (∀ w87, Ext w58 w87 →
  (K false w87))))))) (∀ w88, Ext w58 w88 →
  (K false w88))))))) (∀ w89, Ext w58 w89 →
  (K false w89))))) (∀ w90, Ext w58 w90 →
  (K false w90)))))))))) w54))) w50))) (Join (Unit) (fun J91 =>
  (cond (!(t31 == false)) (∀ w92, Ext w35 w92 →
  (K false w92)) (cond (!false) (∀ w93, Ext w35 w93 →
  (cond (!((x26 == (0 : Int)) && ((x27 == (0 : Int)) && (((x28 == (0 : Int)) && ((x29 == (0 : Int)) && ((x30 == (0 : Int)) && true))) && true)))) (K false w93) (J91 () w93))) (∀ w94, Ext w35 w94 →
  (J91 () w94)))))
  (fun t95 w96 =>
  (sh_hier_Hier_Halves p9 k0 (fun x97 x98 t99 w100 =>
  (Keeps [b33, b1] w96 w100 ∧
  (sh_postroadref10_Halves h0_Rank h0_Ways k0 (fun x101 x102 t103 w104 =>
  (Keeps [b33, b1] w100 w104 ∧
  (cond (x97 != x101) (K false w104) (cond (x98 != x102) (K false w104) (cond (!(t99 == t103)) (K false w104) (Quiet (Int) (fun r106 =>
  (.int .i64 r106)) (fun K107 w108' => sh_hier_Hier_N p9 (fun x105 w108 => K107 x105 w108) w108') w104 (fun r106 =>
  (cond (r106 == (h0_Rank.len : Int)) (Quiet (Int) (fun r110 =>
  (.int .i64 r110)) (fun K111 w112' => sh_hier_Hier_Rank p9 v0 (fun x109 w112 => K111 x109 w112) w112') w104 (fun r110 =>
  (cond (r110 == t24.1) (Quiet (Int) (fun r114 =>
  (.int .i64 r114)) (fun K115 w116' => sh_hier_Hier_At p9 k0 (fun x113 w116 => K115 x113 w116) w116') w104 (fun r114 =>
  (Quiet (Int) (fun r118 =>
  (.int .i64 r118)) (fun K119 w120' => sh_postroadref10_At h0_Rank h0_Ways k0 (fun x117 w120 => K119 x117 w120) w120') w104 (fun r118 =>
  (cond (r114 == r118) (Quiet (Int) (fun r122 =>
  (.int .i64 r122)) (fun K123 w124' => sh_hier_Hier_Find p9 u0 v0 (fun x121 w124 => K123 x121 w124) w124') w104 (fun r122 =>
  (Quiet (Int) (fun r126 =>
  (.int .i64 r126)) (fun K127 w128' => sh_postroadref10_Find h0_Rank h0_Ways u0 v0 (fun x125 w128 => K127 x125 w128) w128') w104 (fun r126 =>
  (cond (r122 == r126) (∀ w130, Ext w104 w130 →
  (sh_postroadlaw10_known  (fun t129 w131 =>
  (Keeps [b33, b1] w130 w131 ∧
  (∀ w132, Ext w131 w132 →
  (K t129 w132)))) w130)) (∀ w133, Ext w104 w133 →
  (K false w133))))))) (∀ w134, Ext w104 w134 →
  (K false w134))))))) (∀ w135, Ext w104 w135 →
  (K false w135))))) (∀ w136, Ext w104 w136 →
  (K false w136)))))))))) w100))) w96)))))))) w25)))))))) w10))) w8))) w4)))) w2))

def fn_postroadlaw10_HierRises : FuncId := 9
/-- postroad/postroadlaw10.HierRises -/
def sh_postroadlaw10_HierRises (h0_Rank : SV) (h0_Ways : SV) (K : Bool → World → Prop) (w : World) : Prop :=
  (∀ b1 w2, Ext w w2 → w.heap.size ≤ b1 → b1 < w2.heap.size →
  (sh_postroadlaw10_long h0_Rank h0_Ways (fun t3 w4 =>
  (Keeps [b1] w2 w4 ∧
  (cond t3 (sh_postroadlaw10_known  (fun t5 w6 =>
  (Keeps [b1] w4 w6 ∧
  (K t5 w6))) w4) (sh_hier_Check h0_Rank h0_Ways (fun x7 w8 =>
  (Keeps [b1] w4 w8 ∧
  (cond (x7 != (0 : Int)) (sh_postroadlaw10_known  (fun t9 w10 =>
  (Keeps [b1] w8 w10 ∧
  (K t9 w10))) w8) (sh_hier_New h0_Rank h0_Ways (fun p11 w12 =>
  (Keeps [b1] w8 w12 ∧
  (MkS 8 [(.int .i64 (0 : Int))] (h0_Ways.len : Int) (h0_Ways.len : Int) w12 (fun s13 w14 =>
  (Join (Unit) (fun J15 =>
  (LoopT (Int × Unit) (fun t17 again16 w18 =>
  (sh_hier_Hier_N p11 (fun x19 w20 =>
  (Keeps [b1] w18 w20 ∧
  (cond (decide (t17.1 < x19)) (Join (Unit) (fun J21 =>
  (sh_hier_Hier_Rank p11 t17.1 (fun x22 w23 =>
  (Keeps [b1] w20 w23 ∧
  (sh_hier_Hier_At p11 x22 (fun x24 w25 =>
  (Keeps [b1] w23 w25 ∧
  (cond (x24 != t17.1) (K false w25) (sh_hier_Hier_Up p11 t17.1 (fun s26 w27 =>
  (Keeps [b1] w25 w27 ∧
  (Join (Unit) (fun J28 =>
  (LoopT (Int × Unit) (fun t30 again29 w31 =>
  (cond (decide (t30.1 < (s26.len : Int))) (Join (Unit) (fun J32 =>
  (Idx s26.a s26.len t30.1 3 (fun a33 =>
  (∃ x34 : Int, w31.cell? (a33.add 0) = some (.int .i64 x34) ∧
  (Quiet (Int) (fun r36 =>
  (.int .i64 r36)) (fun K37 w38' => sh_hier_Hier_Rank p11 x34 (fun x35 w38 => K37 x35 w38) w38') w31 (fun r36 =>
  (Quiet (Int) (fun r40 =>
  (.int .i64 r40)) (fun K41 w42' => sh_hier_Hier_Rank p11 t17.1 (fun x39 w42 => K41 x39 w42) w42') w31 (fun r40 =>
  (cond (decide (r36 ≤ r40)) (∀ w43, Ext w31 w43 →
  (K false w43)) (Idx s26.a s26.len t30.1 3 (fun a44 =>
  (∃ x45 : Int, w31.cell? (a44.add 0) = some (.int .i64 x45) ∧
  (Quiet (Int) (fun r47 =>
  (.int .i64 r47)) (fun K48 w49' => sh_hier_Hier_Find p11 t17.1 x45 (fun x46 w49 => K48 x46 w49) w49') w31 (fun r47 =>
  (Idx s26.a s26.len t30.1 3 (fun a50 =>
  (∃ x51 : Int, w31.cell? (a50.add 2) = some (.int .i64 x51) ∧
  (cond (r47 != x51) (∀ w52, Ext w31 w52 →
  (K false w52)) (cond (decide (t30.1 > (0 : Int))) (Idx s26.a s26.len t30.1 3 (fun a53 =>
  (∃ x54 : Int, w31.cell? (a53.add 0) = some (.int .i64 x54) ∧
  (Idx s26.a s26.len (IntKind.i64.wrap (t30.1 - (1 : Int))) 3 (fun a55 =>
  (∃ x56 : Int, w31.cell? (a55.add 0) = some (.int .i64 x56) ∧
  (∀ w57, Ext w31 w57 →
  (cond (decide (x54 ≤ x56)) (K false w57) (J32 () w57))))))))) (∀ w58, Ext w31 w58 →
  (J32 () w58)))))))))))))))))))))
  (fun t59 w60 =>
  (Idx s26.a s26.len t30.1 3 (fun a61 =>
  (∃ x62 : Int, w60.cell? (a61.add 2) = some (.int .i64 x62) ∧
  (Idx s26.a s26.len t30.1 3 (fun a63 =>
  (∃ x64 : Int, w60.cell? (a63.add 2) = some (.int .i64 x64) ∧
  (Idx s13.a s13.len x64 1 (fun a65 =>
  (∃ x66 : Int, w60.cell? a65 = some (.int .i64 x66) ∧
  (Idx s13.a s13.len x62 1 (fun a67 =>
  (∀ w68, Ext w60 w68 →
  (stL w68 a67 [(.int .i64 (IntKind.i64.wrap (x66 + (1 : Int))))] 0 (fun w69 =>
  (Keeps [b1] w68 w69 ∧
  (∀ w70, Ext w69 w70 →
  (again29 ((IntKind.i64.wrap (t30.1 + (1 : Int))), ()) w70))))))))))))))))))) (J28 () w31))) ((0 : Int), ()) w27))
  (fun t71 w72 =>
  (sh_hier_Hier_Down p11 t17.1 (fun s73 w74 =>
  (Keeps [b1] w72 w74 ∧
  (LoopT (Int × Unit) (fun t76 again75 w77 =>
  (cond (decide (t76.1 < (s73.len : Int))) (Idx s73.a s73.len t76.1 3 (fun a78 =>
  (∃ x79 : Int, w77.cell? (a78.add 0) = some (.int .i64 x79) ∧
  (Quiet (Int) (fun r81 =>
  (.int .i64 r81)) (fun K82 w83' => sh_hier_Hier_Rank p11 x79 (fun x80 w83 => K82 x80 w83) w83') w77 (fun r81 =>
  (Quiet (Int) (fun r85 =>
  (.int .i64 r85)) (fun K86 w87' => sh_hier_Hier_Rank p11 t17.1 (fun x84 w87 => K86 x84 w87) w87') w77 (fun r85 =>
  (cond (decide (r81 ≤ r85)) (∀ w88, Ext w77 w88 →
  (K false w88)) (Idx s73.a s73.len t76.1 3 (fun a89 =>
  (∃ x90 : Int, w77.cell? (a89.add 0) = some (.int .i64 x90) ∧
  (Quiet (Int) (fun r92 =>
  (.int .i64 r92)) (fun K93 w94' => sh_hier_Hier_Find p11 x90 t17.1 (fun x91 w94 => K93 x91 w94) w94') w77 (fun r92 =>
  (Idx s73.a s73.len t76.1 3 (fun a95 =>
  (∃ x96 : Int, w77.cell? (a95.add 2) = some (.int .i64 x96) ∧
  (∀ w97, Ext w77 w97 →
  (cond (r92 != x96) (K false w97) (Idx s73.a s73.len t76.1 3 (fun a98 =>
  (∃ x99 : Int, w97.cell? (a98.add 2) = some (.int .i64 x99) ∧
  (Idx s73.a s73.len t76.1 3 (fun a100 =>
  (∃ x101 : Int, w97.cell? (a100.add 2) = some (.int .i64 x101) ∧
  (Idx s13.a s13.len x101 1 (fun a102 =>
  (∃ x103 : Int, w97.cell? a102 = some (.int .i64 x103) ∧
  (Idx s13.a s13.len x99 1 (fun a104 =>
  (∀ w105, Ext w97 w105 →
  (stL w105 a104 [(.int .i64 (IntKind.i64.wrap (x103 + (1 : Int))))] 0 (fun w106 =>
  (Keeps [b1] w105 w106 ∧
  (∀ w107, Ext w106 w107 →
  (again75 ((IntKind.i64.wrap (t76.1 + (1 : Int))), ()) w107))))))))))))))))))))))))))))))))))) (J21 () w77))) ((0 : Int), ()) w74))) w72))))) w25)))) w23))) w20))
  (fun t108 w109 =>
  (again16 ((IntKind.i64.wrap (t17.1 + (1 : Int))), ()) w109))) (J15 () w20)))) w18)) ((0 : Int), ()) w14))
  (fun t110 w111 =>
  (Join (Unit) (fun J112 =>
  (LoopT (Int × Unit) (fun t114 again113 w115 =>
  (cond (decide (t114.1 < (h0_Ways.len : Int))) (Join (Unit) (fun J116 =>
  (sh_hier_Hier_Way p11 t114.1 (fun x117 x118 x119 x120 x121 t122 w123 =>
  (Keeps [b1] w115 w123 ∧
  (∀ b124 w125, Ext w123 w125 → w123.heap.size ≤ b124 → b124 < w125.heap.size →
  (∀ w126, Off b124 w125 w126 →
  (sh_hier_Hier_Halves p11 t114.1 (fun x127 x128 t129 w130 =>
  (Keeps [b124, b1] w126 w130 ∧
  (Idx s13.a s13.len t114.1 1 (fun a131 =>
  (∃ x132 : Int, w130.cell? a131 = some (.int .i64 x132) ∧
  (cond (x132 != (1 : Int)) (K false w130) (cond (!(t129 == (x120 != (-1 : Int)))) (K false w130) (cond (!t129) (J116 () w130) (sh_hier_Hier_Way p11 x127 (fun x133 x134 x135 x136 x137 t138 w139 =>
  (Keeps [b124, b1] w130 w139 ∧
  (∀ b140 w141, Ext w139 w141 → w139.heap.size ≤ b140 → b140 < w141.heap.size →
  (∀ w142, Off b140 w141 w142 →
  (sh_hier_Hier_Way p11 x128 (fun x143 x144 x145 x146 x147 t148 w149 =>
  (Keeps [b140, b124, b1] w142 w149 ∧
  (∀ b150 w151, Ext w149 w151 → w149.heap.size ≤ b150 → b150 < w151.heap.size →
  (∀ w152, Off b150 w151 w152 →
  (cond (x133 != x117) (∀ w153, Ext w152 w153 →
  (K false w153)) (cond (x134 != x120) (∀ w154, Ext w152 w154 →
  (K false w154)) (cond (x143 != x120) (∀ w155, Ext w152 w155 →
  (K false w155)) (cond (x144 != x118) (∀ w156, Ext w152 w156 →
  (K false w156)) (cond ((IntKind.i64.wrap (x135 + x145)) != x119) (∀ w157, Ext w152 w157 →
  (K false w157)) (Quiet (Int) (fun r159 =>
  (.int .i64 r159)) (fun K160 w161' => sh_hier_Hier_Rank p11 x120 (fun x158 w161 => K160 x158 w161) w161') w152 (fun r159 =>
  (Quiet (Int) (fun r163 =>
  (.int .i64 r163)) (fun K164 w165' => sh_hier_Hier_Rank p11 x117 (fun x162 w165 => K164 x162 w165) w165') w152 (fun r163 =>
  (cond (decide (r159 ≥ r163)) (∀ w166, Ext w152 w166 →
  (K false w166)) (Quiet (Int) (fun r168 =>
  (.int .i64 r168)) (fun K169 w170' => sh_hier_Hier_Rank p11 x120 (fun x167 w170 => K169 x167 w170) w170') w152 (fun r168 =>
  (Quiet (Int) (fun r172 =>
  (.int .i64 r172)) (fun K173 w174' => sh_hier_Hier_Rank p11 x118 (fun x171 w174 => K173 x171 w174) w174') w152 (fun r172 =>
  (∀ w175, Ext w152 w175 →
  (cond (decide (r168 ≥ r172)) (K false w175) (J116 () w175))))))))))))))))))))) w142))))) w130))))))))) w126))))) w115))
  (fun t176 w177 =>
  (again113 ((IntKind.i64.wrap (t114.1 + (1 : Int))), ()) w177))) (J112 () w115))) ((0 : Int), ()) w111))
  (fun t178 w179 =>
  (sh_postroadlaw10_known  (fun t180 w181 =>
  (Keeps [b1] w179 w181 ∧
  (K t180 w181))) w179))))))))) w8)))) w4)))) w2))
end Go.Sh
