/- The shallow definitions are what the code asks; printed by gen.py of these sessions. -/
import Derived.Test.YthpbelgmppaafaaGraphDef
import Derived.Test.YthpbelgmppaafaaSnd8
import Derived.Test.YthpbelgmppaafaaProg
import Derived.KernelRfl
set_option maxRecDepth 100000
set_option linter.unusedVariables false
namespace Go.Sh
open Go.Proofs
theorem mixed_Try : Try.prog.follows .mixedOrders = true := by kernel_rfl
noncomputable def cx_0 : Cx := Cx.none Try.prog
theorem cx_0.ok : CxOk cx_0 := CxOk.none _
def sh_graph_New_c1.plan : Plan := (.seq .o (.seq .o .o))
theorem sh_graph_New_c1.is (CV : CVT) (k0 : Int) (free1 : Addr) (w : World) (R : Value → World → Prop) : sh_graph_New_c1 k0 free1 (fun r0 w' => R (.int .i64 r0) w') w = denF (cx_0.with CV) Try.f45 sh_graph_New_c1.plan [.v (.int .i64 k0), .v (.pointer (some free1))] w R := by kernel_rfl
theorem sh_graph_New_c1.calls (CV : CVT) (k0 : Int) (free1 : Addr) (hcv : CVOk Try.prog CV) {w : World} {R : Ending → World → Prop} (h : sh_graph_New_c1 k0 free1 (fun r0 w' => R (.returned (.int .i64 r0)) w') w) : Calls Try.prog 45 #[(.int .i64 k0), (.pointer (some free1))] w R :=
  calls_is (cx := cx_0.with CV) mixed_Try (cx_0.ok.with CV) hcv Try.func45 sh_graph_New_c1.plan (xs := [.v (.int .i64 k0), .v (.pointer (some free1))]) ((args_cons _ (args_cons _ args_nil))) (by kernel_rfl) (sh_graph_New_c1.is CV k0 free1 w (fun v w' => R (.returned v) w')) h
def sh_graph_New_c1.o : CVT → List X → (Value → World → Prop) → World → Prop
  | CV, [.v (.int .i64 k0), .v (.pointer (some free1))], K, w => sh_graph_New_c1 k0 free1 (fun r0 w' => K (.int .i64 r0) w') w
  | _, _, _, _ => False
def sh_graph_New_c1.q : CVT → List X → World → (Value → Prop) → Prop
  | CV, [.v (.int .i64 k0), .v (.pointer (some free1))], w, K => Quiet (Int) (fun r => (.int .i64 r)) (fun K1 w' => sh_graph_New_c1 k0 free1 (fun r0 w'' => K1 r0 w'') w') w (fun r => K (.int .i64 r))
  | _, _, _, _ => False
noncomputable def cx_graph_New_c1 : Cx := Cx.add Try.prog cx_0 45 sh_graph_New_c1.o sh_graph_New_c1.q
theorem cx_graph_New_c1.ok : CxOk cx_graph_New_c1 := by
  refine CxOk.add cx_0.ok rfl (fun CV hcv xs K w hx h => ?_) (fun CV hcv xs K w hx h => ?_)
  · unfold sh_graph_New_c1.o at h; split at h
    · rename_i k0 free1; exact sh_graph_New_c1.calls CV k0 free1 hcv h
    · exact h.elim
  · unfold sh_graph_New_c1.q at h; split at h
    · rename_i k0 free1; obtain ⟨r, h1, h2⟩ := h; exact ⟨_, h2, fun w' e => sh_graph_New_c1.calls CV k0 free1 hcv (h1 w' e)⟩
    · exact h.elim
def sh_graph_New_c2.plan : Plan := (.seq .o (.seq .o .o))
theorem sh_graph_New_c2.is (CV : CVT) (k0 : Int) (free1 : Addr) (w : World) (R : Value → World → Prop) : sh_graph_New_c2 k0 free1 (fun r0 w' => R (.int .i64 r0) w') w = denF (cx_graph_New_c1.with CV) Try.f46 sh_graph_New_c2.plan [.v (.int .i64 k0), .v (.pointer (some free1))] w R := by kernel_rfl
theorem sh_graph_New_c2.calls (CV : CVT) (k0 : Int) (free1 : Addr) (hcv : CVOk Try.prog CV) {w : World} {R : Ending → World → Prop} (h : sh_graph_New_c2 k0 free1 (fun r0 w' => R (.returned (.int .i64 r0)) w') w) : Calls Try.prog 46 #[(.int .i64 k0), (.pointer (some free1))] w R :=
  calls_is (cx := cx_graph_New_c1.with CV) mixed_Try (cx_graph_New_c1.ok.with CV) hcv Try.func46 sh_graph_New_c2.plan (xs := [.v (.int .i64 k0), .v (.pointer (some free1))]) ((args_cons _ (args_cons _ args_nil))) (by kernel_rfl) (sh_graph_New_c2.is CV k0 free1 w (fun v w' => R (.returned v) w')) h
def sh_graph_New_c2.o : CVT → List X → (Value → World → Prop) → World → Prop
  | CV, [.v (.int .i64 k0), .v (.pointer (some free1))], K, w => sh_graph_New_c2 k0 free1 (fun r0 w' => K (.int .i64 r0) w') w
  | _, _, _, _ => False
def sh_graph_New_c2.q : CVT → List X → World → (Value → Prop) → Prop
  | CV, [.v (.int .i64 k0), .v (.pointer (some free1))], w, K => Quiet (Int) (fun r => (.int .i64 r)) (fun K1 w' => sh_graph_New_c2 k0 free1 (fun r0 w'' => K1 r0 w'') w') w (fun r => K (.int .i64 r))
  | _, _, _, _ => False
noncomputable def cx_graph_New_c2 : Cx := Cx.add Try.prog cx_graph_New_c1 46 sh_graph_New_c2.o sh_graph_New_c2.q
theorem cx_graph_New_c2.ok : CxOk cx_graph_New_c2 := by
  refine CxOk.add cx_graph_New_c1.ok rfl (fun CV hcv xs K w hx h => ?_) (fun CV hcv xs K w hx h => ?_)
  · unfold sh_graph_New_c2.o at h; split at h
    · rename_i k0 free1; exact sh_graph_New_c2.calls CV k0 free1 hcv h
    · exact h.elim
  · unfold sh_graph_New_c2.q at h; split at h
    · rename_i k0 free1; obtain ⟨r, h1, h2⟩ := h; exact ⟨_, h2, fun w' e => sh_graph_New_c2.calls CV k0 free1 hcv (h1 w' e)⟩
    · exact h.elim
def sh_graph_New_c3.plan : Plan := (.seq .o (.seq .o .o))
theorem sh_graph_New_c3.is (CV : CVT) (arg0_0 : Int) (a0_From : Int) (a0_To : Int) (a0_W : Int) (w : World) (R : Value → World → Prop) : sh_graph_New_c3 arg0_0 a0_From a0_To a0_W (fun r0 w' => R (.bool r0) w') w = denF (cx_graph_New_c2.with CV) Try.f48 sh_graph_New_c3.plan [.v (.int .i64 arg0_0), .v (.agg #[(.int .i64 a0_From), (.int .i64 a0_To), (.int .i64 a0_W)])] w R := by kernel_rfl
theorem sh_graph_New_c3.calls (CV : CVT) (arg0_0 : Int) (a0_From : Int) (a0_To : Int) (a0_W : Int) (hcv : CVOk Try.prog CV) {w : World} {R : Ending → World → Prop} (h : sh_graph_New_c3 arg0_0 a0_From a0_To a0_W (fun r0 w' => R (.returned (.bool r0)) w') w) : Calls Try.prog 48 #[(.int .i64 arg0_0), (.agg #[(.int .i64 a0_From), (.int .i64 a0_To), (.int .i64 a0_W)])] w R :=
  calls_is (cx := cx_graph_New_c2.with CV) mixed_Try (cx_graph_New_c2.ok.with CV) hcv Try.func48 sh_graph_New_c3.plan (xs := [.v (.int .i64 arg0_0), .v (.agg #[(.int .i64 a0_From), (.int .i64 a0_To), (.int .i64 a0_W)])]) ((args_cons _ (args_cons _ args_nil))) (by kernel_rfl) (sh_graph_New_c3.is CV arg0_0 a0_From a0_To a0_W w (fun v w' => R (.returned v) w')) h
def sh_graph_New_c3.o : CVT → List X → (Value → World → Prop) → World → Prop
  | CV, [.v (.int .i64 arg0_0), .v (.agg ⟨[.int .i64 a0_From, .int .i64 a0_To, .int .i64 a0_W]⟩)], K, w => sh_graph_New_c3 arg0_0 a0_From a0_To a0_W (fun r0 w' => K (.bool r0) w') w
  | _, _, _, _ => False
def sh_graph_New_c3.q : CVT → List X → World → (Value → Prop) → Prop
  | CV, [.v (.int .i64 arg0_0), .v (.agg ⟨[.int .i64 a0_From, .int .i64 a0_To, .int .i64 a0_W]⟩)], w, K => Quiet (Bool) (fun r => (.bool r)) (fun K1 w' => sh_graph_New_c3 arg0_0 a0_From a0_To a0_W (fun r0 w'' => K1 r0 w'') w') w (fun r => K (.bool r))
  | _, _, _, _ => False
noncomputable def cx_graph_New_c3 : Cx := Cx.add Try.prog cx_graph_New_c2 48 sh_graph_New_c3.o sh_graph_New_c3.q
theorem cx_graph_New_c3.ok : CxOk cx_graph_New_c3 := by
  refine CxOk.add cx_graph_New_c2.ok rfl (fun CV hcv xs K w hx h => ?_) (fun CV hcv xs K w hx h => ?_)
  · unfold sh_graph_New_c3.o at h; split at h
    · rename_i arg0_0 a0_From a0_To a0_W; exact sh_graph_New_c3.calls CV arg0_0 a0_From a0_To a0_W hcv h
    · exact h.elim
  · unfold sh_graph_New_c3.q at h; split at h
    · rename_i arg0_0 a0_From a0_To a0_W; obtain ⟨r, h1, h2⟩ := h; exact ⟨_, h2, fun w' e => sh_graph_New_c3.calls CV arg0_0 a0_From a0_To a0_W hcv (h1 w' e)⟩
    · exact h.elim
def sh_graph_Graph_Kept_c1.plan : Plan := (.seq .o (.seq .o .o))
theorem sh_graph_Graph_Kept_c1.is (CV : CVT) (arg0_0 : Int) (is0 : Bool) (w : World) (R : Value → World → Prop) : sh_graph_Graph_Kept_c1 arg0_0 is0 (fun r0 w' => R (.bool r0) w') w = denF (cx_graph_New_c3.with CV) Try.f55 sh_graph_Graph_Kept_c1.plan [.v (.int .i64 arg0_0), .v (.bool is0)] w R := by kernel_rfl
theorem sh_graph_Graph_Kept_c1.calls (CV : CVT) (arg0_0 : Int) (is0 : Bool) (hcv : CVOk Try.prog CV) {w : World} {R : Ending → World → Prop} (h : sh_graph_Graph_Kept_c1 arg0_0 is0 (fun r0 w' => R (.returned (.bool r0)) w') w) : Calls Try.prog 55 #[(.int .i64 arg0_0), (.bool is0)] w R :=
  calls_is (cx := cx_graph_New_c3.with CV) mixed_Try (cx_graph_New_c3.ok.with CV) hcv Try.func55 sh_graph_Graph_Kept_c1.plan (xs := [.v (.int .i64 arg0_0), .v (.bool is0)]) ((args_cons _ (args_cons _ args_nil))) (by kernel_rfl) (sh_graph_Graph_Kept_c1.is CV arg0_0 is0 w (fun v w' => R (.returned v) w')) h
def sh_graph_Graph_Kept_c1.o : CVT → List X → (Value → World → Prop) → World → Prop
  | CV, [.v (.int .i64 arg0_0), .v (.bool is0)], K, w => sh_graph_Graph_Kept_c1 arg0_0 is0 (fun r0 w' => K (.bool r0) w') w
  | _, _, _, _ => False
def sh_graph_Graph_Kept_c1.q : CVT → List X → World → (Value → Prop) → Prop
  | CV, [.v (.int .i64 arg0_0), .v (.bool is0)], w, K => Quiet (Bool) (fun r => (.bool r)) (fun K1 w' => sh_graph_Graph_Kept_c1 arg0_0 is0 (fun r0 w'' => K1 r0 w'') w') w (fun r => K (.bool r))
  | _, _, _, _ => False
noncomputable def cx_graph_Graph_Kept_c1 : Cx := Cx.add Try.prog cx_graph_New_c3 55 sh_graph_Graph_Kept_c1.o sh_graph_Graph_Kept_c1.q
theorem cx_graph_Graph_Kept_c1.ok : CxOk cx_graph_Graph_Kept_c1 := by
  refine CxOk.add cx_graph_New_c3.ok rfl (fun CV hcv xs K w hx h => ?_) (fun CV hcv xs K w hx h => ?_)
  · unfold sh_graph_Graph_Kept_c1.o at h; split at h
    · rename_i arg0_0 is0; exact sh_graph_Graph_Kept_c1.calls CV arg0_0 is0 hcv h
    · exact h.elim
  · unfold sh_graph_Graph_Kept_c1.q at h; split at h
    · rename_i arg0_0 is0; obtain ⟨r, h1, h2⟩ := h; exact ⟨_, h2, fun w' e => sh_graph_Graph_Kept_c1.calls CV arg0_0 is0 hcv (h1 w' e)⟩
    · exact h.elim
def sh_graph_Graph_Best_c1.plan : Plan := (.seq .o (.seq .o .o))
theorem sh_graph_Graph_Best_c1.is (CV : CVT) (arg0_0 : Int) (e0_V : Int) (e0_W : Int) (e0_Arc : Int) (free2 : Addr) (w : World) (R : Value → World → Prop) : sh_graph_Graph_Best_c1 arg0_0 e0_V e0_W e0_Arc free2 (fun r0 w' => R (.bool r0) w') w = denF (cx_graph_Graph_Kept_c1.with CV) Try.f57 sh_graph_Graph_Best_c1.plan [.v (.int .i64 arg0_0), .v (.agg #[(.int .i64 e0_V), (.int .i64 e0_W), (.int .i64 e0_Arc)]), .v (.pointer (some free2))] w R := by kernel_rfl
theorem sh_graph_Graph_Best_c1.calls (CV : CVT) (arg0_0 : Int) (e0_V : Int) (e0_W : Int) (e0_Arc : Int) (free2 : Addr) (hcv : CVOk Try.prog CV) {w : World} {R : Ending → World → Prop} (h : sh_graph_Graph_Best_c1 arg0_0 e0_V e0_W e0_Arc free2 (fun r0 w' => R (.returned (.bool r0)) w') w) : Calls Try.prog 57 #[(.int .i64 arg0_0), (.agg #[(.int .i64 e0_V), (.int .i64 e0_W), (.int .i64 e0_Arc)]), (.pointer (some free2))] w R :=
  calls_is (cx := cx_graph_Graph_Kept_c1.with CV) mixed_Try (cx_graph_Graph_Kept_c1.ok.with CV) hcv Try.func57 sh_graph_Graph_Best_c1.plan (xs := [.v (.int .i64 arg0_0), .v (.agg #[(.int .i64 e0_V), (.int .i64 e0_W), (.int .i64 e0_Arc)]), .v (.pointer (some free2))]) ((args_cons _ (args_cons _ (args_cons _ args_nil)))) (by kernel_rfl) (sh_graph_Graph_Best_c1.is CV arg0_0 e0_V e0_W e0_Arc free2 w (fun v w' => R (.returned v) w')) h
def sh_graph_Graph_Best_c1.o : CVT → List X → (Value → World → Prop) → World → Prop
  | CV, [.v (.int .i64 arg0_0), .v (.agg ⟨[.int .i64 e0_V, .int .i64 e0_W, .int .i64 e0_Arc]⟩), .v (.pointer (some free2))], K, w => sh_graph_Graph_Best_c1 arg0_0 e0_V e0_W e0_Arc free2 (fun r0 w' => K (.bool r0) w') w
  | _, _, _, _ => False
def sh_graph_Graph_Best_c1.q : CVT → List X → World → (Value → Prop) → Prop
  | CV, [.v (.int .i64 arg0_0), .v (.agg ⟨[.int .i64 e0_V, .int .i64 e0_W, .int .i64 e0_Arc]⟩), .v (.pointer (some free2))], w, K => Quiet (Bool) (fun r => (.bool r)) (fun K1 w' => sh_graph_Graph_Best_c1 arg0_0 e0_V e0_W e0_Arc free2 (fun r0 w'' => K1 r0 w'') w') w (fun r => K (.bool r))
  | _, _, _, _ => False
noncomputable def cx_graph_Graph_Best_c1 : Cx := Cx.add Try.prog cx_graph_Graph_Kept_c1 57 sh_graph_Graph_Best_c1.o sh_graph_Graph_Best_c1.q
theorem cx_graph_Graph_Best_c1.ok : CxOk cx_graph_Graph_Best_c1 := by
  refine CxOk.add cx_graph_Graph_Kept_c1.ok rfl (fun CV hcv xs K w hx h => ?_) (fun CV hcv xs K w hx h => ?_)
  · unfold sh_graph_Graph_Best_c1.o at h; split at h
    · rename_i arg0_0 e0_V e0_W e0_Arc free2; exact sh_graph_Graph_Best_c1.calls CV arg0_0 e0_V e0_W e0_Arc free2 hcv h
    · exact h.elim
  · unfold sh_graph_Graph_Best_c1.q at h; split at h
    · rename_i arg0_0 e0_V e0_W e0_Arc free2; obtain ⟨r, h1, h2⟩ := h; exact ⟨_, h2, fun w' e => sh_graph_Graph_Best_c1.calls CV arg0_0 e0_V e0_W e0_Arc free2 hcv (h1 w' e)⟩
    · exact h.elim
def sh_graph_Graph_Print_c1.plan : Plan := (.seq .o .o)
theorem sh_graph_Graph_Print_c1.is (CV : CVT) (x0 : Int) (free1 : Addr) (w : World) (R : Value → World → Prop) : sh_graph_Graph_Print_c1 x0 free1 (fun w' => R (.tuple #[]) w') w = denF (cx_graph_Graph_Best_c1.with CV) Try.f62 sh_graph_Graph_Print_c1.plan [.v (.int .i64 x0), .v (.pointer (some free1))] w R := by kernel_rfl
theorem sh_graph_Graph_Print_c1.calls (CV : CVT) (x0 : Int) (free1 : Addr) (hcv : CVOk Try.prog CV) {w : World} {R : Ending → World → Prop} (h : sh_graph_Graph_Print_c1 x0 free1 (fun w' => R (.returned (.tuple #[])) w') w) : Calls Try.prog 62 #[(.int .i64 x0), (.pointer (some free1))] w R :=
  calls_is (cx := cx_graph_Graph_Best_c1.with CV) mixed_Try (cx_graph_Graph_Best_c1.ok.with CV) hcv Try.func62 sh_graph_Graph_Print_c1.plan (xs := [.v (.int .i64 x0), .v (.pointer (some free1))]) ((args_cons _ (args_cons _ args_nil))) (by kernel_rfl) (sh_graph_Graph_Print_c1.is CV x0 free1 w (fun v w' => R (.returned v) w')) h
def sh_graph_Graph_Print_c1.o : CVT → List X → (Value → World → Prop) → World → Prop
  | CV, [.v (.int .i64 x0), .v (.pointer (some free1))], K, w => sh_graph_Graph_Print_c1 x0 free1 (fun w' => K (.tuple #[]) w') w
  | _, _, _, _ => False
def sh_graph_Graph_Print_c1.q : CVT → List X → World → (Value → Prop) → Prop
  | CV, [.v (.int .i64 x0), .v (.pointer (some free1))], w, K => Quiet (Unit) (fun r => (.tuple #[])) (fun K1 w' => sh_graph_Graph_Print_c1 x0 free1 (fun w'' => K1 () w'') w') w (fun r => K (.tuple #[]))
  | _, _, _, _ => False
noncomputable def cx_graph_Graph_Print_c1 : Cx := Cx.add Try.prog cx_graph_Graph_Best_c1 62 sh_graph_Graph_Print_c1.o sh_graph_Graph_Print_c1.q
theorem cx_graph_Graph_Print_c1.ok : CxOk cx_graph_Graph_Print_c1 := by
  refine CxOk.add cx_graph_Graph_Best_c1.ok rfl (fun CV hcv xs K w hx h => ?_) (fun CV hcv xs K w hx h => ?_)
  · unfold sh_graph_Graph_Print_c1.o at h; split at h
    · rename_i x0 free1; exact sh_graph_Graph_Print_c1.calls CV x0 free1 hcv h
    · exact h.elim
  · unfold sh_graph_Graph_Print_c1.q at h; split at h
    · rename_i x0 free1; obtain ⟨r, h1, h2⟩ := h; exact ⟨_, h2, fun w' e => sh_graph_Graph_Print_c1.calls CV x0 free1 hcv (h1 w' e)⟩
    · exact h.elim
def sh_graph_numbers_Arc_c1.plan : Plan := (.seq .o (.block (.loop [.slot 8 (.int .i64)] [] (.seq .o (.seq (.cond .o .o) (.seq (.block (.seq .o (.seq .o (.cond .o .o)))) .o))))))
theorem sh_graph_numbers_Arc_c1.is (CV : CVT) (v0 : Value) (E0 : List Value → (Bool → World → Prop) → World → Prop) (free1 : Addr) (free2 : Addr) (w : World) (R : Value → World → Prop) : sh_graph_numbers_Arc_c1 CV (fun a0 Ky wy => E0 [(.int .i64 a0)] Ky wy) free1 free2 (fun w' => R (.tuple #[]) w') w = denF (cx_graph_Graph_Print_c1.with CV) Try.f65 sh_graph_numbers_Arc_c1.plan [.yl v0 E0, .v (.pointer (some free1)), .v (.pointer (some free2))] w R := by kernel_rfl
theorem sh_graph_numbers_Arc_c1.calls (CV : CVT) (v0 : Value) (E0 : List Value → (Bool → World → Prop) → World → Prop) (free1 : Addr) (free2 : Addr) (hx : ∀ x ∈ [.yl v0 E0, .v (.pointer (some free1)), .v (.pointer (some free2))], ArgOk Try.prog x) (hcv : CVOk Try.prog CV) {w : World} {R : Ending → World → Prop} (h : sh_graph_numbers_Arc_c1 CV (fun a0 Ky wy => E0 [(.int .i64 a0)] Ky wy) free1 free2 (fun w' => R (.returned (.tuple #[])) w') w) : Calls Try.prog 65 #[v0, (.pointer (some free1)), (.pointer (some free2))] w R :=
  calls_is (cx := cx_graph_Graph_Print_c1.with CV) mixed_Try (cx_graph_Graph_Print_c1.ok.with CV) hcv Try.func65 sh_graph_numbers_Arc_c1.plan (xs := [.yl v0 E0, .v (.pointer (some free1)), .v (.pointer (some free2))]) hx (by kernel_rfl) (sh_graph_numbers_Arc_c1.is CV v0 E0 free1 free2 w (fun v w' => R (.returned v) w')) h
def sh_graph_numbers_Arc_c1.o : CVT → List X → (Value → World → Prop) → World → Prop
  | CV, [.yl v0 E0, .v (.pointer (some free1)), .v (.pointer (some free2))], K, w => sh_graph_numbers_Arc_c1 CV (fun a0 Ky wy => E0 [(.int .i64 a0)] Ky wy) free1 free2 (fun w' => K (.tuple #[]) w') w
  | _, _, _, _ => False
def sh_graph_numbers_Arc_c1.q : CVT → List X → World → (Value → Prop) → Prop := fun _ _ _ _ => False
noncomputable def cx_graph_numbers_Arc_c1 : Cx := Cx.add Try.prog cx_graph_Graph_Print_c1 65 sh_graph_numbers_Arc_c1.o sh_graph_numbers_Arc_c1.q
theorem cx_graph_numbers_Arc_c1.ok : CxOk cx_graph_numbers_Arc_c1 := by
  refine CxOk.add cx_graph_Graph_Print_c1.ok rfl (fun CV hcv xs K w hx h => ?_) (fun CV hcv xs K w hx h => ?_)
  · unfold sh_graph_numbers_Arc_c1.o at h; split at h
    · rename_i v0 E0 free1 free2; exact sh_graph_numbers_Arc_c1.calls CV v0 E0 free1 free2 hx hcv h
    · exact h.elim
  · unfold sh_graph_numbers_Arc_c1.q at h; exact h.elim
def sh_graph_numbers_bool_c1.plan : Plan := (.seq .o (.block (.loop [.slot 8 (.int .i64)] [] (.seq .o (.seq (.cond .o .o) (.seq (.block (.seq .o (.seq .o (.cond .o .o)))) .o))))))
theorem sh_graph_numbers_bool_c1.is (CV : CVT) (v0 : Value) (E0 : List Value → (Bool → World → Prop) → World → Prop) (free1 : Addr) (free2 : Addr) (w : World) (R : Value → World → Prop) : sh_graph_numbers_bool_c1 CV (fun a0 Ky wy => E0 [(.int .i64 a0)] Ky wy) free1 free2 (fun w' => R (.tuple #[]) w') w = denF (cx_graph_numbers_Arc_c1.with CV) Try.f66 sh_graph_numbers_bool_c1.plan [.yl v0 E0, .v (.pointer (some free1)), .v (.pointer (some free2))] w R := by kernel_rfl
theorem sh_graph_numbers_bool_c1.calls (CV : CVT) (v0 : Value) (E0 : List Value → (Bool → World → Prop) → World → Prop) (free1 : Addr) (free2 : Addr) (hx : ∀ x ∈ [.yl v0 E0, .v (.pointer (some free1)), .v (.pointer (some free2))], ArgOk Try.prog x) (hcv : CVOk Try.prog CV) {w : World} {R : Ending → World → Prop} (h : sh_graph_numbers_bool_c1 CV (fun a0 Ky wy => E0 [(.int .i64 a0)] Ky wy) free1 free2 (fun w' => R (.returned (.tuple #[])) w') w) : Calls Try.prog 66 #[v0, (.pointer (some free1)), (.pointer (some free2))] w R :=
  calls_is (cx := cx_graph_numbers_Arc_c1.with CV) mixed_Try (cx_graph_numbers_Arc_c1.ok.with CV) hcv Try.func66 sh_graph_numbers_bool_c1.plan (xs := [.yl v0 E0, .v (.pointer (some free1)), .v (.pointer (some free2))]) hx (by kernel_rfl) (sh_graph_numbers_bool_c1.is CV v0 E0 free1 free2 w (fun v w' => R (.returned v) w')) h
def sh_graph_numbers_bool_c1.o : CVT → List X → (Value → World → Prop) → World → Prop
  | CV, [.yl v0 E0, .v (.pointer (some free1)), .v (.pointer (some free2))], K, w => sh_graph_numbers_bool_c1 CV (fun a0 Ky wy => E0 [(.int .i64 a0)] Ky wy) free1 free2 (fun w' => K (.tuple #[]) w') w
  | _, _, _, _ => False
def sh_graph_numbers_bool_c1.q : CVT → List X → World → (Value → Prop) → Prop := fun _ _ _ _ => False
noncomputable def cx_graph_numbers_bool_c1 : Cx := Cx.add Try.prog cx_graph_numbers_Arc_c1 66 sh_graph_numbers_bool_c1.o sh_graph_numbers_bool_c1.q
theorem cx_graph_numbers_bool_c1.ok : CxOk cx_graph_numbers_bool_c1 := by
  refine CxOk.add cx_graph_numbers_Arc_c1.ok rfl (fun CV hcv xs K w hx h => ?_) (fun CV hcv xs K w hx h => ?_)
  · unfold sh_graph_numbers_bool_c1.o at h; split at h
    · rename_i v0 E0 free1 free2; exact sh_graph_numbers_bool_c1.calls CV v0 E0 free1 free2 hx hcv h
    · exact h.elim
  · unfold sh_graph_numbers_bool_c1.q at h; exact h.elim
def sh_graph_numbers_Edge_c1.plan : Plan := (.seq .o (.block (.loop [.slot 8 (.int .i64)] [] (.seq .o (.seq (.cond .o .o) (.seq (.block (.seq .o (.seq .o (.cond .o .o)))) .o))))))
theorem sh_graph_numbers_Edge_c1.is (CV : CVT) (v0 : Value) (E0 : List Value → (Bool → World → Prop) → World → Prop) (free1 : Addr) (free2 : Addr) (w : World) (R : Value → World → Prop) : sh_graph_numbers_Edge_c1 CV (fun a0 Ky wy => E0 [(.int .i64 a0)] Ky wy) free1 free2 (fun w' => R (.tuple #[]) w') w = denF (cx_graph_numbers_bool_c1.with CV) Try.f67 sh_graph_numbers_Edge_c1.plan [.yl v0 E0, .v (.pointer (some free1)), .v (.pointer (some free2))] w R := by kernel_rfl
theorem sh_graph_numbers_Edge_c1.calls (CV : CVT) (v0 : Value) (E0 : List Value → (Bool → World → Prop) → World → Prop) (free1 : Addr) (free2 : Addr) (hx : ∀ x ∈ [.yl v0 E0, .v (.pointer (some free1)), .v (.pointer (some free2))], ArgOk Try.prog x) (hcv : CVOk Try.prog CV) {w : World} {R : Ending → World → Prop} (h : sh_graph_numbers_Edge_c1 CV (fun a0 Ky wy => E0 [(.int .i64 a0)] Ky wy) free1 free2 (fun w' => R (.returned (.tuple #[])) w') w) : Calls Try.prog 67 #[v0, (.pointer (some free1)), (.pointer (some free2))] w R :=
  calls_is (cx := cx_graph_numbers_bool_c1.with CV) mixed_Try (cx_graph_numbers_bool_c1.ok.with CV) hcv Try.func67 sh_graph_numbers_Edge_c1.plan (xs := [.yl v0 E0, .v (.pointer (some free1)), .v (.pointer (some free2))]) hx (by kernel_rfl) (sh_graph_numbers_Edge_c1.is CV v0 E0 free1 free2 w (fun v w' => R (.returned v) w')) h
def sh_graph_numbers_Edge_c1.o : CVT → List X → (Value → World → Prop) → World → Prop
  | CV, [.yl v0 E0, .v (.pointer (some free1)), .v (.pointer (some free2))], K, w => sh_graph_numbers_Edge_c1 CV (fun a0 Ky wy => E0 [(.int .i64 a0)] Ky wy) free1 free2 (fun w' => K (.tuple #[]) w') w
  | _, _, _, _ => False
def sh_graph_numbers_Edge_c1.q : CVT → List X → World → (Value → Prop) → Prop := fun _ _ _ _ => False
noncomputable def cx_graph_numbers_Edge_c1 : Cx := Cx.add Try.prog cx_graph_numbers_bool_c1 67 sh_graph_numbers_Edge_c1.o sh_graph_numbers_Edge_c1.q
theorem cx_graph_numbers_Edge_c1.ok : CxOk cx_graph_numbers_Edge_c1 := by
  refine CxOk.add cx_graph_numbers_bool_c1.ok rfl (fun CV hcv xs K w hx h => ?_) (fun CV hcv xs K w hx h => ?_)
  · unfold sh_graph_numbers_Edge_c1.o at h; split at h
    · rename_i v0 E0 free1 free2; exact sh_graph_numbers_Edge_c1.calls CV v0 E0 free1 free2 hx hcv h
    · exact h.elim
  · unfold sh_graph_numbers_Edge_c1.q at h; exact h.elim
def sh_graph_numbers_Arc.plan : Plan := (.seq .o (.seq .o .o))
noncomputable def sh_graph_numbers_Arc.o (CV : CVT) (xs : List X) (K : Value → World → Prop) (w : World) : Prop := match Nat.ble xs.length Try.f47.ntmps with | true => denF (cx_graph_numbers_Edge_c1.with CV) Try.f47 sh_graph_numbers_Arc.plan xs w K | false => False
noncomputable def cx_graph_numbers_Arc : Cx := Cx.add Try.prog cx_graph_numbers_Edge_c1 47 sh_graph_numbers_Arc.o (fun _ _ _ _ => False)
theorem cx_graph_numbers_Arc.ok : CxOk cx_graph_numbers_Arc := by
  refine CxOk.add cx_graph_numbers_Edge_c1.ok rfl (fun CV hcv xs K w hx h => ?_) (fun CV hcv xs K w hx h => h.elim)
  unfold sh_graph_numbers_Arc.o at h; split at h
  · rename_i hb; exact calls_den (cx := cx_graph_numbers_Edge_c1.with CV) mixed_Try (cx_graph_numbers_Edge_c1.ok.with CV) hcv Try.func47 sh_graph_numbers_Arc.plan hx (Nat.le_of_ble_eq_true hb) h
  · exact h.elim
def sh_graph_numbers_bool.plan : Plan := (.seq .o (.seq .o .o))
noncomputable def sh_graph_numbers_bool.o (CV : CVT) (xs : List X) (K : Value → World → Prop) (w : World) : Prop := match Nat.ble xs.length Try.f54.ntmps with | true => denF (cx_graph_numbers_Arc.with CV) Try.f54 sh_graph_numbers_bool.plan xs w K | false => False
noncomputable def cx_graph_numbers_bool : Cx := Cx.add Try.prog cx_graph_numbers_Arc 54 sh_graph_numbers_bool.o (fun _ _ _ _ => False)
theorem cx_graph_numbers_bool.ok : CxOk cx_graph_numbers_bool := by
  refine CxOk.add cx_graph_numbers_Arc.ok rfl (fun CV hcv xs K w hx h => ?_) (fun CV hcv xs K w hx h => h.elim)
  unfold sh_graph_numbers_bool.o at h; split at h
  · rename_i hb; exact calls_den (cx := cx_graph_numbers_Arc.with CV) mixed_Try (cx_graph_numbers_Arc.ok.with CV) hcv Try.func54 sh_graph_numbers_bool.plan hx (Nat.le_of_ble_eq_true hb) h
  · exact h.elim
def sh_graph_numbers_Edge.plan : Plan := (.seq .o (.seq .o .o))
noncomputable def sh_graph_numbers_Edge.o (CV : CVT) (xs : List X) (K : Value → World → Prop) (w : World) : Prop := match Nat.ble xs.length Try.f56.ntmps with | true => denF (cx_graph_numbers_bool.with CV) Try.f56 sh_graph_numbers_Edge.plan xs w K | false => False
noncomputable def cx_graph_numbers_Edge : Cx := Cx.add Try.prog cx_graph_numbers_bool 56 sh_graph_numbers_Edge.o (fun _ _ _ _ => False)
theorem cx_graph_numbers_Edge.ok : CxOk cx_graph_numbers_Edge := by
  refine CxOk.add cx_graph_numbers_bool.ok rfl (fun CV hcv xs K w hx h => ?_) (fun CV hcv xs K w hx h => h.elim)
  unfold sh_graph_numbers_Edge.o at h; split at h
  · rename_i hb; exact calls_den (cx := cx_graph_numbers_bool.with CV) mixed_Try (cx_graph_numbers_bool.ok.with CV) hcv Try.func56 sh_graph_numbers_Edge.plan hx (Nat.le_of_ble_eq_true hb) h
  · exact h.elim
def sh_graph_sorted.plan : Plan := (.seq .o (.seq .o (.join [] [] (.seq .o (.block (.loop [.slot 19 (.int .i64)] [] (.seq .o (.seq (.cond .o .o) (.seq (.block (.seq .o .o)) .o)))))) (.join [] [] (.seq .o (.block (.loop [.slot 34 (.int .i64)] [] (.seq .o (.seq (.cond .o .o) (.seq (.block (.seq .o (.draw [] [.pure, .pure, .pure, .pure, .quiet, .pure, .pure, .pure, .quiet, .pure, .pure, .big] [0, 1, 2, 3, 4, 5, 6, 7, 8, 9, 10, 11]))) .o)))))) (.seq .o (.seq (.seq .o (.block (.loop [.slot 54 (.int .i64)] [] (.seq .o (.seq (.cond .o .o) (.seq (.block (.seq .o (.seq .o .o))) .o)))))) (.seq .o .o)))))))
theorem sh_graph_sorted.is (CV : CVT) (n0 : Int) (l0 : SV) (end_0 : Value) (w : World) (R : Value → World → Prop) : sh_graph_sorted CV n0 l0 end_0 (fun r0 w' => R (.slice r0.a r0.len r0.cap) w') w = denF (cx_graph_numbers_Edge.with CV) Try.f49 sh_graph_sorted.plan [.v (.int .i64 n0), .v (.slice l0.a l0.len l0.cap), .v end_0] w R := by kernel_rfl
theorem sh_graph_sorted.calls (CV : CVT) (n0 : Int) (l0 : SV) (end_0 : Value) (hcv : CVOk Try.prog CV) {w : World} {R : Ending → World → Prop} (h : sh_graph_sorted CV n0 l0 end_0 (fun r0 w' => R (.returned (.slice r0.a r0.len r0.cap)) w') w) : Calls Try.prog 49 #[(.int .i64 n0), (.slice l0.a l0.len l0.cap), end_0] w R :=
  calls_is (cx := cx_graph_numbers_Edge.with CV) mixed_Try (cx_graph_numbers_Edge.ok.with CV) hcv Try.func49 sh_graph_sorted.plan (xs := [.v (.int .i64 n0), .v (.slice l0.a l0.len l0.cap), .v end_0]) ((args_cons _ (args_cons _ (args_cons _ args_nil)))) (by kernel_rfl) (sh_graph_sorted.is CV n0 l0 end_0 w (fun v w' => R (.returned v) w')) h
def sh_graph_sorted.o : CVT → List X → (Value → World → Prop) → World → Prop
  | CV, [.v (.int .i64 n0), .v (.slice l0_a l0_l l0_c), .v (end_0)], K, w => sh_graph_sorted CV n0 ⟨l0_a, l0_l, l0_c⟩ end_0 (fun r0 w' => K (.slice r0.a r0.len r0.cap) w') w
  | _, _, _, _ => False
def sh_graph_sorted.q : CVT → List X → World → (Value → Prop) → Prop
  | CV, [.v (.int .i64 n0), .v (.slice l0_a l0_l l0_c), .v (end_0)], w, K => Quiet (SV) (fun r => (.slice r.a r.len r.cap)) (fun K1 w' => sh_graph_sorted CV n0 ⟨l0_a, l0_l, l0_c⟩ end_0 (fun r0 w'' => K1 r0 w'') w') w (fun r => K (.slice r.a r.len r.cap))
  | _, _, _, _ => False
noncomputable def cx_graph_sorted : Cx := Cx.add Try.prog cx_graph_numbers_Edge 49 sh_graph_sorted.o sh_graph_sorted.q
theorem cx_graph_sorted.ok : CxOk cx_graph_sorted := by
  refine CxOk.add cx_graph_numbers_Edge.ok rfl (fun CV hcv xs K w hx h => ?_) (fun CV hcv xs K w hx h => ?_)
  · unfold sh_graph_sorted.o at h; split at h
    · rename_i n0 l0_a l0_l l0_c end_0; exact sh_graph_sorted.calls CV n0 ⟨l0_a, l0_l, l0_c⟩ end_0 hcv h
    · exact h.elim
  · unfold sh_graph_sorted.q at h; split at h
    · rename_i n0 l0_a l0_l l0_c end_0; obtain ⟨r, h1, h2⟩ := h; exact ⟨_, h2, fun w' e => sh_graph_sorted.calls CV n0 ⟨l0_a, l0_l, l0_c⟩ end_0 hcv (h1 w' e)⟩
    · exact h.elim
def sh_graph_better.plan : Plan := (.seq .o (.seq (.draw [] [.pure, .loc, .pure, .pure, .pure, .quiet, .pure, .loc, .pure, .pure, .pure, .quiet, .pure, .pure] [0, 1, 2, 3, 4, 5, 6, 7, 8, 9, 10, 11, 12, 13]) .o))
theorem sh_graph_better.is (CV : CVT) (m0_N : Int) (m0_Arcs : SV) (a0 : Int) (b0 : Int) (w : World) (R : Value → World → Prop) : sh_graph_better m0_N m0_Arcs a0 b0 (fun r0 w' => R (.bool r0) w') w = denF (cx_graph_sorted.with CV) Try.f50 sh_graph_better.plan [.v (.agg #[(.int .i64 m0_N), (.slice m0_Arcs.a m0_Arcs.len m0_Arcs.cap)]), .v (.int .i64 a0), .v (.int .i64 b0)] w R := by kernel_rfl
theorem sh_graph_better.calls (CV : CVT) (m0_N : Int) (m0_Arcs : SV) (a0 : Int) (b0 : Int) (hcv : CVOk Try.prog CV) {w : World} {R : Ending → World → Prop} (h : sh_graph_better m0_N m0_Arcs a0 b0 (fun r0 w' => R (.returned (.bool r0)) w') w) : Calls Try.prog 50 #[(.agg #[(.int .i64 m0_N), (.slice m0_Arcs.a m0_Arcs.len m0_Arcs.cap)]), (.int .i64 a0), (.int .i64 b0)] w R :=
  calls_is (cx := cx_graph_sorted.with CV) mixed_Try (cx_graph_sorted.ok.with CV) hcv Try.func50 sh_graph_better.plan (xs := [.v (.agg #[(.int .i64 m0_N), (.slice m0_Arcs.a m0_Arcs.len m0_Arcs.cap)]), .v (.int .i64 a0), .v (.int .i64 b0)]) ((args_cons _ (args_cons _ (args_cons _ args_nil)))) (by kernel_rfl) (sh_graph_better.is CV m0_N m0_Arcs a0 b0 w (fun v w' => R (.returned v) w')) h
def sh_graph_better.o : CVT → List X → (Value → World → Prop) → World → Prop
  | CV, [.v (.agg ⟨[.int .i64 m0_N, .slice m0_Arcs_a m0_Arcs_l m0_Arcs_c]⟩), .v (.int .i64 a0), .v (.int .i64 b0)], K, w => sh_graph_better m0_N ⟨m0_Arcs_a, m0_Arcs_l, m0_Arcs_c⟩ a0 b0 (fun r0 w' => K (.bool r0) w') w
  | _, _, _, _ => False
def sh_graph_better.q : CVT → List X → World → (Value → Prop) → Prop
  | CV, [.v (.agg ⟨[.int .i64 m0_N, .slice m0_Arcs_a m0_Arcs_l m0_Arcs_c]⟩), .v (.int .i64 a0), .v (.int .i64 b0)], w, K => Quiet (Bool) (fun r => (.bool r)) (fun K1 w' => sh_graph_better m0_N ⟨m0_Arcs_a, m0_Arcs_l, m0_Arcs_c⟩ a0 b0 (fun r0 w'' => K1 r0 w'') w') w (fun r => K (.bool r))
  | _, _, _, _ => False
noncomputable def cx_graph_better : Cx := Cx.add Try.prog cx_graph_sorted 50 sh_graph_better.o sh_graph_better.q
theorem cx_graph_better.ok : CxOk cx_graph_better := by
  refine CxOk.add cx_graph_sorted.ok rfl (fun CV hcv xs K w hx h => ?_) (fun CV hcv xs K w hx h => ?_)
  · unfold sh_graph_better.o at h; split at h
    · rename_i m0_N m0_Arcs_a m0_Arcs_l m0_Arcs_c a0 b0; exact sh_graph_better.calls CV m0_N ⟨m0_Arcs_a, m0_Arcs_l, m0_Arcs_c⟩ a0 b0 hcv h
    · exact h.elim
  · unfold sh_graph_better.q at h; split at h
    · rename_i m0_N m0_Arcs_a m0_Arcs_l m0_Arcs_c a0 b0; obtain ⟨r, h1, h2⟩ := h; exact ⟨_, h2, fun w' e => sh_graph_better.calls CV m0_N ⟨m0_Arcs_a, m0_Arcs_l, m0_Arcs_c⟩ a0 b0 hcv (h1 w' e)⟩
    · exact h.elim
def sh_graph_lay.plan : Plan := (.seq .o (.seq .o (.join [.box 9 [.slice, .slice]] [] (.seq (.draw [] [.pure, .rd, .pure, .loc, .pure, .pure, .big, .pure, .big, .pure, .pure] [0, 1, 2, 3, 4, 5, 7, 10, 6, 8, 9]) (.block (.loop [.slot 28 (.int .i64), .box 9 [.slice, .slice]] [] (.seq .o (.seq (.cond .o .o) (.seq (.block (.seq .o (.seq (.draw [] [.pure, .rd, .pure, .pure, .big, .pure, .rd, .pure, .pure, .pure, .rd, .pure, .pure, .new, .big, .pure, .big] [0, 1, 2, 3, 5, 6, 7, 8, 9, 10, 11, 4, 12, 13, 14, 15, 16]) (.draw [] [.pure, .rd, .pure, .pure, .big, .pure, .pure, .quiet, .pure, .pure, .big] [0, 1, 2, 3, 4, 5, 6, 7, 8, 9, 10])))) .o)))))) (.join [] [] (.seq .o (.block (.loop [.slot 61 (.int .i64)] [] (.seq .o (.seq (.cond .o .o) (.seq (.block (.seq .o (.draw [] [.pure, .loc, .pure, .pure, .pure, .quiet, .pure, .loc, .pure, .pure, .quiet, .pure, .pure, .big] [0, 1, 2, 3, 4, 5, 6, 7, 8, 9, 10, 11, 12, 13]))) .o)))))) (.seq .o .o)))))
theorem sh_graph_lay.is (CV : CVT) (m0_N : Int) (m0_Arcs : SV) (l0 : SV) (from_0 : Value) (to_0 : Value) (w : World) (R : Value → World → Prop) : sh_graph_lay CV m0_N m0_Arcs l0 from_0 to_0 (fun r0 r1 w' => R (.agg #[(.slice r0.a r0.len r0.cap), (.slice r1.a r1.len r1.cap)]) w') w = denF (cx_graph_better.with CV) Try.f51 sh_graph_lay.plan [.v (.agg #[(.int .i64 m0_N), (.slice m0_Arcs.a m0_Arcs.len m0_Arcs.cap)]), .v (.slice l0.a l0.len l0.cap), .v from_0, .v to_0] w R := by kernel_rfl
theorem sh_graph_lay.calls (CV : CVT) (m0_N : Int) (m0_Arcs : SV) (l0 : SV) (from_0 : Value) (to_0 : Value) (hcv : CVOk Try.prog CV) {w : World} {R : Ending → World → Prop} (h : sh_graph_lay CV m0_N m0_Arcs l0 from_0 to_0 (fun r0 r1 w' => R (.returned (.agg #[(.slice r0.a r0.len r0.cap), (.slice r1.a r1.len r1.cap)])) w') w) : Calls Try.prog 51 #[(.agg #[(.int .i64 m0_N), (.slice m0_Arcs.a m0_Arcs.len m0_Arcs.cap)]), (.slice l0.a l0.len l0.cap), from_0, to_0] w R :=
  calls_is (cx := cx_graph_better.with CV) mixed_Try (cx_graph_better.ok.with CV) hcv Try.func51 sh_graph_lay.plan (xs := [.v (.agg #[(.int .i64 m0_N), (.slice m0_Arcs.a m0_Arcs.len m0_Arcs.cap)]), .v (.slice l0.a l0.len l0.cap), .v from_0, .v to_0]) ((args_cons _ (args_cons _ (args_cons _ (args_cons _ args_nil))))) (by kernel_rfl) (sh_graph_lay.is CV m0_N m0_Arcs l0 from_0 to_0 w (fun v w' => R (.returned v) w')) h
def sh_graph_lay.o : CVT → List X → (Value → World → Prop) → World → Prop
  | CV, [.v (.agg ⟨[.int .i64 m0_N, .slice m0_Arcs_a m0_Arcs_l m0_Arcs_c]⟩), .v (.slice l0_a l0_l l0_c), .v (from_0), .v (to_0)], K, w => sh_graph_lay CV m0_N ⟨m0_Arcs_a, m0_Arcs_l, m0_Arcs_c⟩ ⟨l0_a, l0_l, l0_c⟩ from_0 to_0 (fun r0 r1 w' => K (.agg #[(.slice r0.a r0.len r0.cap), (.slice r1.a r1.len r1.cap)]) w') w
  | _, _, _, _ => False
def sh_graph_lay.q : CVT → List X → World → (Value → Prop) → Prop
  | CV, [.v (.agg ⟨[.int .i64 m0_N, .slice m0_Arcs_a m0_Arcs_l m0_Arcs_c]⟩), .v (.slice l0_a l0_l l0_c), .v (from_0), .v (to_0)], w, K => Quiet (SV × SV) (fun r => (.agg #[(.slice r.1.a r.1.len r.1.cap), (.slice r.2.a r.2.len r.2.cap)])) (fun K1 w' => sh_graph_lay CV m0_N ⟨m0_Arcs_a, m0_Arcs_l, m0_Arcs_c⟩ ⟨l0_a, l0_l, l0_c⟩ from_0 to_0 (fun r0 r1 w'' => K1 (r0, r1) w'') w') w (fun r => K (.agg #[(.slice r.1.a r.1.len r.1.cap), (.slice r.2.a r.2.len r.2.cap)]))
  | _, _, _, _ => False
noncomputable def cx_graph_lay : Cx := Cx.add Try.prog cx_graph_better 51 sh_graph_lay.o sh_graph_lay.q
theorem cx_graph_lay.ok : CxOk cx_graph_lay := by
  refine CxOk.add cx_graph_better.ok rfl (fun CV hcv xs K w hx h => ?_) (fun CV hcv xs K w hx h => ?_)
  · unfold sh_graph_lay.o at h; split at h
    · rename_i m0_N m0_Arcs_a m0_Arcs_l m0_Arcs_c l0_a l0_l l0_c from_0 to_0; exact sh_graph_lay.calls CV m0_N ⟨m0_Arcs_a, m0_Arcs_l, m0_Arcs_c⟩ ⟨l0_a, l0_l, l0_c⟩ from_0 to_0 hcv h
    · exact h.elim
  · unfold sh_graph_lay.q at h; split at h
    · rename_i m0_N m0_Arcs_a m0_Arcs_l m0_Arcs_c l0_a l0_l l0_c from_0 to_0; obtain ⟨r, h1, h2⟩ := h; exact ⟨_, h2, fun w' e => sh_graph_lay.calls CV m0_N ⟨m0_Arcs_a, m0_Arcs_l, m0_Arcs_c⟩ ⟨l0_a, l0_l, l0_c⟩ from_0 to_0 hcv (h1 w' e)⟩
    · exact h.elim
def sh_gr_Check.plan : Plan := (.seq .o (.seq (.seq .o (.cond (.seq .o .o) .o)) (.seq (.seq .o (.cond (.seq .o .o) .o)) (.seq (.seq .o (.block (.loop [.slot 20 (.int .i64)] [] (.seq .o (.seq (.cond .o .o) (.seq (.block (.seq .o (.seq .o (.cond (.seq .o .o) .o)))) .o)))))) (.seq .o .o)))))
theorem sh_gr_Check.is (CV : CVT) (m0_N : Int) (m0_Arcs : SV) (w : World) (R : Value → World → Prop) : sh_gr_Check m0_N m0_Arcs (fun r0 w' => R (.int .i64 r0) w') w = denF (cx_graph_lay.with CV) Try.f44 sh_gr_Check.plan [.v (.agg #[(.int .i64 m0_N), (.slice m0_Arcs.a m0_Arcs.len m0_Arcs.cap)])] w R := by kernel_rfl
theorem sh_gr_Check.calls (CV : CVT) (m0_N : Int) (m0_Arcs : SV) (hcv : CVOk Try.prog CV) {w : World} {R : Ending → World → Prop} (h : sh_gr_Check m0_N m0_Arcs (fun r0 w' => R (.returned (.int .i64 r0)) w') w) : Calls Try.prog 44 #[(.agg #[(.int .i64 m0_N), (.slice m0_Arcs.a m0_Arcs.len m0_Arcs.cap)])] w R :=
  calls_is (cx := cx_graph_lay.with CV) mixed_Try (cx_graph_lay.ok.with CV) hcv Try.func44 sh_gr_Check.plan (xs := [.v (.agg #[(.int .i64 m0_N), (.slice m0_Arcs.a m0_Arcs.len m0_Arcs.cap)])]) ((args_cons _ args_nil)) (by kernel_rfl) (sh_gr_Check.is CV m0_N m0_Arcs w (fun v w' => R (.returned v) w')) h
def sh_gr_Check.o : CVT → List X → (Value → World → Prop) → World → Prop
  | CV, [.v (.agg ⟨[.int .i64 m0_N, .slice m0_Arcs_a m0_Arcs_l m0_Arcs_c]⟩)], K, w => sh_gr_Check m0_N ⟨m0_Arcs_a, m0_Arcs_l, m0_Arcs_c⟩ (fun r0 w' => K (.int .i64 r0) w') w
  | _, _, _, _ => False
def sh_gr_Check.q : CVT → List X → World → (Value → Prop) → Prop
  | CV, [.v (.agg ⟨[.int .i64 m0_N, .slice m0_Arcs_a m0_Arcs_l m0_Arcs_c]⟩)], w, K => Quiet (Int) (fun r => (.int .i64 r)) (fun K1 w' => sh_gr_Check m0_N ⟨m0_Arcs_a, m0_Arcs_l, m0_Arcs_c⟩ (fun r0 w'' => K1 r0 w'') w') w (fun r => K (.int .i64 r))
  | _, _, _, _ => False
noncomputable def cx_gr_Check : Cx := Cx.add Try.prog cx_graph_lay 44 sh_gr_Check.o sh_gr_Check.q
theorem cx_gr_Check.ok : CxOk cx_gr_Check := by
  refine CxOk.add cx_graph_lay.ok rfl (fun CV hcv xs K w hx h => ?_) (fun CV hcv xs K w hx h => ?_)
  · unfold sh_gr_Check.o at h; split at h
    · rename_i m0_N m0_Arcs_a m0_Arcs_l m0_Arcs_c; exact sh_gr_Check.calls CV m0_N ⟨m0_Arcs_a, m0_Arcs_l, m0_Arcs_c⟩ hcv h
    · exact h.elim
  · unfold sh_gr_Check.q at h; split at h
    · rename_i m0_N m0_Arcs_a m0_Arcs_l m0_Arcs_c; obtain ⟨r, h1, h2⟩ := h; exact ⟨_, h2, fun w' e => sh_gr_Check.calls CV m0_N ⟨m0_Arcs_a, m0_Arcs_l, m0_Arcs_c⟩ hcv (h1 w' e)⟩
    · exact h.elim
def sh_graph_Graph_N.plan : Plan := (.seq .o (.seq (.seq .o (.cond (.seq .o .o) .o)) (.seq .o .o)))
theorem sh_graph_Graph_N.is (CV : CVT) (g0 : Option Addr) (w : World) (R : Value → World → Prop) : sh_graph_Graph_N g0 (fun r0 w' => R (.int .i64 r0) w') w = denF (cx_gr_Check.with CV) Try.f20 sh_graph_Graph_N.plan [.v (.pointer g0)] w R := by kernel_rfl
theorem sh_graph_Graph_N.calls (CV : CVT) (g0 : Option Addr) (hcv : CVOk Try.prog CV) {w : World} {R : Ending → World → Prop} (h : sh_graph_Graph_N g0 (fun r0 w' => R (.returned (.int .i64 r0)) w') w) : Calls Try.prog 20 #[(.pointer g0)] w R :=
  calls_is (cx := cx_gr_Check.with CV) mixed_Try (cx_gr_Check.ok.with CV) hcv Try.func20 sh_graph_Graph_N.plan (xs := [.v (.pointer g0)]) ((args_cons _ args_nil)) (by kernel_rfl) (sh_graph_Graph_N.is CV g0 w (fun v w' => R (.returned v) w')) h
def sh_graph_Graph_N.o : CVT → List X → (Value → World → Prop) → World → Prop
  | CV, [.v (.pointer g0)], K, w => sh_graph_Graph_N g0 (fun r0 w' => K (.int .i64 r0) w') w
  | _, _, _, _ => False
def sh_graph_Graph_N.q : CVT → List X → World → (Value → Prop) → Prop
  | CV, [.v (.pointer g0)], w, K => Quiet (Int) (fun r => (.int .i64 r)) (fun K1 w' => sh_graph_Graph_N g0 (fun r0 w'' => K1 r0 w'') w') w (fun r => K (.int .i64 r))
  | _, _, _, _ => False
noncomputable def cx_graph_Graph_N : Cx := Cx.add Try.prog cx_gr_Check 20 sh_graph_Graph_N.o sh_graph_Graph_N.q
theorem cx_graph_Graph_N.ok : CxOk cx_graph_Graph_N := by
  refine CxOk.add cx_gr_Check.ok rfl (fun CV hcv xs K w hx h => ?_) (fun CV hcv xs K w hx h => ?_)
  · unfold sh_graph_Graph_N.o at h; split at h
    · rename_i g0; exact sh_graph_Graph_N.calls CV g0 hcv h
    · exact h.elim
  · unfold sh_graph_Graph_N.q at h; split at h
    · rename_i g0; obtain ⟨r, h1, h2⟩ := h; exact ⟨_, h2, fun w' e => sh_graph_Graph_N.calls CV g0 hcv (h1 w' e)⟩
    · exact h.elim
def sh_graph_Graph_is.plan : Plan := (.seq .o (.seq .o .o))
theorem sh_graph_Graph_is.is (CV : CVT) (g0 : Option Addr) (v0 : Int) (w : World) (R : Value → World → Prop) : sh_graph_Graph_is g0 v0 (fun r0 w' => R (.bool r0) w') w = denF (cx_graph_Graph_N.with CV) Try.f52 sh_graph_Graph_is.plan [.v (.pointer g0), .v (.int .i64 v0)] w R := by kernel_rfl
theorem sh_graph_Graph_is.calls (CV : CVT) (g0 : Option Addr) (v0 : Int) (hcv : CVOk Try.prog CV) {w : World} {R : Ending → World → Prop} (h : sh_graph_Graph_is g0 v0 (fun r0 w' => R (.returned (.bool r0)) w') w) : Calls Try.prog 52 #[(.pointer g0), (.int .i64 v0)] w R :=
  calls_is (cx := cx_graph_Graph_N.with CV) mixed_Try (cx_graph_Graph_N.ok.with CV) hcv Try.func52 sh_graph_Graph_is.plan (xs := [.v (.pointer g0), .v (.int .i64 v0)]) ((args_cons _ (args_cons _ args_nil))) (by kernel_rfl) (sh_graph_Graph_is.is CV g0 v0 w (fun v w' => R (.returned v) w')) h
def sh_graph_Graph_is.o : CVT → List X → (Value → World → Prop) → World → Prop
  | CV, [.v (.pointer g0), .v (.int .i64 v0)], K, w => sh_graph_Graph_is g0 v0 (fun r0 w' => K (.bool r0) w') w
  | _, _, _, _ => False
def sh_graph_Graph_is.q : CVT → List X → World → (Value → Prop) → Prop
  | CV, [.v (.pointer g0), .v (.int .i64 v0)], w, K => Quiet (Bool) (fun r => (.bool r)) (fun K1 w' => sh_graph_Graph_is g0 v0 (fun r0 w'' => K1 r0 w'') w') w (fun r => K (.bool r))
  | _, _, _, _ => False
noncomputable def cx_graph_Graph_is : Cx := Cx.add Try.prog cx_graph_Graph_N 52 sh_graph_Graph_is.o sh_graph_Graph_is.q
theorem cx_graph_Graph_is.ok : CxOk cx_graph_Graph_is := by
  refine CxOk.add cx_graph_Graph_N.ok rfl (fun CV hcv xs K w hx h => ?_) (fun CV hcv xs K w hx h => ?_)
  · unfold sh_graph_Graph_is.o at h; split at h
    · rename_i g0 v0; exact sh_graph_Graph_is.calls CV g0 v0 hcv h
    · exact h.elim
  · unfold sh_graph_Graph_is.q at h; split at h
    · rename_i g0 v0; obtain ⟨r, h1, h2⟩ := h; exact ⟨_, h2, fun w' e => sh_graph_Graph_is.calls CV g0 v0 hcv (h1 w' e)⟩
    · exact h.elim
def sh_graph_side_all.plan : Plan := (.seq .o (.seq (.draw [] [.pure, .pure, .pure, .quiet, .pure, .pure, .pure, .quiet, .pure, .pure, .quiet, .pure, .pure, .pure, .quiet, .pure, .pure, .pure, .quiet, .pure, .big, .pure] [0, 1, 2, 3, 4, 5, 6, 7, 8, 9, 10, 11, 12, 13, 14, 15, 16, 17, 18, 19, 20, 21]) .o))
theorem sh_graph_side_all.is (CV : CVT) (s0 : Option Addr) (v0 : Int) (w : World) (R : Value → World → Prop) : sh_graph_side_all s0 v0 (fun r0 w' => R (.slice r0.a r0.len r0.cap) w') w = denF (cx_graph_Graph_is.with CV) Try.f53 sh_graph_side_all.plan [.v (.pointer s0), .v (.int .i64 v0)] w R := by kernel_rfl
theorem sh_graph_side_all.calls (CV : CVT) (s0 : Option Addr) (v0 : Int) (hcv : CVOk Try.prog CV) {w : World} {R : Ending → World → Prop} (h : sh_graph_side_all s0 v0 (fun r0 w' => R (.returned (.slice r0.a r0.len r0.cap)) w') w) : Calls Try.prog 53 #[(.pointer s0), (.int .i64 v0)] w R :=
  calls_is (cx := cx_graph_Graph_is.with CV) mixed_Try (cx_graph_Graph_is.ok.with CV) hcv Try.func53 sh_graph_side_all.plan (xs := [.v (.pointer s0), .v (.int .i64 v0)]) ((args_cons _ (args_cons _ args_nil))) (by kernel_rfl) (sh_graph_side_all.is CV s0 v0 w (fun v w' => R (.returned v) w')) h
def sh_graph_side_all.o : CVT → List X → (Value → World → Prop) → World → Prop
  | CV, [.v (.pointer s0), .v (.int .i64 v0)], K, w => sh_graph_side_all s0 v0 (fun r0 w' => K (.slice r0.a r0.len r0.cap) w') w
  | _, _, _, _ => False
def sh_graph_side_all.q : CVT → List X → World → (Value → Prop) → Prop
  | CV, [.v (.pointer s0), .v (.int .i64 v0)], w, K => Quiet (SV) (fun r => (.slice r.a r.len r.cap)) (fun K1 w' => sh_graph_side_all s0 v0 (fun r0 w'' => K1 r0 w'') w') w (fun r => K (.slice r.a r.len r.cap))
  | _, _, _, _ => False
noncomputable def cx_graph_side_all : Cx := Cx.add Try.prog cx_graph_Graph_is 53 sh_graph_side_all.o sh_graph_side_all.q
theorem cx_graph_side_all.ok : CxOk cx_graph_side_all := by
  refine CxOk.add cx_graph_Graph_is.ok rfl (fun CV hcv xs K w hx h => ?_) (fun CV hcv xs K w hx h => ?_)
  · unfold sh_graph_side_all.o at h; split at h
    · rename_i s0 v0; exact sh_graph_side_all.calls CV s0 v0 hcv h
    · exact h.elim
  · unfold sh_graph_side_all.q at h; split at h
    · rename_i s0 v0; obtain ⟨r, h1, h2⟩ := h; exact ⟨_, h2, fun w' e => sh_graph_side_all.calls CV s0 v0 hcv (h1 w' e)⟩
    · exact h.elim
def sh_graph_Graph_Kept.plan : Plan := (.seq .o (.seq .o (.seq (.seq .o (.cond (.seq .o .o) .o)) (.seq (.seq .o (.block (.rng [3] [] .o (.block .o)))) (.seq .o .o)))))
theorem sh_graph_Graph_Kept.is (CV : CVT) (g0 : Option Addr) (w : World) (R : Value → World → Prop) : sh_graph_Graph_Kept CV g0 (fun r0 w' => R (.slice r0.a r0.len r0.cap) w') w = denF (cx_graph_side_all.with CV) Try.f22 sh_graph_Graph_Kept.plan [.v (.pointer g0)] w R := by kernel_rfl
theorem sh_graph_Graph_Kept.calls (CV : CVT) (g0 : Option Addr) (hcv : CVOk Try.prog CV) {w : World} {R : Ending → World → Prop} (h : sh_graph_Graph_Kept CV g0 (fun r0 w' => R (.returned (.slice r0.a r0.len r0.cap)) w') w) : Calls Try.prog 22 #[(.pointer g0)] w R :=
  calls_is (cx := cx_graph_side_all.with CV) mixed_Try (cx_graph_side_all.ok.with CV) hcv Try.func22 sh_graph_Graph_Kept.plan (xs := [.v (.pointer g0)]) ((args_cons _ args_nil)) (by kernel_rfl) (sh_graph_Graph_Kept.is CV g0 w (fun v w' => R (.returned v) w')) h
def sh_graph_Graph_Kept.o : CVT → List X → (Value → World → Prop) → World → Prop
  | CV, [.v (.pointer g0)], K, w => sh_graph_Graph_Kept CV g0 (fun r0 w' => K (.slice r0.a r0.len r0.cap) w') w
  | _, _, _, _ => False
def sh_graph_Graph_Kept.q : CVT → List X → World → (Value → Prop) → Prop
  | CV, [.v (.pointer g0)], w, K => Quiet (SV) (fun r => (.slice r.a r.len r.cap)) (fun K1 w' => sh_graph_Graph_Kept CV g0 (fun r0 w'' => K1 r0 w'') w') w (fun r => K (.slice r.a r.len r.cap))
  | _, _, _, _ => False
noncomputable def cx_graph_Graph_Kept : Cx := Cx.add Try.prog cx_graph_side_all 22 sh_graph_Graph_Kept.o sh_graph_Graph_Kept.q
theorem cx_graph_Graph_Kept.ok : CxOk cx_graph_Graph_Kept := by
  refine CxOk.add cx_graph_side_all.ok rfl (fun CV hcv xs K w hx h => ?_) (fun CV hcv xs K w hx h => ?_)
  · unfold sh_graph_Graph_Kept.o at h; split at h
    · rename_i g0; exact sh_graph_Graph_Kept.calls CV g0 hcv h
    · exact h.elim
  · unfold sh_graph_Graph_Kept.q at h; split at h
    · rename_i g0; obtain ⟨r, h1, h2⟩ := h; exact ⟨_, h2, fun w' e => sh_graph_Graph_Kept.calls CV g0 hcv (h1 w' e)⟩
    · exact h.elim
def sh_graph_Graph_Out.plan : Plan := (.seq .o (.seq (.seq .o (.cond (.seq .o .o) .o)) (.seq .o .o)))
theorem sh_graph_Graph_Out.is (CV : CVT) (g0 : Option Addr) (v0 : Int) (w : World) (R : Value → World → Prop) : sh_graph_Graph_Out g0 v0 (fun r0 w' => R (.slice r0.a r0.len r0.cap) w') w = denF (cx_graph_Graph_Kept.with CV) Try.f18 sh_graph_Graph_Out.plan [.v (.pointer g0), .v (.int .i64 v0)] w R := by kernel_rfl
theorem sh_graph_Graph_Out.calls (CV : CVT) (g0 : Option Addr) (v0 : Int) (hcv : CVOk Try.prog CV) {w : World} {R : Ending → World → Prop} (h : sh_graph_Graph_Out g0 v0 (fun r0 w' => R (.returned (.slice r0.a r0.len r0.cap)) w') w) : Calls Try.prog 18 #[(.pointer g0), (.int .i64 v0)] w R :=
  calls_is (cx := cx_graph_Graph_Kept.with CV) mixed_Try (cx_graph_Graph_Kept.ok.with CV) hcv Try.func18 sh_graph_Graph_Out.plan (xs := [.v (.pointer g0), .v (.int .i64 v0)]) ((args_cons _ (args_cons _ args_nil))) (by kernel_rfl) (sh_graph_Graph_Out.is CV g0 v0 w (fun v w' => R (.returned v) w')) h
def sh_graph_Graph_Out.o : CVT → List X → (Value → World → Prop) → World → Prop
  | CV, [.v (.pointer g0), .v (.int .i64 v0)], K, w => sh_graph_Graph_Out g0 v0 (fun r0 w' => K (.slice r0.a r0.len r0.cap) w') w
  | _, _, _, _ => False
def sh_graph_Graph_Out.q : CVT → List X → World → (Value → Prop) → Prop
  | CV, [.v (.pointer g0), .v (.int .i64 v0)], w, K => Quiet (SV) (fun r => (.slice r.a r.len r.cap)) (fun K1 w' => sh_graph_Graph_Out g0 v0 (fun r0 w'' => K1 r0 w'') w') w (fun r => K (.slice r.a r.len r.cap))
  | _, _, _, _ => False
noncomputable def cx_graph_Graph_Out : Cx := Cx.add Try.prog cx_graph_Graph_Kept 18 sh_graph_Graph_Out.o sh_graph_Graph_Out.q
theorem cx_graph_Graph_Out.ok : CxOk cx_graph_Graph_Out := by
  refine CxOk.add cx_graph_Graph_Kept.ok rfl (fun CV hcv xs K w hx h => ?_) (fun CV hcv xs K w hx h => ?_)
  · unfold sh_graph_Graph_Out.o at h; split at h
    · rename_i g0 v0; exact sh_graph_Graph_Out.calls CV g0 v0 hcv h
    · exact h.elim
  · unfold sh_graph_Graph_Out.q at h; split at h
    · rename_i g0 v0; obtain ⟨r, h1, h2⟩ := h; exact ⟨_, h2, fun w' e => sh_graph_Graph_Out.calls CV g0 v0 hcv (h1 w' e)⟩
    · exact h.elim
def sh_graph_Graph_In.plan : Plan := (.seq .o (.seq (.seq .o (.cond (.seq .o .o) .o)) (.seq .o .o)))
theorem sh_graph_Graph_In.is (CV : CVT) (g0 : Option Addr) (v0 : Int) (w : World) (R : Value → World → Prop) : sh_graph_Graph_In g0 v0 (fun r0 w' => R (.slice r0.a r0.len r0.cap) w') w = denF (cx_graph_Graph_Out.with CV) Try.f19 sh_graph_Graph_In.plan [.v (.pointer g0), .v (.int .i64 v0)] w R := by kernel_rfl
theorem sh_graph_Graph_In.calls (CV : CVT) (g0 : Option Addr) (v0 : Int) (hcv : CVOk Try.prog CV) {w : World} {R : Ending → World → Prop} (h : sh_graph_Graph_In g0 v0 (fun r0 w' => R (.returned (.slice r0.a r0.len r0.cap)) w') w) : Calls Try.prog 19 #[(.pointer g0), (.int .i64 v0)] w R :=
  calls_is (cx := cx_graph_Graph_Out.with CV) mixed_Try (cx_graph_Graph_Out.ok.with CV) hcv Try.func19 sh_graph_Graph_In.plan (xs := [.v (.pointer g0), .v (.int .i64 v0)]) ((args_cons _ (args_cons _ args_nil))) (by kernel_rfl) (sh_graph_Graph_In.is CV g0 v0 w (fun v w' => R (.returned v) w')) h
def sh_graph_Graph_In.o : CVT → List X → (Value → World → Prop) → World → Prop
  | CV, [.v (.pointer g0), .v (.int .i64 v0)], K, w => sh_graph_Graph_In g0 v0 (fun r0 w' => K (.slice r0.a r0.len r0.cap) w') w
  | _, _, _, _ => False
def sh_graph_Graph_In.q : CVT → List X → World → (Value → Prop) → Prop
  | CV, [.v (.pointer g0), .v (.int .i64 v0)], w, K => Quiet (SV) (fun r => (.slice r.a r.len r.cap)) (fun K1 w' => sh_graph_Graph_In g0 v0 (fun r0 w'' => K1 r0 w'') w') w (fun r => K (.slice r.a r.len r.cap))
  | _, _, _, _ => False
noncomputable def cx_graph_Graph_In : Cx := Cx.add Try.prog cx_graph_Graph_Out 19 sh_graph_Graph_In.o sh_graph_Graph_In.q
theorem cx_graph_Graph_In.ok : CxOk cx_graph_Graph_In := by
  refine CxOk.add cx_graph_Graph_Out.ok rfl (fun CV hcv xs K w hx h => ?_) (fun CV hcv xs K w hx h => ?_)
  · unfold sh_graph_Graph_In.o at h; split at h
    · rename_i g0 v0; exact sh_graph_Graph_In.calls CV g0 v0 hcv h
    · exact h.elim
  · unfold sh_graph_Graph_In.q at h; split at h
    · rename_i g0 v0; obtain ⟨r, h1, h2⟩ := h; exact ⟨_, h2, fun w' e => sh_graph_Graph_In.calls CV g0 v0 hcv (h1 w' e)⟩
    · exact h.elim
def sh_graph_New.plan : Plan := (.seq .o (.scope (.seq (.seq .o (.cond (.seq .o .o) .o)) (.seq .o (.seq (.draw [] [.loc, .pure, .loc, .pure, .new, .pure, .new, .pure] [0, 1, 2, 3, 4, 5, 6, 7]) (.seq .o (.seq .o (.seq .o (.seq (.seq .o (.block (.rng [25, 6] [] .o (.block .o)))) (.seq .o (.seq .o (.join [] [] (.seq (.draw [] [.pure, .rd, .pure, .quiet, .quiet, .pure, .big, .pure, .big, .pure, .pure] [0, 1, 2, 3, 4, 5, 7, 10, 6, 8, 9]) (.block (.loop [.slot 8 (.int .i64), .slot 46 (.int .i64)] [] (.seq .o (.seq (.cond .o .o) (.seq (.block (.seq .o (.join [] [] (.seq .o (.cond (.seq (.seq .o (.cond .o .o)) .o) .o)) .o))) .o)))))) (.seq .o (.seq (.draw [] [.pure, .pure, .quiet, .pure, .pure, .pure, .big, .rd, .pure, .pure, .pure, .big, .pure, .pure, .big, .pure, .pure, .big] [0, 1, 2, 3, 4, 5, 7, 8, 9, 10, 6, 11, 12, 13, 14, 15, 16, 17]) (.seq .o .o)))))))))))))))
theorem sh_graph_New.is (CV : CVT) (m0_N : Int) (m0_Arcs : SV) (w : World) (R : Value → World → Prop) : sh_graph_New CV m0_N m0_Arcs (fun r0 w' => R (.pointer r0) w') w = denF (cx_graph_Graph_In.with CV) Try.f16 sh_graph_New.plan [.v (.agg #[(.int .i64 m0_N), (.slice m0_Arcs.a m0_Arcs.len m0_Arcs.cap)])] w R := by kernel_rfl
theorem sh_graph_New.calls (CV : CVT) (m0_N : Int) (m0_Arcs : SV) (hcv : CVOk Try.prog CV) {w : World} {R : Ending → World → Prop} (h : sh_graph_New CV m0_N m0_Arcs (fun r0 w' => R (.returned (.pointer r0)) w') w) : Calls Try.prog 16 #[(.agg #[(.int .i64 m0_N), (.slice m0_Arcs.a m0_Arcs.len m0_Arcs.cap)])] w R :=
  calls_is (cx := cx_graph_Graph_In.with CV) mixed_Try (cx_graph_Graph_In.ok.with CV) hcv Try.func16 sh_graph_New.plan (xs := [.v (.agg #[(.int .i64 m0_N), (.slice m0_Arcs.a m0_Arcs.len m0_Arcs.cap)])]) ((args_cons _ args_nil)) (by kernel_rfl) (sh_graph_New.is CV m0_N m0_Arcs w (fun v w' => R (.returned v) w')) h
def sh_graph_New.o : CVT → List X → (Value → World → Prop) → World → Prop
  | CV, [.v (.agg ⟨[.int .i64 m0_N, .slice m0_Arcs_a m0_Arcs_l m0_Arcs_c]⟩)], K, w => sh_graph_New CV m0_N ⟨m0_Arcs_a, m0_Arcs_l, m0_Arcs_c⟩ (fun r0 w' => K (.pointer r0) w') w
  | _, _, _, _ => False
def sh_graph_New.q : CVT → List X → World → (Value → Prop) → Prop
  | CV, [.v (.agg ⟨[.int .i64 m0_N, .slice m0_Arcs_a m0_Arcs_l m0_Arcs_c]⟩)], w, K => Quiet ((Option Addr)) (fun r => (.pointer r)) (fun K1 w' => sh_graph_New CV m0_N ⟨m0_Arcs_a, m0_Arcs_l, m0_Arcs_c⟩ (fun r0 w'' => K1 r0 w'') w') w (fun r => K (.pointer r))
  | _, _, _, _ => False
noncomputable def cx_graph_New : Cx := Cx.add Try.prog cx_graph_Graph_In 16 sh_graph_New.o sh_graph_New.q
theorem cx_graph_New.ok : CxOk cx_graph_New := by
  refine CxOk.add cx_graph_Graph_In.ok rfl (fun CV hcv xs K w hx h => ?_) (fun CV hcv xs K w hx h => ?_)
  · unfold sh_graph_New.o at h; split at h
    · rename_i m0_N m0_Arcs_a m0_Arcs_l m0_Arcs_c; exact sh_graph_New.calls CV m0_N ⟨m0_Arcs_a, m0_Arcs_l, m0_Arcs_c⟩ hcv h
    · exact h.elim
  · unfold sh_graph_New.q at h; split at h
    · rename_i m0_N m0_Arcs_a m0_Arcs_l m0_Arcs_c; obtain ⟨r, h1, h2⟩ := h; exact ⟨_, h2, fun w' e => sh_graph_New.calls CV m0_N ⟨m0_Arcs_a, m0_Arcs_l, m0_Arcs_c⟩ hcv (h1 w' e)⟩
    · exact h.elim
def sh_graph_Graph_Best.plan : Plan := (.seq .o (.seq .o (.seq (.seq .o (.block (.rng [6, 7, 8] [.ret, .exit 0] .o (.block (.seq (.seq (.draw [] [.quiet, .pure, .pure, .pure, .quiet, .quiet, .pure] [0, 1, 2, 3, 4, 5, 6]) (.cond (.seq .o .o) .o)) .o))))) (.seq .o .o))))
theorem sh_graph_Graph_Best.is (CV : CVT) (g0 : Option Addr) (u0 : Int) (v0 : Int) (w : World) (R : Value → World → Prop) : sh_graph_Graph_Best CV g0 u0 v0 (fun r0 r1 r2 r3 w' => R (.tuple #[(.agg #[(.int .i64 r0), (.int .i64 r1), (.int .i64 r2)]), (.bool r3)]) w') w = denF (cx_graph_New.with CV) Try.f25 sh_graph_Graph_Best.plan [.v (.pointer g0), .v (.int .i64 u0), .v (.int .i64 v0)] w R := by kernel_rfl
theorem sh_graph_Graph_Best.calls (CV : CVT) (g0 : Option Addr) (u0 : Int) (v0 : Int) (hcv : CVOk Try.prog CV) {w : World} {R : Ending → World → Prop} (h : sh_graph_Graph_Best CV g0 u0 v0 (fun r0 r1 r2 r3 w' => R (.returned (.tuple #[(.agg #[(.int .i64 r0), (.int .i64 r1), (.int .i64 r2)]), (.bool r3)])) w') w) : Calls Try.prog 25 #[(.pointer g0), (.int .i64 u0), (.int .i64 v0)] w R :=
  calls_is (cx := cx_graph_New.with CV) mixed_Try (cx_graph_New.ok.with CV) hcv Try.func25 sh_graph_Graph_Best.plan (xs := [.v (.pointer g0), .v (.int .i64 u0), .v (.int .i64 v0)]) ((args_cons _ (args_cons _ (args_cons _ args_nil)))) (by kernel_rfl) (sh_graph_Graph_Best.is CV g0 u0 v0 w (fun v w' => R (.returned v) w')) h
def sh_graph_Graph_Best.o : CVT → List X → (Value → World → Prop) → World → Prop
  | CV, [.v (.pointer g0), .v (.int .i64 u0), .v (.int .i64 v0)], K, w => sh_graph_Graph_Best CV g0 u0 v0 (fun r0 r1 r2 r3 w' => K (.tuple #[(.agg #[(.int .i64 r0), (.int .i64 r1), (.int .i64 r2)]), (.bool r3)]) w') w
  | _, _, _, _ => False
def sh_graph_Graph_Best.q : CVT → List X → World → (Value → Prop) → Prop
  | CV, [.v (.pointer g0), .v (.int .i64 u0), .v (.int .i64 v0)], w, K => Quiet (Int × Int × Int × Bool) (fun r => (.tuple #[(.agg #[(.int .i64 r.1), (.int .i64 r.2.1), (.int .i64 r.2.2.1)]), (.bool r.2.2.2)])) (fun K1 w' => sh_graph_Graph_Best CV g0 u0 v0 (fun r0 r1 r2 r3 w'' => K1 (r0, r1, r2, r3) w'') w') w (fun r => K (.tuple #[(.agg #[(.int .i64 r.1), (.int .i64 r.2.1), (.int .i64 r.2.2.1)]), (.bool r.2.2.2)]))
  | _, _, _, _ => False
noncomputable def cx_graph_Graph_Best : Cx := Cx.add Try.prog cx_graph_New 25 sh_graph_Graph_Best.o sh_graph_Graph_Best.q
theorem cx_graph_Graph_Best.ok : CxOk cx_graph_Graph_Best := by
  refine CxOk.add cx_graph_New.ok rfl (fun CV hcv xs K w hx h => ?_) (fun CV hcv xs K w hx h => ?_)
  · unfold sh_graph_Graph_Best.o at h; split at h
    · rename_i g0 u0 v0; exact sh_graph_Graph_Best.calls CV g0 u0 v0 hcv h
    · exact h.elim
  · unfold sh_graph_Graph_Best.q at h; split at h
    · rename_i g0 u0 v0; obtain ⟨r, h1, h2⟩ := h; exact ⟨_, h2, fun w' e => sh_graph_Graph_Best.calls CV g0 u0 v0 hcv (h1 w' e)⟩
    · exact h.elim
def sh_graph_Graph_Arc.plan : Plan := (.seq .o (.seq (.seq .o (.cond (.seq .o .o) .o)) (.seq .o .o)))
theorem sh_graph_Graph_Arc.is (CV : CVT) (g0 : Option Addr) (k0 : Int) (w : World) (R : Value → World → Prop) : sh_graph_Graph_Arc g0 k0 (fun r0 r1 r2 r3 w' => R (.tuple #[(.agg #[(.int .i64 r0), (.int .i64 r1), (.int .i64 r2)]), (.bool r3)]) w') w = denF (cx_graph_Graph_Best.with CV) Try.f26 sh_graph_Graph_Arc.plan [.v (.pointer g0), .v (.int .i64 k0)] w R := by kernel_rfl
theorem sh_graph_Graph_Arc.calls (CV : CVT) (g0 : Option Addr) (k0 : Int) (hcv : CVOk Try.prog CV) {w : World} {R : Ending → World → Prop} (h : sh_graph_Graph_Arc g0 k0 (fun r0 r1 r2 r3 w' => R (.returned (.tuple #[(.agg #[(.int .i64 r0), (.int .i64 r1), (.int .i64 r2)]), (.bool r3)])) w') w) : Calls Try.prog 26 #[(.pointer g0), (.int .i64 k0)] w R :=
  calls_is (cx := cx_graph_Graph_Best.with CV) mixed_Try (cx_graph_Graph_Best.ok.with CV) hcv Try.func26 sh_graph_Graph_Arc.plan (xs := [.v (.pointer g0), .v (.int .i64 k0)]) ((args_cons _ (args_cons _ args_nil))) (by kernel_rfl) (sh_graph_Graph_Arc.is CV g0 k0 w (fun v w' => R (.returned v) w')) h
def sh_graph_Graph_Arc.o : CVT → List X → (Value → World → Prop) → World → Prop
  | CV, [.v (.pointer g0), .v (.int .i64 k0)], K, w => sh_graph_Graph_Arc g0 k0 (fun r0 r1 r2 r3 w' => K (.tuple #[(.agg #[(.int .i64 r0), (.int .i64 r1), (.int .i64 r2)]), (.bool r3)]) w') w
  | _, _, _, _ => False
def sh_graph_Graph_Arc.q : CVT → List X → World → (Value → Prop) → Prop
  | CV, [.v (.pointer g0), .v (.int .i64 k0)], w, K => Quiet (Int × Int × Int × Bool) (fun r => (.tuple #[(.agg #[(.int .i64 r.1), (.int .i64 r.2.1), (.int .i64 r.2.2.1)]), (.bool r.2.2.2)])) (fun K1 w' => sh_graph_Graph_Arc g0 k0 (fun r0 r1 r2 r3 w'' => K1 (r0, r1, r2, r3) w'') w') w (fun r => K (.tuple #[(.agg #[(.int .i64 r.1), (.int .i64 r.2.1), (.int .i64 r.2.2.1)]), (.bool r.2.2.2)]))
  | _, _, _, _ => False
noncomputable def cx_graph_Graph_Arc : Cx := Cx.add Try.prog cx_graph_Graph_Best 26 sh_graph_Graph_Arc.o sh_graph_Graph_Arc.q
theorem cx_graph_Graph_Arc.ok : CxOk cx_graph_Graph_Arc := by
  refine CxOk.add cx_graph_Graph_Best.ok rfl (fun CV hcv xs K w hx h => ?_) (fun CV hcv xs K w hx h => ?_)
  · unfold sh_graph_Graph_Arc.o at h; split at h
    · rename_i g0 k0; exact sh_graph_Graph_Arc.calls CV g0 k0 hcv h
    · exact h.elim
  · unfold sh_graph_Graph_Arc.q at h; split at h
    · rename_i g0 k0; obtain ⟨r, h1, h2⟩ := h; exact ⟨_, h2, fun w' e => sh_graph_Graph_Arc.calls CV g0 k0 hcv (h1 w' e)⟩
    · exact h.elim
def sh_graph_Graph_Print.plan : Plan := (.seq .o (.seq (.seq .o (.cond (.seq .o .o) .o)) (.seq .o (.seq .o (.seq .o (.seq (.seq .o (.block (.loop [.slot 23 (.int .i64)] [] (.seq .o (.seq (.cond .o .o) (.seq (.block (.seq .o (.seq .o (.seq .o .o)))) .o)))))) (.seq .o .o)))))))
theorem sh_graph_Graph_Print.is (CV : CVT) (g0 : Option Addr) (w : World) (R : Value → World → Prop) : sh_graph_Graph_Print g0 (fun r0 w' => R (.int .u64 r0) w') w = denF (cx_graph_Graph_Arc.with CV) Try.f33 sh_graph_Graph_Print.plan [.v (.pointer g0)] w R := by kernel_rfl
theorem sh_graph_Graph_Print.calls (CV : CVT) (g0 : Option Addr) (hcv : CVOk Try.prog CV) {w : World} {R : Ending → World → Prop} (h : sh_graph_Graph_Print g0 (fun r0 w' => R (.returned (.int .u64 r0)) w') w) : Calls Try.prog 33 #[(.pointer g0)] w R :=
  calls_is (cx := cx_graph_Graph_Arc.with CV) mixed_Try (cx_graph_Graph_Arc.ok.with CV) hcv Try.func33 sh_graph_Graph_Print.plan (xs := [.v (.pointer g0)]) ((args_cons _ args_nil)) (by kernel_rfl) (sh_graph_Graph_Print.is CV g0 w (fun v w' => R (.returned v) w')) h
def sh_graph_Graph_Print.o : CVT → List X → (Value → World → Prop) → World → Prop
  | CV, [.v (.pointer g0)], K, w => sh_graph_Graph_Print g0 (fun r0 w' => K (.int .u64 r0) w') w
  | _, _, _, _ => False
def sh_graph_Graph_Print.q : CVT → List X → World → (Value → Prop) → Prop
  | CV, [.v (.pointer g0)], w, K => Quiet (Int) (fun r => (.int .u64 r)) (fun K1 w' => sh_graph_Graph_Print g0 (fun r0 w'' => K1 r0 w'') w') w (fun r => K (.int .u64 r))
  | _, _, _, _ => False
noncomputable def cx_graph_Graph_Print : Cx := Cx.add Try.prog cx_graph_Graph_Arc 33 sh_graph_Graph_Print.o sh_graph_Graph_Print.q
theorem cx_graph_Graph_Print.ok : CxOk cx_graph_Graph_Print := by
  refine CxOk.add cx_graph_Graph_Arc.ok rfl (fun CV hcv xs K w hx h => ?_) (fun CV hcv xs K w hx h => ?_)
  · unfold sh_graph_Graph_Print.o at h; split at h
    · rename_i g0; exact sh_graph_Graph_Print.calls CV g0 hcv h
    · exact h.elim
  · unfold sh_graph_Graph_Print.q at h; split at h
    · rename_i g0; obtain ⟨r, h1, h2⟩ := h; exact ⟨_, h2, fun w' e => sh_graph_Graph_Print.calls CV g0 hcv (h1 w' e)⟩
    · exact h.elim
def sh_postroadref06_part.plan : Plan := (.seq .o (.seq .o (.seq (.seq .o (.cond (.seq .o .o) .o)) (.seq .o .o))))
theorem sh_postroadref06_part.is (CV : CVT) (x0 : Int) (n0 : Int) (w : World) (R : Value → World → Prop) : sh_postroadref06_part x0 n0 (fun r0 w' => R (.int .i64 r0) w') w = denF (cx_graph_Graph_Print.with CV) Try.f43 sh_postroadref06_part.plan [.v (.int .i64 x0), .v (.int .i64 n0)] w R := by kernel_rfl
theorem sh_postroadref06_part.calls (CV : CVT) (x0 : Int) (n0 : Int) (hcv : CVOk Try.prog CV) {w : World} {R : Ending → World → Prop} (h : sh_postroadref06_part x0 n0 (fun r0 w' => R (.returned (.int .i64 r0)) w') w) : Calls Try.prog 43 #[(.int .i64 x0), (.int .i64 n0)] w R :=
  calls_is (cx := cx_graph_Graph_Print.with CV) mixed_Try (cx_graph_Graph_Print.ok.with CV) hcv Try.func43 sh_postroadref06_part.plan (xs := [.v (.int .i64 x0), .v (.int .i64 n0)]) ((args_cons _ (args_cons _ args_nil))) (by kernel_rfl) (sh_postroadref06_part.is CV x0 n0 w (fun v w' => R (.returned v) w')) h
def sh_postroadref06_part.o : CVT → List X → (Value → World → Prop) → World → Prop
  | CV, [.v (.int .i64 x0), .v (.int .i64 n0)], K, w => sh_postroadref06_part x0 n0 (fun r0 w' => K (.int .i64 r0) w') w
  | _, _, _, _ => False
def sh_postroadref06_part.q : CVT → List X → World → (Value → Prop) → Prop
  | CV, [.v (.int .i64 x0), .v (.int .i64 n0)], w, K => Quiet (Int) (fun r => (.int .i64 r)) (fun K1 w' => sh_postroadref06_part x0 n0 (fun r0 w'' => K1 r0 w'') w') w (fun r => K (.int .i64 r))
  | _, _, _, _ => False
noncomputable def cx_postroadref06_part : Cx := Cx.add Try.prog cx_graph_Graph_Print 43 sh_postroadref06_part.o sh_postroadref06_part.q
theorem cx_postroadref06_part.ok : CxOk cx_postroadref06_part := by
  refine CxOk.add cx_graph_Graph_Print.ok rfl (fun CV hcv xs K w hx h => ?_) (fun CV hcv xs K w hx h => ?_)
  · unfold sh_postroadref06_part.o at h; split at h
    · rename_i x0 n0; exact sh_postroadref06_part.calls CV x0 n0 hcv h
    · exact h.elim
  · unfold sh_postroadref06_part.q at h; split at h
    · rename_i x0 n0; obtain ⟨r, h1, h2⟩ := h; exact ⟨_, h2, fun w' e => sh_postroadref06_part.calls CV x0 n0 hcv (h1 w' e)⟩
    · exact h.elim
def sh_postroadref06_Of.plan : Plan := (.seq .o (.seq .o (.seq .o (.join [.box 5 [(.int .i64), .slice]] [] (.seq .o (.block (.loop [.slot 6 (.int .i64), .box 5 [(.int .i64), .slice]] [] (.seq (.seq .o (.cond .o .o)) (.seq (.block (.seq .o (.draw [] [.pure, .loc, .pure, .loc, .pure, .quiet, .pure, .loc, .pure, .quiet, .pure, .loc, .quiet, .pure, .new, .big, .pure, .big] [0, 1, 2, 3, 4, 5, 6, 7, 8, 9, 10, 11, 12, 13, 14, 15, 16, 17]))) .o))))) (.seq .o .o)))))
theorem sh_postroadref06_Of.is (CV : CVT) (n0 : Int) (arcs0 : SV) (w : World) (R : Value → World → Prop) : sh_postroadref06_Of n0 arcs0 (fun r0 r1 w' => R (.agg #[(.int .i64 r0), (.slice r1.a r1.len r1.cap)]) w') w = denF (cx_postroadref06_part.with CV) Try.f15 sh_postroadref06_Of.plan [.v (.int .i64 n0), .v (.slice arcs0.a arcs0.len arcs0.cap)] w R := by kernel_rfl
theorem sh_postroadref06_Of.calls (CV : CVT) (n0 : Int) (arcs0 : SV) (hcv : CVOk Try.prog CV) {w : World} {R : Ending → World → Prop} (h : sh_postroadref06_Of n0 arcs0 (fun r0 r1 w' => R (.returned (.agg #[(.int .i64 r0), (.slice r1.a r1.len r1.cap)])) w') w) : Calls Try.prog 15 #[(.int .i64 n0), (.slice arcs0.a arcs0.len arcs0.cap)] w R :=
  calls_is (cx := cx_postroadref06_part.with CV) mixed_Try (cx_postroadref06_part.ok.with CV) hcv Try.func15 sh_postroadref06_Of.plan (xs := [.v (.int .i64 n0), .v (.slice arcs0.a arcs0.len arcs0.cap)]) ((args_cons _ (args_cons _ args_nil))) (by kernel_rfl) (sh_postroadref06_Of.is CV n0 arcs0 w (fun v w' => R (.returned v) w')) h
def sh_postroadref06_Of.o : CVT → List X → (Value → World → Prop) → World → Prop
  | CV, [.v (.int .i64 n0), .v (.slice arcs0_a arcs0_l arcs0_c)], K, w => sh_postroadref06_Of n0 ⟨arcs0_a, arcs0_l, arcs0_c⟩ (fun r0 r1 w' => K (.agg #[(.int .i64 r0), (.slice r1.a r1.len r1.cap)]) w') w
  | _, _, _, _ => False
def sh_postroadref06_Of.q : CVT → List X → World → (Value → Prop) → Prop
  | CV, [.v (.int .i64 n0), .v (.slice arcs0_a arcs0_l arcs0_c)], w, K => Quiet (Int × SV) (fun r => (.agg #[(.int .i64 r.1), (.slice r.2.a r.2.len r.2.cap)])) (fun K1 w' => sh_postroadref06_Of n0 ⟨arcs0_a, arcs0_l, arcs0_c⟩ (fun r0 r1 w'' => K1 (r0, r1) w'') w') w (fun r => K (.agg #[(.int .i64 r.1), (.slice r.2.a r.2.len r.2.cap)]))
  | _, _, _, _ => False
noncomputable def cx_postroadref06_Of : Cx := Cx.add Try.prog cx_postroadref06_part 15 sh_postroadref06_Of.o sh_postroadref06_Of.q
theorem cx_postroadref06_Of.ok : CxOk cx_postroadref06_Of := by
  refine CxOk.add cx_postroadref06_part.ok rfl (fun CV hcv xs K w hx h => ?_) (fun CV hcv xs K w hx h => ?_)
  · unfold sh_postroadref06_Of.o at h; split at h
    · rename_i n0 arcs0_a arcs0_l arcs0_c; exact sh_postroadref06_Of.calls CV n0 ⟨arcs0_a, arcs0_l, arcs0_c⟩ hcv h
    · exact h.elim
  · unfold sh_postroadref06_Of.q at h; split at h
    · rename_i n0 arcs0_a arcs0_l arcs0_c; obtain ⟨r, h1, h2⟩ := h; exact ⟨_, h2, fun w' e => sh_postroadref06_Of.calls CV n0 ⟨arcs0_a, arcs0_l, arcs0_c⟩ hcv (h1 w' e)⟩
    · exact h.elim
def sh_postroadref06_SameEdges.plan : Plan := (.seq .o (.seq (.seq .o (.cond (.seq .o .o) .o)) (.seq (.seq .o (.block (.loop [.slot 5 (.int .i64)] [] (.seq (.seq .o (.cond .o .o)) (.seq (.block (.seq (.draw [] [.pure, .pure, .pure, .quiet, .pure, .pure, .pure, .quiet, .pure] [0, 1, 2, 3, 4, 5, 6, 7, 8]) (.cond (.seq .o .o) .o))) .o))))) (.seq .o .o))))
theorem sh_postroadref06_SameEdges.is (CV : CVT) (a0 : SV) (b0 : SV) (w : World) (R : Value → World → Prop) : sh_postroadref06_SameEdges a0 b0 (fun r0 w' => R (.bool r0) w') w = denF (cx_postroadref06_Of.with CV) Try.f17 sh_postroadref06_SameEdges.plan [.v (.slice a0.a a0.len a0.cap), .v (.slice b0.a b0.len b0.cap)] w R := by kernel_rfl
theorem sh_postroadref06_SameEdges.calls (CV : CVT) (a0 : SV) (b0 : SV) (hcv : CVOk Try.prog CV) {w : World} {R : Ending → World → Prop} (h : sh_postroadref06_SameEdges a0 b0 (fun r0 w' => R (.returned (.bool r0)) w') w) : Calls Try.prog 17 #[(.slice a0.a a0.len a0.cap), (.slice b0.a b0.len b0.cap)] w R :=
  calls_is (cx := cx_postroadref06_Of.with CV) mixed_Try (cx_postroadref06_Of.ok.with CV) hcv Try.func17 sh_postroadref06_SameEdges.plan (xs := [.v (.slice a0.a a0.len a0.cap), .v (.slice b0.a b0.len b0.cap)]) ((args_cons _ (args_cons _ args_nil))) (by kernel_rfl) (sh_postroadref06_SameEdges.is CV a0 b0 w (fun v w' => R (.returned v) w')) h
def sh_postroadref06_SameEdges.o : CVT → List X → (Value → World → Prop) → World → Prop
  | CV, [.v (.slice a0_a a0_l a0_c), .v (.slice b0_a b0_l b0_c)], K, w => sh_postroadref06_SameEdges ⟨a0_a, a0_l, a0_c⟩ ⟨b0_a, b0_l, b0_c⟩ (fun r0 w' => K (.bool r0) w') w
  | _, _, _, _ => False
def sh_postroadref06_SameEdges.q : CVT → List X → World → (Value → Prop) → Prop
  | CV, [.v (.slice a0_a a0_l a0_c), .v (.slice b0_a b0_l b0_c)], w, K => Quiet (Bool) (fun r => (.bool r)) (fun K1 w' => sh_postroadref06_SameEdges ⟨a0_a, a0_l, a0_c⟩ ⟨b0_a, b0_l, b0_c⟩ (fun r0 w'' => K1 r0 w'') w') w (fun r => K (.bool r))
  | _, _, _, _ => False
noncomputable def cx_postroadref06_SameEdges : Cx := Cx.add Try.prog cx_postroadref06_Of 17 sh_postroadref06_SameEdges.o sh_postroadref06_SameEdges.q
theorem cx_postroadref06_SameEdges.ok : CxOk cx_postroadref06_SameEdges := by
  refine CxOk.add cx_postroadref06_Of.ok rfl (fun CV hcv xs K w hx h => ?_) (fun CV hcv xs K w hx h => ?_)
  · unfold sh_postroadref06_SameEdges.o at h; split at h
    · rename_i a0_a a0_l a0_c b0_a b0_l b0_c; exact sh_postroadref06_SameEdges.calls CV ⟨a0_a, a0_l, a0_c⟩ ⟨b0_a, b0_l, b0_c⟩ hcv h
    · exact h.elim
  · unfold sh_postroadref06_SameEdges.q at h; split at h
    · rename_i a0_a a0_l a0_c b0_a b0_l b0_c; obtain ⟨r, h1, h2⟩ := h; exact ⟨_, h2, fun w' e => sh_postroadref06_SameEdges.calls CV ⟨a0_a, a0_l, a0_c⟩ ⟨b0_a, b0_l, b0_c⟩ hcv (h1 w' e)⟩
    · exact h.elim
def sh_postroadref00_SameInts.plan : Plan := (.seq .o (.seq (.seq .o (.cond (.seq .o .o) .o)) (.seq (.seq .o (.block (.loop [.slot 5 (.int .i64)] [] (.seq (.seq .o (.cond .o .o)) (.seq (.block (.seq (.draw [] [.pure, .pure, .pure, .quiet, .pure, .pure, .pure, .quiet, .pure] [0, 1, 2, 3, 4, 5, 6, 7, 8]) (.cond (.seq .o .o) .o))) .o))))) (.seq .o .o))))
theorem sh_postroadref00_SameInts.is (CV : CVT) (a0 : SV) (b0 : SV) (w : World) (R : Value → World → Prop) : sh_postroadref00_SameInts a0 b0 (fun r0 w' => R (.bool r0) w') w = denF (cx_postroadref06_SameEdges.with CV) Try.f21 sh_postroadref00_SameInts.plan [.v (.slice a0.a a0.len a0.cap), .v (.slice b0.a b0.len b0.cap)] w R := by kernel_rfl
theorem sh_postroadref00_SameInts.calls (CV : CVT) (a0 : SV) (b0 : SV) (hcv : CVOk Try.prog CV) {w : World} {R : Ending → World → Prop} (h : sh_postroadref00_SameInts a0 b0 (fun r0 w' => R (.returned (.bool r0)) w') w) : Calls Try.prog 21 #[(.slice a0.a a0.len a0.cap), (.slice b0.a b0.len b0.cap)] w R :=
  calls_is (cx := cx_postroadref06_SameEdges.with CV) mixed_Try (cx_postroadref06_SameEdges.ok.with CV) hcv Try.func21 sh_postroadref00_SameInts.plan (xs := [.v (.slice a0.a a0.len a0.cap), .v (.slice b0.a b0.len b0.cap)]) ((args_cons _ (args_cons _ args_nil))) (by kernel_rfl) (sh_postroadref00_SameInts.is CV a0 b0 w (fun v w' => R (.returned v) w')) h
def sh_postroadref00_SameInts.o : CVT → List X → (Value → World → Prop) → World → Prop
  | CV, [.v (.slice a0_a a0_l a0_c), .v (.slice b0_a b0_l b0_c)], K, w => sh_postroadref00_SameInts ⟨a0_a, a0_l, a0_c⟩ ⟨b0_a, b0_l, b0_c⟩ (fun r0 w' => K (.bool r0) w') w
  | _, _, _, _ => False
def sh_postroadref00_SameInts.q : CVT → List X → World → (Value → Prop) → Prop
  | CV, [.v (.slice a0_a a0_l a0_c), .v (.slice b0_a b0_l b0_c)], w, K => Quiet (Bool) (fun r => (.bool r)) (fun K1 w' => sh_postroadref00_SameInts ⟨a0_a, a0_l, a0_c⟩ ⟨b0_a, b0_l, b0_c⟩ (fun r0 w'' => K1 r0 w'') w') w (fun r => K (.bool r))
  | _, _, _, _ => False
noncomputable def cx_postroadref00_SameInts : Cx := Cx.add Try.prog cx_postroadref06_SameEdges 21 sh_postroadref00_SameInts.o sh_postroadref00_SameInts.q
theorem cx_postroadref00_SameInts.ok : CxOk cx_postroadref00_SameInts := by
  refine CxOk.add cx_postroadref06_SameEdges.ok rfl (fun CV hcv xs K w hx h => ?_) (fun CV hcv xs K w hx h => ?_)
  · unfold sh_postroadref00_SameInts.o at h; split at h
    · rename_i a0_a a0_l a0_c b0_a b0_l b0_c; exact sh_postroadref00_SameInts.calls CV ⟨a0_a, a0_l, a0_c⟩ ⟨b0_a, b0_l, b0_c⟩ hcv h
    · exact h.elim
  · unfold sh_postroadref00_SameInts.q at h; split at h
    · rename_i a0_a a0_l a0_c b0_a b0_l b0_c; obtain ⟨r, h1, h2⟩ := h; exact ⟨_, h2, fun w' e => sh_postroadref00_SameInts.calls CV ⟨a0_a, a0_l, a0_c⟩ ⟨b0_a, b0_l, b0_c⟩ hcv (h1 w' e)⟩
    · exact h.elim
def sh_postroadref06_Small.plan : Plan := (.seq .o (.seq .o .o))
theorem sh_postroadref06_Small.is (CV : CVT) (m0_N : Int) (m0_Arcs : SV) (n0 : Int) (arcs0 : Int) (w : World) (R : Value → World → Prop) : sh_postroadref06_Small m0_N m0_Arcs n0 arcs0 (fun r0 w' => R (.bool r0) w') w = denF (cx_postroadref00_SameInts.with CV) Try.f24 sh_postroadref06_Small.plan [.v (.agg #[(.int .i64 m0_N), (.slice m0_Arcs.a m0_Arcs.len m0_Arcs.cap)]), .v (.int .i64 n0), .v (.int .i64 arcs0)] w R := by kernel_rfl
theorem sh_postroadref06_Small.calls (CV : CVT) (m0_N : Int) (m0_Arcs : SV) (n0 : Int) (arcs0 : Int) (hcv : CVOk Try.prog CV) {w : World} {R : Ending → World → Prop} (h : sh_postroadref06_Small m0_N m0_Arcs n0 arcs0 (fun r0 w' => R (.returned (.bool r0)) w') w) : Calls Try.prog 24 #[(.agg #[(.int .i64 m0_N), (.slice m0_Arcs.a m0_Arcs.len m0_Arcs.cap)]), (.int .i64 n0), (.int .i64 arcs0)] w R :=
  calls_is (cx := cx_postroadref00_SameInts.with CV) mixed_Try (cx_postroadref00_SameInts.ok.with CV) hcv Try.func24 sh_postroadref06_Small.plan (xs := [.v (.agg #[(.int .i64 m0_N), (.slice m0_Arcs.a m0_Arcs.len m0_Arcs.cap)]), .v (.int .i64 n0), .v (.int .i64 arcs0)]) ((args_cons _ (args_cons _ (args_cons _ args_nil)))) (by kernel_rfl) (sh_postroadref06_Small.is CV m0_N m0_Arcs n0 arcs0 w (fun v w' => R (.returned v) w')) h
def sh_postroadref06_Small.o : CVT → List X → (Value → World → Prop) → World → Prop
  | CV, [.v (.agg ⟨[.int .i64 m0_N, .slice m0_Arcs_a m0_Arcs_l m0_Arcs_c]⟩), .v (.int .i64 n0), .v (.int .i64 arcs0)], K, w => sh_postroadref06_Small m0_N ⟨m0_Arcs_a, m0_Arcs_l, m0_Arcs_c⟩ n0 arcs0 (fun r0 w' => K (.bool r0) w') w
  | _, _, _, _ => False
def sh_postroadref06_Small.q : CVT → List X → World → (Value → Prop) → Prop
  | CV, [.v (.agg ⟨[.int .i64 m0_N, .slice m0_Arcs_a m0_Arcs_l m0_Arcs_c]⟩), .v (.int .i64 n0), .v (.int .i64 arcs0)], w, K => Quiet (Bool) (fun r => (.bool r)) (fun K1 w' => sh_postroadref06_Small m0_N ⟨m0_Arcs_a, m0_Arcs_l, m0_Arcs_c⟩ n0 arcs0 (fun r0 w'' => K1 r0 w'') w') w (fun r => K (.bool r))
  | _, _, _, _ => False
noncomputable def cx_postroadref06_Small : Cx := Cx.add Try.prog cx_postroadref00_SameInts 24 sh_postroadref06_Small.o sh_postroadref06_Small.q
theorem cx_postroadref06_Small.ok : CxOk cx_postroadref06_Small := by
  refine CxOk.add cx_postroadref00_SameInts.ok rfl (fun CV hcv xs K w hx h => ?_) (fun CV hcv xs K w hx h => ?_)
  · unfold sh_postroadref06_Small.o at h; split at h
    · rename_i m0_N m0_Arcs_a m0_Arcs_l m0_Arcs_c n0 arcs0; exact sh_postroadref06_Small.calls CV m0_N ⟨m0_Arcs_a, m0_Arcs_l, m0_Arcs_c⟩ n0 arcs0 hcv h
    · exact h.elim
  · unfold sh_postroadref06_Small.q at h; split at h
    · rename_i m0_N m0_Arcs_a m0_Arcs_l m0_Arcs_c n0 arcs0; obtain ⟨r, h1, h2⟩ := h; exact ⟨_, h2, fun w' e => sh_postroadref06_Small.calls CV m0_N ⟨m0_Arcs_a, m0_Arcs_l, m0_Arcs_c⟩ n0 arcs0 hcv (h1 w' e)⟩
    · exact h.elim
def sh_postroadref05_Check.plan : Plan := (.seq .o (.seq (.seq .o (.cond (.seq .o .o) .o)) (.seq (.seq .o (.cond (.seq .o .o) .o)) (.seq (.seq .o (.block (.loop [.slot 3 (.int .i64)] [] (.seq (.seq .o (.cond .o .o)) (.seq (.block (.seq .o (.seq .o (.cond (.seq .o .o) .o)))) .o))))) (.seq .o .o)))))
theorem sh_postroadref05_Check.is (CV : CVT) (m0_N : Int) (m0_Arcs : SV) (w : World) (R : Value → World → Prop) : sh_postroadref05_Check m0_N m0_Arcs (fun r0 w' => R (.int .i64 r0) w') w = denF (cx_postroadref06_Small.with CV) Try.f61 sh_postroadref05_Check.plan [.v (.agg #[(.int .i64 m0_N), (.slice m0_Arcs.a m0_Arcs.len m0_Arcs.cap)])] w R := by kernel_rfl
theorem sh_postroadref05_Check.calls (CV : CVT) (m0_N : Int) (m0_Arcs : SV) (hcv : CVOk Try.prog CV) {w : World} {R : Ending → World → Prop} (h : sh_postroadref05_Check m0_N m0_Arcs (fun r0 w' => R (.returned (.int .i64 r0)) w') w) : Calls Try.prog 61 #[(.agg #[(.int .i64 m0_N), (.slice m0_Arcs.a m0_Arcs.len m0_Arcs.cap)])] w R :=
  calls_is (cx := cx_postroadref06_Small.with CV) mixed_Try (cx_postroadref06_Small.ok.with CV) hcv Try.func61 sh_postroadref05_Check.plan (xs := [.v (.agg #[(.int .i64 m0_N), (.slice m0_Arcs.a m0_Arcs.len m0_Arcs.cap)])]) ((args_cons _ args_nil)) (by kernel_rfl) (sh_postroadref05_Check.is CV m0_N m0_Arcs w (fun v w' => R (.returned v) w')) h
def sh_postroadref05_Check.o : CVT → List X → (Value → World → Prop) → World → Prop
  | CV, [.v (.agg ⟨[.int .i64 m0_N, .slice m0_Arcs_a m0_Arcs_l m0_Arcs_c]⟩)], K, w => sh_postroadref05_Check m0_N ⟨m0_Arcs_a, m0_Arcs_l, m0_Arcs_c⟩ (fun r0 w' => K (.int .i64 r0) w') w
  | _, _, _, _ => False
def sh_postroadref05_Check.q : CVT → List X → World → (Value → Prop) → Prop
  | CV, [.v (.agg ⟨[.int .i64 m0_N, .slice m0_Arcs_a m0_Arcs_l m0_Arcs_c]⟩)], w, K => Quiet (Int) (fun r => (.int .i64 r)) (fun K1 w' => sh_postroadref05_Check m0_N ⟨m0_Arcs_a, m0_Arcs_l, m0_Arcs_c⟩ (fun r0 w'' => K1 r0 w'') w') w (fun r => K (.int .i64 r))
  | _, _, _, _ => False
noncomputable def cx_postroadref05_Check : Cx := Cx.add Try.prog cx_postroadref06_Small 61 sh_postroadref05_Check.o sh_postroadref05_Check.q
theorem cx_postroadref05_Check.ok : CxOk cx_postroadref05_Check := by
  refine CxOk.add cx_postroadref06_Small.ok rfl (fun CV hcv xs K w hx h => ?_) (fun CV hcv xs K w hx h => ?_)
  · unfold sh_postroadref05_Check.o at h; split at h
    · rename_i m0_N m0_Arcs_a m0_Arcs_l m0_Arcs_c; exact sh_postroadref05_Check.calls CV m0_N ⟨m0_Arcs_a, m0_Arcs_l, m0_Arcs_c⟩ hcv h
    · exact h.elim
  · unfold sh_postroadref05_Check.q at h; split at h
    · rename_i m0_N m0_Arcs_a m0_Arcs_l m0_Arcs_c; obtain ⟨r, h1, h2⟩ := h; exact ⟨_, h2, fun w' e => sh_postroadref05_Check.calls CV m0_N ⟨m0_Arcs_a, m0_Arcs_l, m0_Arcs_c⟩ hcv (h1 w' e)⟩
    · exact h.elim
def sh_postroadref06_Right.plan : Plan := (.seq .o (.seq .o .o))
theorem sh_postroadref06_Right.is (CV : CVT) (m0_N : Int) (m0_Arcs : SV) (n0 : Int) (arcs0 : Int) (w : World) (R : Value → World → Prop) : sh_postroadref06_Right m0_N m0_Arcs n0 arcs0 (fun r0 w' => R (.bool r0) w') w = denF (cx_postroadref05_Check.with CV) Try.f32 sh_postroadref06_Right.plan [.v (.agg #[(.int .i64 m0_N), (.slice m0_Arcs.a m0_Arcs.len m0_Arcs.cap)]), .v (.int .i64 n0), .v (.int .i64 arcs0)] w R := by kernel_rfl
theorem sh_postroadref06_Right.calls (CV : CVT) (m0_N : Int) (m0_Arcs : SV) (n0 : Int) (arcs0 : Int) (hcv : CVOk Try.prog CV) {w : World} {R : Ending → World → Prop} (h : sh_postroadref06_Right m0_N m0_Arcs n0 arcs0 (fun r0 w' => R (.returned (.bool r0)) w') w) : Calls Try.prog 32 #[(.agg #[(.int .i64 m0_N), (.slice m0_Arcs.a m0_Arcs.len m0_Arcs.cap)]), (.int .i64 n0), (.int .i64 arcs0)] w R :=
  calls_is (cx := cx_postroadref05_Check.with CV) mixed_Try (cx_postroadref05_Check.ok.with CV) hcv Try.func32 sh_postroadref06_Right.plan (xs := [.v (.agg #[(.int .i64 m0_N), (.slice m0_Arcs.a m0_Arcs.len m0_Arcs.cap)]), .v (.int .i64 n0), .v (.int .i64 arcs0)]) ((args_cons _ (args_cons _ (args_cons _ args_nil)))) (by kernel_rfl) (sh_postroadref06_Right.is CV m0_N m0_Arcs n0 arcs0 w (fun v w' => R (.returned v) w')) h
def sh_postroadref06_Right.o : CVT → List X → (Value → World → Prop) → World → Prop
  | CV, [.v (.agg ⟨[.int .i64 m0_N, .slice m0_Arcs_a m0_Arcs_l m0_Arcs_c]⟩), .v (.int .i64 n0), .v (.int .i64 arcs0)], K, w => sh_postroadref06_Right m0_N ⟨m0_Arcs_a, m0_Arcs_l, m0_Arcs_c⟩ n0 arcs0 (fun r0 w' => K (.bool r0) w') w
  | _, _, _, _ => False
def sh_postroadref06_Right.q : CVT → List X → World → (Value → Prop) → Prop
  | CV, [.v (.agg ⟨[.int .i64 m0_N, .slice m0_Arcs_a m0_Arcs_l m0_Arcs_c]⟩), .v (.int .i64 n0), .v (.int .i64 arcs0)], w, K => Quiet (Bool) (fun r => (.bool r)) (fun K1 w' => sh_postroadref06_Right m0_N ⟨m0_Arcs_a, m0_Arcs_l, m0_Arcs_c⟩ n0 arcs0 (fun r0 w'' => K1 r0 w'') w') w (fun r => K (.bool r))
  | _, _, _, _ => False
noncomputable def cx_postroadref06_Right : Cx := Cx.add Try.prog cx_postroadref05_Check 32 sh_postroadref06_Right.o sh_postroadref06_Right.q
theorem cx_postroadref06_Right.ok : CxOk cx_postroadref06_Right := by
  refine CxOk.add cx_postroadref05_Check.ok rfl (fun CV hcv xs K w hx h => ?_) (fun CV hcv xs K w hx h => ?_)
  · unfold sh_postroadref06_Right.o at h; split at h
    · rename_i m0_N m0_Arcs_a m0_Arcs_l m0_Arcs_c n0 arcs0; exact sh_postroadref06_Right.calls CV m0_N ⟨m0_Arcs_a, m0_Arcs_l, m0_Arcs_c⟩ n0 arcs0 hcv h
    · exact h.elim
  · unfold sh_postroadref06_Right.q at h; split at h
    · rename_i m0_N m0_Arcs_a m0_Arcs_l m0_Arcs_c n0 arcs0; obtain ⟨r, h1, h2⟩ := h; exact ⟨_, h2, fun w' e => sh_postroadref06_Right.calls CV m0_N ⟨m0_Arcs_a, m0_Arcs_l, m0_Arcs_c⟩ n0 arcs0 hcv (h1 w' e)⟩
    · exact h.elim
def sh_postroadlaw06_known.plan : Plan := (.seq .o (.seq .o (.seq .o (.seq .o .o))))
theorem sh_postroadlaw06_known.is (CV : CVT) (w : World) (R : Value → World → Prop) : sh_postroadlaw06_known CV (fun r0 w' => R (.bool r0) w') w = denF (cx_postroadref06_Right.with CV) Try.f23 sh_postroadlaw06_known.plan [] w R := by kernel_rfl
theorem sh_postroadlaw06_known.calls (CV : CVT) (hcv : CVOk Try.prog CV) {w : World} {R : Ending → World → Prop} (h : sh_postroadlaw06_known CV (fun r0 w' => R (.returned (.bool r0)) w') w) : Calls Try.prog 23 #[] w R :=
  calls_is (cx := cx_postroadref06_Right.with CV) mixed_Try (cx_postroadref06_Right.ok.with CV) hcv Try.func23 sh_postroadlaw06_known.plan (xs := []) (args_nil) (by kernel_rfl) (sh_postroadlaw06_known.is CV w (fun v w' => R (.returned v) w')) h
def sh_postroadlaw06_known.o : CVT → List X → (Value → World → Prop) → World → Prop
  | CV, [], K, w => sh_postroadlaw06_known CV (fun r0 w' => K (.bool r0) w') w
  | _, _, _, _ => False
def sh_postroadlaw06_known.q : CVT → List X → World → (Value → Prop) → Prop
  | CV, [], w, K => Quiet (Bool) (fun r => (.bool r)) (fun K1 w' => sh_postroadlaw06_known CV (fun r0 w'' => K1 r0 w'') w') w (fun r => K (.bool r))
  | _, _, _, _ => False
noncomputable def cx_postroadlaw06_known : Cx := Cx.add Try.prog cx_postroadref06_Right 23 sh_postroadlaw06_known.o sh_postroadlaw06_known.q
theorem cx_postroadlaw06_known.ok : CxOk cx_postroadlaw06_known := by
  refine CxOk.add cx_postroadref06_Right.ok rfl (fun CV hcv xs K w hx h => ?_) (fun CV hcv xs K w hx h => ?_)
  · unfold sh_postroadlaw06_known.o at h; split at h
    · exact sh_postroadlaw06_known.calls CV hcv h
    · exact h.elim
  · unfold sh_postroadlaw06_known.q at h; split at h
    · obtain ⟨r, h1, h2⟩ := h; exact ⟨_, h2, fun w' e => sh_postroadlaw06_known.calls CV hcv (h1 w' e)⟩
    · exact h.elim
def sh_postroadlaw06_GraphTurned.plan : Plan := (.seq .o (.seq .o (.seq .o (.join [.box 6 [(.int .i64), .slice]] [] (.seq .o (.block (.loop [.slot 7 (.int .i64), .box 6 [(.int .i64), .slice]] [] (.seq (.seq .o (.cond .o .o)) (.seq (.block (.seq .o .o)) .o))))) (.seq .o (.seq .o (.join [] [] (.seq .o (.block (.loop [.slot 11 (.int .i64)] [] (.seq (.seq .o (.cond .o .o)) (.seq (.block (.seq .o (.cond (.seq .o .o) .o))) .o))))) (.seq (.draw [] [.pure, .quiet, .pure, .loc, .pure, .pure, .pure, .big, .pure, .big, .quiet, .pure, .pure, .big, .pure, .pure] [0, 1, 2, 3, 4, 5, 6, 8, 7, 9, 10, 11, 12, 13, 14, 15]) .o))))))))
theorem sh_postroadlaw06_GraphTurned.is (CV : CVT) (n0 : Int) (arcs0 : SV) (w : World) (R : Value → World → Prop) : sh_postroadlaw06_GraphTurned CV n0 arcs0 (fun r0 w' => R (.bool r0) w') w = denF (cx_postroadlaw06_known.with CV) Try.f3 sh_postroadlaw06_GraphTurned.plan [.v (.int .i64 n0), .v (.slice arcs0.a arcs0.len arcs0.cap)] w R := by kernel_rfl
theorem sh_postroadlaw06_GraphTurned.calls (CV : CVT) (n0 : Int) (arcs0 : SV) (hcv : CVOk Try.prog CV) {w : World} {R : Ending → World → Prop} (h : sh_postroadlaw06_GraphTurned CV n0 arcs0 (fun r0 w' => R (.returned (.bool r0)) w') w) : Calls Try.prog 3 #[(.int .i64 n0), (.slice arcs0.a arcs0.len arcs0.cap)] w R :=
  calls_is (cx := cx_postroadlaw06_known.with CV) mixed_Try (cx_postroadlaw06_known.ok.with CV) hcv Try.func3 sh_postroadlaw06_GraphTurned.plan (xs := [.v (.int .i64 n0), .v (.slice arcs0.a arcs0.len arcs0.cap)]) ((args_cons _ (args_cons _ args_nil))) (by kernel_rfl) (sh_postroadlaw06_GraphTurned.is CV n0 arcs0 w (fun v w' => R (.returned v) w')) h
def sh_postroadlaw06_GraphTurned.o : CVT → List X → (Value → World → Prop) → World → Prop
  | CV, [.v (.int .i64 n0), .v (.slice arcs0_a arcs0_l arcs0_c)], K, w => sh_postroadlaw06_GraphTurned CV n0 ⟨arcs0_a, arcs0_l, arcs0_c⟩ (fun r0 w' => K (.bool r0) w') w
  | _, _, _, _ => False
def sh_postroadlaw06_GraphTurned.q : CVT → List X → World → (Value → Prop) → Prop
  | CV, [.v (.int .i64 n0), .v (.slice arcs0_a arcs0_l arcs0_c)], w, K => Quiet (Bool) (fun r => (.bool r)) (fun K1 w' => sh_postroadlaw06_GraphTurned CV n0 ⟨arcs0_a, arcs0_l, arcs0_c⟩ (fun r0 w'' => K1 r0 w'') w') w (fun r => K (.bool r))
  | _, _, _, _ => False
noncomputable def cx_postroadlaw06_GraphTurned : Cx := Cx.add Try.prog cx_postroadlaw06_known 3 sh_postroadlaw06_GraphTurned.o sh_postroadlaw06_GraphTurned.q
theorem cx_postroadlaw06_GraphTurned.ok : CxOk cx_postroadlaw06_GraphTurned := by
  refine CxOk.add cx_postroadlaw06_known.ok rfl (fun CV hcv xs K w hx h => ?_) (fun CV hcv xs K w hx h => ?_)
  · unfold sh_postroadlaw06_GraphTurned.o at h; split at h
    · rename_i n0 arcs0_a arcs0_l arcs0_c; exact sh_postroadlaw06_GraphTurned.calls CV n0 ⟨arcs0_a, arcs0_l, arcs0_c⟩ hcv h
    · exact h.elim
  · unfold sh_postroadlaw06_GraphTurned.q at h; split at h
    · rename_i n0 arcs0_a arcs0_l arcs0_c; obtain ⟨r, h1, h2⟩ := h; exact ⟨_, h2, fun w' e => sh_postroadlaw06_GraphTurned.calls CV n0 ⟨arcs0_a, arcs0_l, arcs0_c⟩ hcv (h1 w' e)⟩
    · exact h.elim
def sh_postroadlaw06_GraphLoops.plan : Plan := (.seq .o (.seq .o (.seq (.seq .o (.cond (.seq .o .o) .o)) (.seq .o (.seq .o (.join [.box 8 [(.int .i64), .slice]] [] (.seq .o (.block (.loop [.slot 9 (.int .i64), .box 8 [(.int .i64), .slice]] [] (.seq (.seq .o (.cond .o .o)) (.seq (.block (.seq (.draw [] [.pure, .pure, .pure, .quiet, .pure, .pure, .loc, .pure, .pure] [0, 1, 2, 3, 4, 5, 6, 7, 8]) .o)) .o))))) (.seq .o (.seq .o (.seq .o (.join [] [] (.seq .o (.block (.loop [.slot 14 (.int .i64)] [] (.seq (.seq .o (.cond .o .o)) (.seq (.block (.seq .o (.cond (.seq .o .o) .o))) .o))))) (.seq (.draw [] [.pure, .quiet, .pure, .loc, .pure, .pure, .pure, .big, .pure, .pure, .pure, .pure, .pure, .big, .pure, .big, .quiet, .pure, .pure, .big, .pure, .pure] [0, 1, 2, 3, 4, 5, 6, 7, 8, 9, 10, 11, 12, 14, 13, 15, 16, 17, 18, 19, 20, 21]) .o)))))))))))
theorem sh_postroadlaw06_GraphLoops.is (CV : CVT) (n0 : Int) (arcs0 : SV) (loops0 : SV) (w : World) (R : Value → World → Prop) : sh_postroadlaw06_GraphLoops CV n0 arcs0 loops0 (fun r0 w' => R (.bool r0) w') w = denF (cx_postroadlaw06_GraphTurned.with CV) Try.f4 sh_postroadlaw06_GraphLoops.plan [.v (.int .i64 n0), .v (.slice arcs0.a arcs0.len arcs0.cap), .v (.slice loops0.a loops0.len loops0.cap)] w R := by kernel_rfl
theorem sh_postroadlaw06_GraphLoops.calls (CV : CVT) (n0 : Int) (arcs0 : SV) (loops0 : SV) (hcv : CVOk Try.prog CV) {w : World} {R : Ending → World → Prop} (h : sh_postroadlaw06_GraphLoops CV n0 arcs0 loops0 (fun r0 w' => R (.returned (.bool r0)) w') w) : Calls Try.prog 4 #[(.int .i64 n0), (.slice arcs0.a arcs0.len arcs0.cap), (.slice loops0.a loops0.len loops0.cap)] w R :=
  calls_is (cx := cx_postroadlaw06_GraphTurned.with CV) mixed_Try (cx_postroadlaw06_GraphTurned.ok.with CV) hcv Try.func4 sh_postroadlaw06_GraphLoops.plan (xs := [.v (.int .i64 n0), .v (.slice arcs0.a arcs0.len arcs0.cap), .v (.slice loops0.a loops0.len loops0.cap)]) ((args_cons _ (args_cons _ (args_cons _ args_nil)))) (by kernel_rfl) (sh_postroadlaw06_GraphLoops.is CV n0 arcs0 loops0 w (fun v w' => R (.returned v) w')) h
def sh_postroadlaw06_GraphLoops.o : CVT → List X → (Value → World → Prop) → World → Prop
  | CV, [.v (.int .i64 n0), .v (.slice arcs0_a arcs0_l arcs0_c), .v (.slice loops0_a loops0_l loops0_c)], K, w => sh_postroadlaw06_GraphLoops CV n0 ⟨arcs0_a, arcs0_l, arcs0_c⟩ ⟨loops0_a, loops0_l, loops0_c⟩ (fun r0 w' => K (.bool r0) w') w
  | _, _, _, _ => False
def sh_postroadlaw06_GraphLoops.q : CVT → List X → World → (Value → Prop) → Prop
  | CV, [.v (.int .i64 n0), .v (.slice arcs0_a arcs0_l arcs0_c), .v (.slice loops0_a loops0_l loops0_c)], w, K => Quiet (Bool) (fun r => (.bool r)) (fun K1 w' => sh_postroadlaw06_GraphLoops CV n0 ⟨arcs0_a, arcs0_l, arcs0_c⟩ ⟨loops0_a, loops0_l, loops0_c⟩ (fun r0 w'' => K1 r0 w'') w') w (fun r => K (.bool r))
  | _, _, _, _ => False
noncomputable def cx_postroadlaw06_GraphLoops : Cx := Cx.add Try.prog cx_postroadlaw06_GraphTurned 4 sh_postroadlaw06_GraphLoops.o sh_postroadlaw06_GraphLoops.q
theorem cx_postroadlaw06_GraphLoops.ok : CxOk cx_postroadlaw06_GraphLoops := by
  refine CxOk.add cx_postroadlaw06_GraphTurned.ok rfl (fun CV hcv xs K w hx h => ?_) (fun CV hcv xs K w hx h => ?_)
  · unfold sh_postroadlaw06_GraphLoops.o at h; split at h
    · rename_i n0 arcs0_a arcs0_l arcs0_c loops0_a loops0_l loops0_c; exact sh_postroadlaw06_GraphLoops.calls CV n0 ⟨arcs0_a, arcs0_l, arcs0_c⟩ ⟨loops0_a, loops0_l, loops0_c⟩ hcv h
    · exact h.elim
  · unfold sh_postroadlaw06_GraphLoops.q at h; split at h
    · rename_i n0 arcs0_a arcs0_l arcs0_c loops0_a loops0_l loops0_c; obtain ⟨r, h1, h2⟩ := h; exact ⟨_, h2, fun w' e => sh_postroadlaw06_GraphLoops.calls CV n0 ⟨arcs0_a, arcs0_l, arcs0_c⟩ ⟨loops0_a, loops0_l, loops0_c⟩ hcv (h1 w' e)⟩
    · exact h.elim
def sh_postroadlaw06_GraphLeast.plan : Plan := (.seq .o (.seq (.seq .o (.cond (.seq .o .o) .o)) (.seq .o (.join [] [] (.seq .o (.block (.loop [.slot 8 (.int .i64)] [] (.seq (.seq .o (.cond .o .o)) (.join [] [] (.block (.seq .o (.seq .o (.seq .o (.cond (.seq .o .o) .o))))) .o))))) (.seq (.draw [] [.pure, .loc, .pure, .pure, .pure, .loc, .pure, .pure, .pure, .quiet, .new, .big] [0, 1, 2, 3, 4, 5, 6, 7, 8, 9, 10, 11]) (.seq .o (.seq .o (.seq .o (.seq .o (.seq .o (.seq (.seq .o (.cond (.seq .o .o) .o)) (.seq .o .o))))))))))))
theorem sh_postroadlaw06_GraphLeast.is (CV : CVT) (m0_N : Int) (m0_Arcs : SV) (at_0 : Int) (more0 : Int) (w : World) (R : Value → World → Prop) : sh_postroadlaw06_GraphLeast CV m0_N m0_Arcs at_0 more0 (fun r0 w' => R (.bool r0) w') w = denF (cx_postroadlaw06_GraphLoops.with CV) Try.f5 sh_postroadlaw06_GraphLeast.plan [.v (.agg #[(.int .i64 m0_N), (.slice m0_Arcs.a m0_Arcs.len m0_Arcs.cap)]), .v (.int .u8 at_0), .v (.int .u32 more0)] w R := by kernel_rfl
theorem sh_postroadlaw06_GraphLeast.calls (CV : CVT) (m0_N : Int) (m0_Arcs : SV) (at_0 : Int) (more0 : Int) (hcv : CVOk Try.prog CV) {w : World} {R : Ending → World → Prop} (h : sh_postroadlaw06_GraphLeast CV m0_N m0_Arcs at_0 more0 (fun r0 w' => R (.returned (.bool r0)) w') w) : Calls Try.prog 5 #[(.agg #[(.int .i64 m0_N), (.slice m0_Arcs.a m0_Arcs.len m0_Arcs.cap)]), (.int .u8 at_0), (.int .u32 more0)] w R :=
  calls_is (cx := cx_postroadlaw06_GraphLoops.with CV) mixed_Try (cx_postroadlaw06_GraphLoops.ok.with CV) hcv Try.func5 sh_postroadlaw06_GraphLeast.plan (xs := [.v (.agg #[(.int .i64 m0_N), (.slice m0_Arcs.a m0_Arcs.len m0_Arcs.cap)]), .v (.int .u8 at_0), .v (.int .u32 more0)]) ((args_cons _ (args_cons _ (args_cons _ args_nil)))) (by kernel_rfl) (sh_postroadlaw06_GraphLeast.is CV m0_N m0_Arcs at_0 more0 w (fun v w' => R (.returned v) w')) h
def sh_postroadlaw06_GraphLeast.o : CVT → List X → (Value → World → Prop) → World → Prop
  | CV, [.v (.agg ⟨[.int .i64 m0_N, .slice m0_Arcs_a m0_Arcs_l m0_Arcs_c]⟩), .v (.int .u8 at_0), .v (.int .u32 more0)], K, w => sh_postroadlaw06_GraphLeast CV m0_N ⟨m0_Arcs_a, m0_Arcs_l, m0_Arcs_c⟩ at_0 more0 (fun r0 w' => K (.bool r0) w') w
  | _, _, _, _ => False
def sh_postroadlaw06_GraphLeast.q : CVT → List X → World → (Value → Prop) → Prop
  | CV, [.v (.agg ⟨[.int .i64 m0_N, .slice m0_Arcs_a m0_Arcs_l m0_Arcs_c]⟩), .v (.int .u8 at_0), .v (.int .u32 more0)], w, K => Quiet (Bool) (fun r => (.bool r)) (fun K1 w' => sh_postroadlaw06_GraphLeast CV m0_N ⟨m0_Arcs_a, m0_Arcs_l, m0_Arcs_c⟩ at_0 more0 (fun r0 w'' => K1 r0 w'') w') w (fun r => K (.bool r))
  | _, _, _, _ => False
noncomputable def cx_postroadlaw06_GraphLeast : Cx := Cx.add Try.prog cx_postroadlaw06_GraphLoops 5 sh_postroadlaw06_GraphLeast.o sh_postroadlaw06_GraphLeast.q
theorem cx_postroadlaw06_GraphLeast.ok : CxOk cx_postroadlaw06_GraphLeast := by
  refine CxOk.add cx_postroadlaw06_GraphLoops.ok rfl (fun CV hcv xs K w hx h => ?_) (fun CV hcv xs K w hx h => ?_)
  · unfold sh_postroadlaw06_GraphLeast.o at h; split at h
    · rename_i m0_N m0_Arcs_a m0_Arcs_l m0_Arcs_c at_0 more0; exact sh_postroadlaw06_GraphLeast.calls CV m0_N ⟨m0_Arcs_a, m0_Arcs_l, m0_Arcs_c⟩ at_0 more0 hcv h
    · exact h.elim
  · unfold sh_postroadlaw06_GraphLeast.q at h; split at h
    · rename_i m0_N m0_Arcs_a m0_Arcs_l m0_Arcs_c at_0 more0; obtain ⟨r, h1, h2⟩ := h; exact ⟨_, h2, fun w' e => sh_postroadlaw06_GraphLeast.calls CV m0_N ⟨m0_Arcs_a, m0_Arcs_l, m0_Arcs_c⟩ at_0 more0 hcv (h1 w' e)⟩
    · exact h.elim
def sh_postroadlaw06_GraphSides.plan : Plan := (.seq .o (.seq (.seq .o (.cond (.seq .o .o) .o)) (.seq .o (.seq .o (.join [.slot 4 (.int .i64)] [] (.seq .o (.block (.loop [.slot 4 (.int .i64), .slot 5 (.int .i64)] [] (.seq (.seq .o (.cond .o .o)) (.join [.slot 4 (.int .i64)] [] (.block (.seq .o (.seq .o (.seq .o (.block (.loop [.slot 7 (.int .i64)] [] (.seq (.seq .o (.cond .o .o)) (.join [] [] (.block (.seq .o (.join [] [] (.seq (.draw [] [.pure, .pure, .pure, .pure, .loc, .pure, .pure, .pure, .pure, .pure, .loc, .pure, .pure, .pure, .pure, .quiet, .pure, .pure, .pure, .pure, .loc, .pure, .pure, .pure, .pure, .quiet, .pure, .pure, .pure, .pure, .pure, .pure, .pure, .quiet, .pure, .pure, .pure, .pure, .pure, .pure, .pure, .pure, .pure, .pure, .pure, .quiet, .pure, .pure, .pure, .pure, .pure, .quiet, .pure, .pure, .pure] [0, 1, 2, 3, 4, 5, 6, 7, 8, 9, 10, 11, 12, 13, 14, 15, 16, 17, 18, 19, 20, 21, 22, 23, 24, 25, 26, 27, 28, 29, 30, 31, 32, 33, 34, 35, 36, 37, 38, 39, 40, 41, 42, 43, 44, 45, 46, 47, 48, 49, 50, 51, 52, 53, 54]) (.cond (.seq .o .o) .o)) (.seq .o (.seq .o (.join [.slot 11 .bool] [] (.seq .o (.block (.loop [.slot 11 .bool, .slot 12 (.int .i64)] [] (.seq (.seq .o (.cond .o .o)) (.join [.slot 11 .bool] [] (.block (.draw [] [.pure, .pure, .pure, .pure, .pure, .quiet, .pure, .pure, .pure, .pure, .pure, .quiet, .pure, .pure, .pure, .pure, .quiet, .pure, .pure, .pure, .pure] [0, 1, 2, 3, 4, 5, 6, 7, 8, 9, 10, 11, 12, 13, 14, 15, 16, 17, 18, 19, 20])) .o))))) (.seq .o (.cond (.seq .o .o) .o)))))))) .o)))))))) .o))))) (.seq .o .o))))))
theorem sh_postroadlaw06_GraphSides.is (CV : CVT) (m0_N : Int) (m0_Arcs : SV) (w : World) (R : Value → World → Prop) : sh_postroadlaw06_GraphSides CV m0_N m0_Arcs (fun r0 w' => R (.bool r0) w') w = denF (cx_postroadlaw06_GraphLeast.with CV) Try.f6 sh_postroadlaw06_GraphSides.plan [.v (.agg #[(.int .i64 m0_N), (.slice m0_Arcs.a m0_Arcs.len m0_Arcs.cap)])] w R := by kernel_rfl
theorem sh_postroadlaw06_GraphSides.calls (CV : CVT) (m0_N : Int) (m0_Arcs : SV) (hcv : CVOk Try.prog CV) {w : World} {R : Ending → World → Prop} (h : sh_postroadlaw06_GraphSides CV m0_N m0_Arcs (fun r0 w' => R (.returned (.bool r0)) w') w) : Calls Try.prog 6 #[(.agg #[(.int .i64 m0_N), (.slice m0_Arcs.a m0_Arcs.len m0_Arcs.cap)])] w R :=
  calls_is (cx := cx_postroadlaw06_GraphLeast.with CV) mixed_Try (cx_postroadlaw06_GraphLeast.ok.with CV) hcv Try.func6 sh_postroadlaw06_GraphSides.plan (xs := [.v (.agg #[(.int .i64 m0_N), (.slice m0_Arcs.a m0_Arcs.len m0_Arcs.cap)])]) ((args_cons _ args_nil)) (by kernel_rfl) (sh_postroadlaw06_GraphSides.is CV m0_N m0_Arcs w (fun v w' => R (.returned v) w')) h
def sh_postroadlaw06_GraphSides.o : CVT → List X → (Value → World → Prop) → World → Prop
  | CV, [.v (.agg ⟨[.int .i64 m0_N, .slice m0_Arcs_a m0_Arcs_l m0_Arcs_c]⟩)], K, w => sh_postroadlaw06_GraphSides CV m0_N ⟨m0_Arcs_a, m0_Arcs_l, m0_Arcs_c⟩ (fun r0 w' => K (.bool r0) w') w
  | _, _, _, _ => False
def sh_postroadlaw06_GraphSides.q : CVT → List X → World → (Value → Prop) → Prop
  | CV, [.v (.agg ⟨[.int .i64 m0_N, .slice m0_Arcs_a m0_Arcs_l m0_Arcs_c]⟩)], w, K => Quiet (Bool) (fun r => (.bool r)) (fun K1 w' => sh_postroadlaw06_GraphSides CV m0_N ⟨m0_Arcs_a, m0_Arcs_l, m0_Arcs_c⟩ (fun r0 w'' => K1 r0 w'') w') w (fun r => K (.bool r))
  | _, _, _, _ => False
noncomputable def cx_postroadlaw06_GraphSides : Cx := Cx.add Try.prog cx_postroadlaw06_GraphLeast 6 sh_postroadlaw06_GraphSides.o sh_postroadlaw06_GraphSides.q
theorem cx_postroadlaw06_GraphSides.ok : CxOk cx_postroadlaw06_GraphSides := by
  refine CxOk.add cx_postroadlaw06_GraphLeast.ok rfl (fun CV hcv xs K w hx h => ?_) (fun CV hcv xs K w hx h => ?_)
  · unfold sh_postroadlaw06_GraphSides.o at h; split at h
    · rename_i m0_N m0_Arcs_a m0_Arcs_l m0_Arcs_c; exact sh_postroadlaw06_GraphSides.calls CV m0_N ⟨m0_Arcs_a, m0_Arcs_l, m0_Arcs_c⟩ hcv h
    · exact h.elim
  · unfold sh_postroadlaw06_GraphSides.q at h; split at h
    · rename_i m0_N m0_Arcs_a m0_Arcs_l m0_Arcs_c; obtain ⟨r, h1, h2⟩ := h; exact ⟨_, h2, fun w' e => sh_postroadlaw06_GraphSides.calls CV m0_N ⟨m0_Arcs_a, m0_Arcs_l, m0_Arcs_c⟩ hcv (h1 w' e)⟩
    · exact h.elim
def sh_postroadlaw06_GraphArcs.plan : Plan := (.seq .o (.seq (.seq .o (.cond (.seq .o .o) .o)) (.seq .o (.join [] [] (.seq .o (.block (.loop [.slot 4 (.int .i64)] [] (.seq (.seq .o (.cond .o .o)) (.seq (.block (.seq .o (.seq (.draw [] [.pure, .pure, .pure, .loc, .pure, .loc, .pure, .pure, .quiet, .pure, .pure] [0, 1, 2, 3, 4, 5, 6, 7, 8, 9, 10]) (.cond (.seq .o .o) .o)))) .o))))) (.seq .o (.seq .o (.seq .o (.seq .o (.join [.slot 12 (.int .i64)] [] (.seq .o (.block (.loop [.slot 12 (.int .i64), .slot 13 (.int .i64)] [] (.seq (.seq .o (.cond .o .o)) (.seq (.block .o) .o))))) (.join [] [] (.seq .o (.block (.loop [.slot 14 (.int .i64)] [] (.seq (.seq .o (.cond .o .o)) (.join [] [] (.block (.seq .o (.seq .o (.seq (.draw [] [.pure, .pure, .pure, .pure, .loc, .pure, .pure, .pure, .quiet, .pure, .pure, .pure, .pure, .pure, .pure, .pure, .pure, .pure, .quiet, .pure, .pure, .pure, .pure, .quiet, .pure, .pure, .pure] [0, 1, 2, 3, 4, 5, 6, 7, 8, 9, 10, 11, 12, 13, 14, 15, 16, 17, 18, 19, 20, 21, 22, 23, 24, 25, 26]) (.cond (.seq .o .o) .o))))) .o))))) (.seq .o .o)))))))))))
theorem sh_postroadlaw06_GraphArcs.is (CV : CVT) (m0_N : Int) (m0_Arcs : SV) (w : World) (R : Value → World → Prop) : sh_postroadlaw06_GraphArcs CV m0_N m0_Arcs (fun r0 w' => R (.bool r0) w') w = denF (cx_postroadlaw06_GraphSides.with CV) Try.f8 sh_postroadlaw06_GraphArcs.plan [.v (.agg #[(.int .i64 m0_N), (.slice m0_Arcs.a m0_Arcs.len m0_Arcs.cap)])] w R := by kernel_rfl
theorem sh_postroadlaw06_GraphArcs.calls (CV : CVT) (m0_N : Int) (m0_Arcs : SV) (hcv : CVOk Try.prog CV) {w : World} {R : Ending → World → Prop} (h : sh_postroadlaw06_GraphArcs CV m0_N m0_Arcs (fun r0 w' => R (.returned (.bool r0)) w') w) : Calls Try.prog 8 #[(.agg #[(.int .i64 m0_N), (.slice m0_Arcs.a m0_Arcs.len m0_Arcs.cap)])] w R :=
  calls_is (cx := cx_postroadlaw06_GraphSides.with CV) mixed_Try (cx_postroadlaw06_GraphSides.ok.with CV) hcv Try.func8 sh_postroadlaw06_GraphArcs.plan (xs := [.v (.agg #[(.int .i64 m0_N), (.slice m0_Arcs.a m0_Arcs.len m0_Arcs.cap)])]) ((args_cons _ args_nil)) (by kernel_rfl) (sh_postroadlaw06_GraphArcs.is CV m0_N m0_Arcs w (fun v w' => R (.returned v) w')) h
def sh_postroadlaw06_GraphArcs.o : CVT → List X → (Value → World → Prop) → World → Prop
  | CV, [.v (.agg ⟨[.int .i64 m0_N, .slice m0_Arcs_a m0_Arcs_l m0_Arcs_c]⟩)], K, w => sh_postroadlaw06_GraphArcs CV m0_N ⟨m0_Arcs_a, m0_Arcs_l, m0_Arcs_c⟩ (fun r0 w' => K (.bool r0) w') w
  | _, _, _, _ => False
def sh_postroadlaw06_GraphArcs.q : CVT → List X → World → (Value → Prop) → Prop
  | CV, [.v (.agg ⟨[.int .i64 m0_N, .slice m0_Arcs_a m0_Arcs_l m0_Arcs_c]⟩)], w, K => Quiet (Bool) (fun r => (.bool r)) (fun K1 w' => sh_postroadlaw06_GraphArcs CV m0_N ⟨m0_Arcs_a, m0_Arcs_l, m0_Arcs_c⟩ (fun r0 w'' => K1 r0 w'') w') w (fun r => K (.bool r))
  | _, _, _, _ => False
noncomputable def cx_postroadlaw06_GraphArcs : Cx := Cx.add Try.prog cx_postroadlaw06_GraphSides 8 sh_postroadlaw06_GraphArcs.o sh_postroadlaw06_GraphArcs.q
theorem cx_postroadlaw06_GraphArcs.ok : CxOk cx_postroadlaw06_GraphArcs := by
  refine CxOk.add cx_postroadlaw06_GraphSides.ok rfl (fun CV hcv xs K w hx h => ?_) (fun CV hcv xs K w hx h => ?_)
  · unfold sh_postroadlaw06_GraphArcs.o at h; split at h
    · rename_i m0_N m0_Arcs_a m0_Arcs_l m0_Arcs_c; exact sh_postroadlaw06_GraphArcs.calls CV m0_N ⟨m0_Arcs_a, m0_Arcs_l, m0_Arcs_c⟩ hcv h
    · exact h.elim
  · unfold sh_postroadlaw06_GraphArcs.q at h; split at h
    · rename_i m0_N m0_Arcs_a m0_Arcs_l m0_Arcs_c; obtain ⟨r, h1, h2⟩ := h; exact ⟨_, h2, fun w' e => sh_postroadlaw06_GraphArcs.calls CV m0_N ⟨m0_Arcs_a, m0_Arcs_l, m0_Arcs_c⟩ hcv (h1 w' e)⟩
    · exact h.elim
def sh_postroadlaw06_GraphOwn.plan : Plan := (.seq .o (.seq (.seq .o (.cond (.seq .o .o) .o)) (.seq .o (.seq .o (.seq .o (.seq .o (.join [] [] (.seq .o (.block (.loop [.slot 6 (.int .i64)] [] (.seq (.seq .o (.cond .o .o)) (.seq (.block .o) .o))))) (.join [] [] (.seq .o (.block (.loop [.slot 7 (.int .i64)] [] (.seq (.seq .o (.cond .o .o)) (.join [] [] (.block (.seq .o (.join [] [] (.seq .o (.block (.loop [.slot 9 (.int .i64)] [] (.seq (.seq .o (.cond .o .o)) (.seq (.block .o) .o))))) (.seq .o (.cond (.seq .o .o) .o))))) .o))))) (.seq .o .o)))))))))
theorem sh_postroadlaw06_GraphOwn.is (CV : CVT) (m0_N : Int) (m0_Arcs : SV) (w : World) (R : Value → World → Prop) : sh_postroadlaw06_GraphOwn CV m0_N m0_Arcs (fun r0 w' => R (.bool r0) w') w = denF (cx_postroadlaw06_GraphArcs.with CV) Try.f9 sh_postroadlaw06_GraphOwn.plan [.v (.agg #[(.int .i64 m0_N), (.slice m0_Arcs.a m0_Arcs.len m0_Arcs.cap)])] w R := by kernel_rfl
theorem sh_postroadlaw06_GraphOwn.calls (CV : CVT) (m0_N : Int) (m0_Arcs : SV) (hcv : CVOk Try.prog CV) {w : World} {R : Ending → World → Prop} (h : sh_postroadlaw06_GraphOwn CV m0_N m0_Arcs (fun r0 w' => R (.returned (.bool r0)) w') w) : Calls Try.prog 9 #[(.agg #[(.int .i64 m0_N), (.slice m0_Arcs.a m0_Arcs.len m0_Arcs.cap)])] w R :=
  calls_is (cx := cx_postroadlaw06_GraphArcs.with CV) mixed_Try (cx_postroadlaw06_GraphArcs.ok.with CV) hcv Try.func9 sh_postroadlaw06_GraphOwn.plan (xs := [.v (.agg #[(.int .i64 m0_N), (.slice m0_Arcs.a m0_Arcs.len m0_Arcs.cap)])]) ((args_cons _ args_nil)) (by kernel_rfl) (sh_postroadlaw06_GraphOwn.is CV m0_N m0_Arcs w (fun v w' => R (.returned v) w')) h
def sh_postroadlaw06_GraphOwn.o : CVT → List X → (Value → World → Prop) → World → Prop
  | CV, [.v (.agg ⟨[.int .i64 m0_N, .slice m0_Arcs_a m0_Arcs_l m0_Arcs_c]⟩)], K, w => sh_postroadlaw06_GraphOwn CV m0_N ⟨m0_Arcs_a, m0_Arcs_l, m0_Arcs_c⟩ (fun r0 w' => K (.bool r0) w') w
  | _, _, _, _ => False
def sh_postroadlaw06_GraphOwn.q : CVT → List X → World → (Value → Prop) → Prop
  | CV, [.v (.agg ⟨[.int .i64 m0_N, .slice m0_Arcs_a m0_Arcs_l m0_Arcs_c]⟩)], w, K => Quiet (Bool) (fun r => (.bool r)) (fun K1 w' => sh_postroadlaw06_GraphOwn CV m0_N ⟨m0_Arcs_a, m0_Arcs_l, m0_Arcs_c⟩ (fun r0 w'' => K1 r0 w'') w') w (fun r => K (.bool r))
  | _, _, _, _ => False
noncomputable def cx_postroadlaw06_GraphOwn : Cx := Cx.add Try.prog cx_postroadlaw06_GraphArcs 9 sh_postroadlaw06_GraphOwn.o sh_postroadlaw06_GraphOwn.q
theorem cx_postroadlaw06_GraphOwn.ok : CxOk cx_postroadlaw06_GraphOwn := by
  refine CxOk.add cx_postroadlaw06_GraphArcs.ok rfl (fun CV hcv xs K w hx h => ?_) (fun CV hcv xs K w hx h => ?_)
  · unfold sh_postroadlaw06_GraphOwn.o at h; split at h
    · rename_i m0_N m0_Arcs_a m0_Arcs_l m0_Arcs_c; exact sh_postroadlaw06_GraphOwn.calls CV m0_N ⟨m0_Arcs_a, m0_Arcs_l, m0_Arcs_c⟩ hcv h
    · exact h.elim
  · unfold sh_postroadlaw06_GraphOwn.q at h; split at h
    · rename_i m0_N m0_Arcs_a m0_Arcs_l m0_Arcs_c; obtain ⟨r, h1, h2⟩ := h; exact ⟨_, h2, fun w' e => sh_postroadlaw06_GraphOwn.calls CV m0_N ⟨m0_Arcs_a, m0_Arcs_l, m0_Arcs_c⟩ hcv (h1 w' e)⟩
    · exact h.elim
end Go.Sh
