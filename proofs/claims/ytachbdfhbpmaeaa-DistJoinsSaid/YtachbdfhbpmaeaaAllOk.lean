/- The shallow definitions are what the code asks; printed by gen.py of these sessions. -/
import Derived.Test.YtachbdfhbpmaeaaAllDef
import Derived.Test.YtachbdfhbpmaeaaSnd8
import Derived.Test.YtachbdfhbpmaeaaProg
import Derived.KernelRfl
set_option maxRecDepth 100000
set_option linter.unusedVariables false
namespace Go.Sh
open Go.Proofs
theorem mixed_Try : Try.prog.follows .mixedOrders = true := by kernel_rfl
noncomputable def cx_0 : Cx := Cx.none Try.prog
theorem cx_0.ok : CxOk cx_0 := CxOk.none _
def sh_postroadref06_part.plan : Plan := (.seq .o (.seq .o (.seq (.seq .o (.cond (.seq .o .o) .o)) (.seq .o .o))))
theorem sh_postroadref06_part.is (CV : CVT) (x0 : Int) (n0 : Int) (w : World) (R : Value → World → Prop) : sh_postroadref06_part x0 n0 (fun r0 w' => R (.int .i64 r0) w') w = denF (cx_0.with CV) Try.f47 sh_postroadref06_part.plan [.v (.int .i64 x0), .v (.int .i64 n0)] w R := by kernel_rfl
theorem sh_postroadref06_part.calls (CV : CVT) (x0 : Int) (n0 : Int) (hcv : CVOk Try.prog CV) {w : World} {R : Ending → World → Prop} (h : sh_postroadref06_part x0 n0 (fun r0 w' => R (.returned (.int .i64 r0)) w') w) : Calls Try.prog 47 #[(.int .i64 x0), (.int .i64 n0)] w R :=
  calls_is (cx := cx_0.with CV) mixed_Try (cx_0.ok.with CV) hcv Try.func47 sh_postroadref06_part.plan (xs := [.v (.int .i64 x0), .v (.int .i64 n0)]) ((args_cons _ (args_cons _ args_nil))) (by kernel_rfl) (sh_postroadref06_part.is CV x0 n0 w (fun v w' => R (.returned v) w')) h
def sh_postroadref06_part.o : CVT → List X → (Value → World → Prop) → World → Prop
  | CV, [.v (.int .i64 x0), .v (.int .i64 n0)], K, w => sh_postroadref06_part x0 n0 (fun r0 w' => K (.int .i64 r0) w') w
  | _, _, _, _ => False
def sh_postroadref06_part.q : CVT → List X → World → (Value → Prop) → Prop
  | CV, [.v (.int .i64 x0), .v (.int .i64 n0)], w, K => Quiet (Int) (fun r => (.int .i64 r)) (fun K1 w' => sh_postroadref06_part x0 n0 (fun r0 w'' => K1 r0 w'') w') w (fun r => K (.int .i64 r))
  | _, _, _, _ => False
noncomputable def cx_postroadref06_part : Cx := Cx.add Try.prog cx_0 47 sh_postroadref06_part.o sh_postroadref06_part.q
theorem cx_postroadref06_part.ok : CxOk cx_postroadref06_part := by
  refine CxOk.add cx_0.ok rfl (fun CV hcv xs K w hx h => ?_) (fun CV hcv xs K w hx h => ?_)
  · unfold sh_postroadref06_part.o at h; split at h
    · rename_i x0 n0; exact sh_postroadref06_part.calls CV x0 n0 hcv h
    · exact h.elim
  · unfold sh_postroadref06_part.q at h; split at h
    · rename_i x0 n0; obtain ⟨r, h1, h2⟩ := h; exact ⟨_, h2, fun w' e => sh_postroadref06_part.calls CV x0 n0 hcv (h1 w' e)⟩
    · exact h.elim
def sh_postroadref06_Of.plan : Plan := (.seq .o (.seq .o (.seq .o (.join [.box 5 [(.int .i64), .slice]] [] (.seq .o (.block (.loop [.slot 6 (.int .i64), .box 5 [(.int .i64), .slice]] [] (.seq (.seq .o (.cond .o .o)) (.seq (.block (.seq .o (.draw [] [.pure, .loc, .pure, .loc, .pure, .quiet, .pure, .loc, .pure, .quiet, .pure, .loc, .quiet, .pure, .new, .big, .pure, .big] [0, 1, 2, 3, 4, 5, 6, 7, 8, 9, 10, 11, 12, 13, 14, 15, 16, 17]))) .o))))) (.seq .o .o)))))
theorem sh_postroadref06_Of.is (CV : CVT) (n0 : Int) (arcs0 : SV) (w : World) (R : Value → World → Prop) : sh_postroadref06_Of n0 arcs0 (fun r0 r1 w' => R (.agg #[(.int .i64 r0), (.slice r1.a r1.len r1.cap)]) w') w = denF (cx_postroadref06_part.with CV) Try.f31 sh_postroadref06_Of.plan [.v (.int .i64 n0), .v (.slice arcs0.a arcs0.len arcs0.cap)] w R := by kernel_rfl
theorem sh_postroadref06_Of.calls (CV : CVT) (n0 : Int) (arcs0 : SV) (hcv : CVOk Try.prog CV) {w : World} {R : Ending → World → Prop} (h : sh_postroadref06_Of n0 arcs0 (fun r0 r1 w' => R (.returned (.agg #[(.int .i64 r0), (.slice r1.a r1.len r1.cap)])) w') w) : Calls Try.prog 31 #[(.int .i64 n0), (.slice arcs0.a arcs0.len arcs0.cap)] w R :=
  calls_is (cx := cx_postroadref06_part.with CV) mixed_Try (cx_postroadref06_part.ok.with CV) hcv Try.func31 sh_postroadref06_Of.plan (xs := [.v (.int .i64 n0), .v (.slice arcs0.a arcs0.len arcs0.cap)]) ((args_cons _ (args_cons _ args_nil))) (by kernel_rfl) (sh_postroadref06_Of.is CV n0 arcs0 w (fun v w' => R (.returned v) w')) h
def sh_postroadref06_Of.o : CVT → List X → (Value → World → Prop) → World → Prop
  | CV, [.v (.int .i64 n0), .v (.slice arcs0_a arcs0_l arcs0_c)], K, w => sh_postroadref06_Of n0 ⟨arcs0_a, arcs0_l, arcs0_c⟩ (fun r0 r1 w' => K (.agg #[(.int .i64 r0), (.slice r1.a r1.len r1.cap)]) w') w
  | _, _, _, _ => False
def sh_postroadref06_Of.q : CVT → List X → World → (Value → Prop) → Prop
  | CV, [.v (.int .i64 n0), .v (.slice arcs0_a arcs0_l arcs0_c)], w, K => Quiet (Int × SV) (fun r => (.agg #[(.int .i64 r.1), (.slice r.2.a r.2.len r.2.cap)])) (fun K1 w' => sh_postroadref06_Of n0 ⟨arcs0_a, arcs0_l, arcs0_c⟩ (fun r0 r1 w'' => K1 (r0, r1) w'') w') w (fun r => K (.agg #[(.int .i64 r.1), (.slice r.2.a r.2.len r.2.cap)]))
  | _, _, _, _ => False
noncomputable def cx_postroadref06_Of : Cx := Cx.add Try.prog cx_postroadref06_part 31 sh_postroadref06_Of.o sh_postroadref06_Of.q
theorem cx_postroadref06_Of.ok : CxOk cx_postroadref06_Of := by
  refine CxOk.add cx_postroadref06_part.ok rfl (fun CV hcv xs K w hx h => ?_) (fun CV hcv xs K w hx h => ?_)
  · unfold sh_postroadref06_Of.o at h; split at h
    · rename_i n0 arcs0_a arcs0_l arcs0_c; exact sh_postroadref06_Of.calls CV n0 ⟨arcs0_a, arcs0_l, arcs0_c⟩ hcv h
    · exact h.elim
  · unfold sh_postroadref06_Of.q at h; split at h
    · rename_i n0 arcs0_a arcs0_l arcs0_c; obtain ⟨r, h1, h2⟩ := h; exact ⟨_, h2, fun w' e => sh_postroadref06_Of.calls CV n0 ⟨arcs0_a, arcs0_l, arcs0_c⟩ hcv (h1 w' e)⟩
    · exact h.elim
def sh_postroadref07_Of.plan : Plan := (.seq .o (.seq .o .o))
theorem sh_postroadref07_Of.is (CV : CVT) (n0 : Int) (arcs0 : SV) (w : World) (R : Value → World → Prop) : sh_postroadref07_Of n0 arcs0 (fun r0 r1 w' => R (.agg #[(.int .i64 r0), (.slice r1.a r1.len r1.cap)]) w') w = denF (cx_postroadref06_Of.with CV) Try.f10 sh_postroadref07_Of.plan [.v (.int .i64 n0), .v (.slice arcs0.a arcs0.len arcs0.cap)] w R := by kernel_rfl
theorem sh_postroadref07_Of.calls (CV : CVT) (n0 : Int) (arcs0 : SV) (hcv : CVOk Try.prog CV) {w : World} {R : Ending → World → Prop} (h : sh_postroadref07_Of n0 arcs0 (fun r0 r1 w' => R (.returned (.agg #[(.int .i64 r0), (.slice r1.a r1.len r1.cap)])) w') w) : Calls Try.prog 10 #[(.int .i64 n0), (.slice arcs0.a arcs0.len arcs0.cap)] w R :=
  calls_is (cx := cx_postroadref06_Of.with CV) mixed_Try (cx_postroadref06_Of.ok.with CV) hcv Try.func10 sh_postroadref07_Of.plan (xs := [.v (.int .i64 n0), .v (.slice arcs0.a arcs0.len arcs0.cap)]) ((args_cons _ (args_cons _ args_nil))) (by kernel_rfl) (sh_postroadref07_Of.is CV n0 arcs0 w (fun v w' => R (.returned v) w')) h
def sh_postroadref07_Of.o : CVT → List X → (Value → World → Prop) → World → Prop
  | CV, [.v (.int .i64 n0), .v (.slice arcs0_a arcs0_l arcs0_c)], K, w => sh_postroadref07_Of n0 ⟨arcs0_a, arcs0_l, arcs0_c⟩ (fun r0 r1 w' => K (.agg #[(.int .i64 r0), (.slice r1.a r1.len r1.cap)]) w') w
  | _, _, _, _ => False
def sh_postroadref07_Of.q : CVT → List X → World → (Value → Prop) → Prop
  | CV, [.v (.int .i64 n0), .v (.slice arcs0_a arcs0_l arcs0_c)], w, K => Quiet (Int × SV) (fun r => (.agg #[(.int .i64 r.1), (.slice r.2.a r.2.len r.2.cap)])) (fun K1 w' => sh_postroadref07_Of n0 ⟨arcs0_a, arcs0_l, arcs0_c⟩ (fun r0 r1 w'' => K1 (r0, r1) w'') w') w (fun r => K (.agg #[(.int .i64 r.1), (.slice r.2.a r.2.len r.2.cap)]))
  | _, _, _, _ => False
noncomputable def cx_postroadref07_Of : Cx := Cx.add Try.prog cx_postroadref06_Of 10 sh_postroadref07_Of.o sh_postroadref07_Of.q
theorem cx_postroadref07_Of.ok : CxOk cx_postroadref07_Of := by
  refine CxOk.add cx_postroadref06_Of.ok rfl (fun CV hcv xs K w hx h => ?_) (fun CV hcv xs K w hx h => ?_)
  · unfold sh_postroadref07_Of.o at h; split at h
    · rename_i n0 arcs0_a arcs0_l arcs0_c; exact sh_postroadref07_Of.calls CV n0 ⟨arcs0_a, arcs0_l, arcs0_c⟩ hcv h
    · exact h.elim
  · unfold sh_postroadref07_Of.q at h; split at h
    · rename_i n0 arcs0_a arcs0_l arcs0_c; obtain ⟨r, h1, h2⟩ := h; exact ⟨_, h2, fun w' e => sh_postroadref07_Of.calls CV n0 ⟨arcs0_a, arcs0_l, arcs0_c⟩ hcv (h1 w' e)⟩
    · exact h.elim
def sh_gr_Check.plan : Plan := (.seq .o (.seq (.seq .o (.cond (.seq .o .o) .o)) (.seq (.seq .o (.cond (.seq .o .o) .o)) (.seq (.seq .o (.block (.loop [.slot 20 (.int .i64)] [] (.seq .o (.seq (.cond .o .o) (.seq (.block (.seq .o (.seq .o (.cond (.seq .o .o) .o)))) .o)))))) (.seq .o .o)))))
theorem sh_gr_Check.is (CV : CVT) (m0_N : Int) (m0_Arcs : SV) (w : World) (R : Value → World → Prop) : sh_gr_Check m0_N m0_Arcs (fun r0 w' => R (.int .i64 r0) w') w = denF (cx_postroadref07_Of.with CV) Try.f32 sh_gr_Check.plan [.v (.agg #[(.int .i64 m0_N), (.slice m0_Arcs.a m0_Arcs.len m0_Arcs.cap)])] w R := by kernel_rfl
theorem sh_gr_Check.calls (CV : CVT) (m0_N : Int) (m0_Arcs : SV) (hcv : CVOk Try.prog CV) {w : World} {R : Ending → World → Prop} (h : sh_gr_Check m0_N m0_Arcs (fun r0 w' => R (.returned (.int .i64 r0)) w') w) : Calls Try.prog 32 #[(.agg #[(.int .i64 m0_N), (.slice m0_Arcs.a m0_Arcs.len m0_Arcs.cap)])] w R :=
  calls_is (cx := cx_postroadref07_Of.with CV) mixed_Try (cx_postroadref07_Of.ok.with CV) hcv Try.func32 sh_gr_Check.plan (xs := [.v (.agg #[(.int .i64 m0_N), (.slice m0_Arcs.a m0_Arcs.len m0_Arcs.cap)])]) ((args_cons _ args_nil)) (by kernel_rfl) (sh_gr_Check.is CV m0_N m0_Arcs w (fun v w' => R (.returned v) w')) h
def sh_gr_Check.o : CVT → List X → (Value → World → Prop) → World → Prop
  | CV, [.v (.agg ⟨[.int .i64 m0_N, .slice m0_Arcs_a m0_Arcs_l m0_Arcs_c]⟩)], K, w => sh_gr_Check m0_N ⟨m0_Arcs_a, m0_Arcs_l, m0_Arcs_c⟩ (fun r0 w' => K (.int .i64 r0) w') w
  | _, _, _, _ => False
def sh_gr_Check.q : CVT → List X → World → (Value → Prop) → Prop
  | CV, [.v (.agg ⟨[.int .i64 m0_N, .slice m0_Arcs_a m0_Arcs_l m0_Arcs_c]⟩)], w, K => Quiet (Int) (fun r => (.int .i64 r)) (fun K1 w' => sh_gr_Check m0_N ⟨m0_Arcs_a, m0_Arcs_l, m0_Arcs_c⟩ (fun r0 w'' => K1 r0 w'') w') w (fun r => K (.int .i64 r))
  | _, _, _, _ => False
noncomputable def cx_gr_Check : Cx := Cx.add Try.prog cx_postroadref07_Of 32 sh_gr_Check.o sh_gr_Check.q
theorem cx_gr_Check.ok : CxOk cx_gr_Check := by
  refine CxOk.add cx_postroadref07_Of.ok rfl (fun CV hcv xs K w hx h => ?_) (fun CV hcv xs K w hx h => ?_)
  · unfold sh_gr_Check.o at h; split at h
    · rename_i m0_N m0_Arcs_a m0_Arcs_l m0_Arcs_c; exact sh_gr_Check.calls CV m0_N ⟨m0_Arcs_a, m0_Arcs_l, m0_Arcs_c⟩ hcv h
    · exact h.elim
  · unfold sh_gr_Check.q at h; split at h
    · rename_i m0_N m0_Arcs_a m0_Arcs_l m0_Arcs_c; obtain ⟨r, h1, h2⟩ := h; exact ⟨_, h2, fun w' e => sh_gr_Check.calls CV m0_N ⟨m0_Arcs_a, m0_Arcs_l, m0_Arcs_c⟩ hcv (h1 w' e)⟩
    · exact h.elim
def sh_graph_New_c1.plan : Plan := (.seq .o (.seq .o .o))
theorem sh_graph_New_c1.is (CV : CVT) (k0 : Int) (free1 : Addr) (w : World) (R : Value → World → Prop) : sh_graph_New_c1 k0 free1 (fun r0 w' => R (.int .i64 r0) w') w = denF (cx_gr_Check.with CV) Try.f33 sh_graph_New_c1.plan [.v (.int .i64 k0), .v (.pointer (some free1))] w R := by kernel_rfl
theorem sh_graph_New_c1.calls (CV : CVT) (k0 : Int) (free1 : Addr) (hcv : CVOk Try.prog CV) {w : World} {R : Ending → World → Prop} (h : sh_graph_New_c1 k0 free1 (fun r0 w' => R (.returned (.int .i64 r0)) w') w) : Calls Try.prog 33 #[(.int .i64 k0), (.pointer (some free1))] w R :=
  calls_is (cx := cx_gr_Check.with CV) mixed_Try (cx_gr_Check.ok.with CV) hcv Try.func33 sh_graph_New_c1.plan (xs := [.v (.int .i64 k0), .v (.pointer (some free1))]) ((args_cons _ (args_cons _ args_nil))) (by kernel_rfl) (sh_graph_New_c1.is CV k0 free1 w (fun v w' => R (.returned v) w')) h
def sh_graph_New_c1.o : CVT → List X → (Value → World → Prop) → World → Prop
  | CV, [.v (.int .i64 k0), .v (.pointer (some free1))], K, w => sh_graph_New_c1 k0 free1 (fun r0 w' => K (.int .i64 r0) w') w
  | _, _, _, _ => False
def sh_graph_New_c1.q : CVT → List X → World → (Value → Prop) → Prop
  | CV, [.v (.int .i64 k0), .v (.pointer (some free1))], w, K => Quiet (Int) (fun r => (.int .i64 r)) (fun K1 w' => sh_graph_New_c1 k0 free1 (fun r0 w'' => K1 r0 w'') w') w (fun r => K (.int .i64 r))
  | _, _, _, _ => False
noncomputable def cx_graph_New_c1 : Cx := Cx.add Try.prog cx_gr_Check 33 sh_graph_New_c1.o sh_graph_New_c1.q
theorem cx_graph_New_c1.ok : CxOk cx_graph_New_c1 := by
  refine CxOk.add cx_gr_Check.ok rfl (fun CV hcv xs K w hx h => ?_) (fun CV hcv xs K w hx h => ?_)
  · unfold sh_graph_New_c1.o at h; split at h
    · rename_i k0 free1; exact sh_graph_New_c1.calls CV k0 free1 hcv h
    · exact h.elim
  · unfold sh_graph_New_c1.q at h; split at h
    · rename_i k0 free1; obtain ⟨r, h1, h2⟩ := h; exact ⟨_, h2, fun w' e => sh_graph_New_c1.calls CV k0 free1 hcv (h1 w' e)⟩
    · exact h.elim
def sh_graph_New_c2.plan : Plan := (.seq .o (.seq .o .o))
theorem sh_graph_New_c2.is (CV : CVT) (k0 : Int) (free1 : Addr) (w : World) (R : Value → World → Prop) : sh_graph_New_c2 k0 free1 (fun r0 w' => R (.int .i64 r0) w') w = denF (cx_graph_New_c1.with CV) Try.f34 sh_graph_New_c2.plan [.v (.int .i64 k0), .v (.pointer (some free1))] w R := by kernel_rfl
theorem sh_graph_New_c2.calls (CV : CVT) (k0 : Int) (free1 : Addr) (hcv : CVOk Try.prog CV) {w : World} {R : Ending → World → Prop} (h : sh_graph_New_c2 k0 free1 (fun r0 w' => R (.returned (.int .i64 r0)) w') w) : Calls Try.prog 34 #[(.int .i64 k0), (.pointer (some free1))] w R :=
  calls_is (cx := cx_graph_New_c1.with CV) mixed_Try (cx_graph_New_c1.ok.with CV) hcv Try.func34 sh_graph_New_c2.plan (xs := [.v (.int .i64 k0), .v (.pointer (some free1))]) ((args_cons _ (args_cons _ args_nil))) (by kernel_rfl) (sh_graph_New_c2.is CV k0 free1 w (fun v w' => R (.returned v) w')) h
def sh_graph_New_c2.o : CVT → List X → (Value → World → Prop) → World → Prop
  | CV, [.v (.int .i64 k0), .v (.pointer (some free1))], K, w => sh_graph_New_c2 k0 free1 (fun r0 w' => K (.int .i64 r0) w') w
  | _, _, _, _ => False
def sh_graph_New_c2.q : CVT → List X → World → (Value → Prop) → Prop
  | CV, [.v (.int .i64 k0), .v (.pointer (some free1))], w, K => Quiet (Int) (fun r => (.int .i64 r)) (fun K1 w' => sh_graph_New_c2 k0 free1 (fun r0 w'' => K1 r0 w'') w') w (fun r => K (.int .i64 r))
  | _, _, _, _ => False
noncomputable def cx_graph_New_c2 : Cx := Cx.add Try.prog cx_graph_New_c1 34 sh_graph_New_c2.o sh_graph_New_c2.q
theorem cx_graph_New_c2.ok : CxOk cx_graph_New_c2 := by
  refine CxOk.add cx_graph_New_c1.ok rfl (fun CV hcv xs K w hx h => ?_) (fun CV hcv xs K w hx h => ?_)
  · unfold sh_graph_New_c2.o at h; split at h
    · rename_i k0 free1; exact sh_graph_New_c2.calls CV k0 free1 hcv h
    · exact h.elim
  · unfold sh_graph_New_c2.q at h; split at h
    · rename_i k0 free1; obtain ⟨r, h1, h2⟩ := h; exact ⟨_, h2, fun w' e => sh_graph_New_c2.calls CV k0 free1 hcv (h1 w' e)⟩
    · exact h.elim
def sh_graph_numbers_Arc_c1.plan : Plan := (.seq .o (.block (.loop [.slot 8 (.int .i64)] [] (.seq .o (.seq (.cond .o .o) (.seq (.block (.seq .o (.seq .o (.cond .o .o)))) .o))))))
theorem sh_graph_numbers_Arc_c1.is (CV : CVT) (v0 : Value) (E0 : List Value → (Bool → World → Prop) → World → Prop) (free1 : Addr) (free2 : Addr) (w : World) (R : Value → World → Prop) : sh_graph_numbers_Arc_c1 CV (fun a0 Ky wy => E0 [(.int .i64 a0)] Ky wy) free1 free2 (fun w' => R (.tuple #[]) w') w = denF (cx_graph_New_c2.with CV) Try.f48 sh_graph_numbers_Arc_c1.plan [.yl v0 E0, .v (.pointer (some free1)), .v (.pointer (some free2))] w R := by kernel_rfl
theorem sh_graph_numbers_Arc_c1.calls (CV : CVT) (v0 : Value) (E0 : List Value → (Bool → World → Prop) → World → Prop) (free1 : Addr) (free2 : Addr) (hx : ∀ x ∈ [.yl v0 E0, .v (.pointer (some free1)), .v (.pointer (some free2))], ArgOk Try.prog x) (hcv : CVOk Try.prog CV) {w : World} {R : Ending → World → Prop} (h : sh_graph_numbers_Arc_c1 CV (fun a0 Ky wy => E0 [(.int .i64 a0)] Ky wy) free1 free2 (fun w' => R (.returned (.tuple #[])) w') w) : Calls Try.prog 48 #[v0, (.pointer (some free1)), (.pointer (some free2))] w R :=
  calls_is (cx := cx_graph_New_c2.with CV) mixed_Try (cx_graph_New_c2.ok.with CV) hcv Try.func48 sh_graph_numbers_Arc_c1.plan (xs := [.yl v0 E0, .v (.pointer (some free1)), .v (.pointer (some free2))]) hx (by kernel_rfl) (sh_graph_numbers_Arc_c1.is CV v0 E0 free1 free2 w (fun v w' => R (.returned v) w')) h
def sh_graph_numbers_Arc_c1.o : CVT → List X → (Value → World → Prop) → World → Prop
  | CV, [.yl v0 E0, .v (.pointer (some free1)), .v (.pointer (some free2))], K, w => sh_graph_numbers_Arc_c1 CV (fun a0 Ky wy => E0 [(.int .i64 a0)] Ky wy) free1 free2 (fun w' => K (.tuple #[]) w') w
  | _, _, _, _ => False
def sh_graph_numbers_Arc_c1.q : CVT → List X → World → (Value → Prop) → Prop := fun _ _ _ _ => False
noncomputable def cx_graph_numbers_Arc_c1 : Cx := Cx.add Try.prog cx_graph_New_c2 48 sh_graph_numbers_Arc_c1.o sh_graph_numbers_Arc_c1.q
theorem cx_graph_numbers_Arc_c1.ok : CxOk cx_graph_numbers_Arc_c1 := by
  refine CxOk.add cx_graph_New_c2.ok rfl (fun CV hcv xs K w hx h => ?_) (fun CV hcv xs K w hx h => ?_)
  · unfold sh_graph_numbers_Arc_c1.o at h; split at h
    · rename_i v0 E0 free1 free2; exact sh_graph_numbers_Arc_c1.calls CV v0 E0 free1 free2 hx hcv h
    · exact h.elim
  · unfold sh_graph_numbers_Arc_c1.q at h; exact h.elim
def sh_graph_numbers_Arc.plan : Plan := (.seq .o (.seq .o .o))
noncomputable def sh_graph_numbers_Arc.o (CV : CVT) (xs : List X) (K : Value → World → Prop) (w : World) : Prop := match Nat.ble xs.length Try.f35.ntmps with | true => denF (cx_graph_numbers_Arc_c1.with CV) Try.f35 sh_graph_numbers_Arc.plan xs w K | false => False
noncomputable def cx_graph_numbers_Arc : Cx := Cx.add Try.prog cx_graph_numbers_Arc_c1 35 sh_graph_numbers_Arc.o (fun _ _ _ _ => False)
theorem cx_graph_numbers_Arc.ok : CxOk cx_graph_numbers_Arc := by
  refine CxOk.add cx_graph_numbers_Arc_c1.ok rfl (fun CV hcv xs K w hx h => ?_) (fun CV hcv xs K w hx h => h.elim)
  unfold sh_graph_numbers_Arc.o at h; split at h
  · rename_i hb; exact calls_den (cx := cx_graph_numbers_Arc_c1.with CV) mixed_Try (cx_graph_numbers_Arc_c1.ok.with CV) hcv Try.func35 sh_graph_numbers_Arc.plan hx (Nat.le_of_ble_eq_true hb) h
  · exact h.elim
def sh_graph_New_c3.plan : Plan := (.seq .o (.seq .o .o))
theorem sh_graph_New_c3.is (CV : CVT) (arg0_0 : Int) (a0_From : Int) (a0_To : Int) (a0_W : Int) (w : World) (R : Value → World → Prop) : sh_graph_New_c3 arg0_0 a0_From a0_To a0_W (fun r0 w' => R (.bool r0) w') w = denF (cx_graph_numbers_Arc.with CV) Try.f36 sh_graph_New_c3.plan [.v (.int .i64 arg0_0), .v (.agg #[(.int .i64 a0_From), (.int .i64 a0_To), (.int .i64 a0_W)])] w R := by kernel_rfl
theorem sh_graph_New_c3.calls (CV : CVT) (arg0_0 : Int) (a0_From : Int) (a0_To : Int) (a0_W : Int) (hcv : CVOk Try.prog CV) {w : World} {R : Ending → World → Prop} (h : sh_graph_New_c3 arg0_0 a0_From a0_To a0_W (fun r0 w' => R (.returned (.bool r0)) w') w) : Calls Try.prog 36 #[(.int .i64 arg0_0), (.agg #[(.int .i64 a0_From), (.int .i64 a0_To), (.int .i64 a0_W)])] w R :=
  calls_is (cx := cx_graph_numbers_Arc.with CV) mixed_Try (cx_graph_numbers_Arc.ok.with CV) hcv Try.func36 sh_graph_New_c3.plan (xs := [.v (.int .i64 arg0_0), .v (.agg #[(.int .i64 a0_From), (.int .i64 a0_To), (.int .i64 a0_W)])]) ((args_cons _ (args_cons _ args_nil))) (by kernel_rfl) (sh_graph_New_c3.is CV arg0_0 a0_From a0_To a0_W w (fun v w' => R (.returned v) w')) h
def sh_graph_New_c3.o : CVT → List X → (Value → World → Prop) → World → Prop
  | CV, [.v (.int .i64 arg0_0), .v (.agg ⟨[.int .i64 a0_From, .int .i64 a0_To, .int .i64 a0_W]⟩)], K, w => sh_graph_New_c3 arg0_0 a0_From a0_To a0_W (fun r0 w' => K (.bool r0) w') w
  | _, _, _, _ => False
def sh_graph_New_c3.q : CVT → List X → World → (Value → Prop) → Prop
  | CV, [.v (.int .i64 arg0_0), .v (.agg ⟨[.int .i64 a0_From, .int .i64 a0_To, .int .i64 a0_W]⟩)], w, K => Quiet (Bool) (fun r => (.bool r)) (fun K1 w' => sh_graph_New_c3 arg0_0 a0_From a0_To a0_W (fun r0 w'' => K1 r0 w'') w') w (fun r => K (.bool r))
  | _, _, _, _ => False
noncomputable def cx_graph_New_c3 : Cx := Cx.add Try.prog cx_graph_numbers_Arc 36 sh_graph_New_c3.o sh_graph_New_c3.q
theorem cx_graph_New_c3.ok : CxOk cx_graph_New_c3 := by
  refine CxOk.add cx_graph_numbers_Arc.ok rfl (fun CV hcv xs K w hx h => ?_) (fun CV hcv xs K w hx h => ?_)
  · unfold sh_graph_New_c3.o at h; split at h
    · rename_i arg0_0 a0_From a0_To a0_W; exact sh_graph_New_c3.calls CV arg0_0 a0_From a0_To a0_W hcv h
    · exact h.elim
  · unfold sh_graph_New_c3.q at h; split at h
    · rename_i arg0_0 a0_From a0_To a0_W; obtain ⟨r, h1, h2⟩ := h; exact ⟨_, h2, fun w' e => sh_graph_New_c3.calls CV arg0_0 a0_From a0_To a0_W hcv (h1 w' e)⟩
    · exact h.elim
def sh_graph_sorted.plan : Plan := (.seq .o (.seq .o (.join [] [] (.seq .o (.block (.loop [.slot 19 (.int .i64)] [] (.seq .o (.seq (.cond .o .o) (.seq (.block (.seq .o .o)) .o)))))) (.join [] [] (.seq .o (.block (.loop [.slot 34 (.int .i64)] [] (.seq .o (.seq (.cond .o .o) (.seq (.block (.seq .o (.draw [] [.pure, .pure, .pure, .pure, .quiet, .pure, .pure, .pure, .quiet, .pure, .pure, .big] [0, 1, 2, 3, 4, 5, 6, 7, 8, 9, 10, 11]))) .o)))))) (.seq .o (.seq (.seq .o (.block (.loop [.slot 54 (.int .i64)] [] (.seq .o (.seq (.cond .o .o) (.seq (.block (.seq .o (.seq .o .o))) .o)))))) (.seq .o .o)))))))
theorem sh_graph_sorted.is (CV : CVT) (n0 : Int) (l0 : SV) (end_0 : Value) (w : World) (R : Value → World → Prop) : sh_graph_sorted CV n0 l0 end_0 (fun r0 w' => R (.slice r0.a r0.len r0.cap) w') w = denF (cx_graph_New_c3.with CV) Try.f37 sh_graph_sorted.plan [.v (.int .i64 n0), .v (.slice l0.a l0.len l0.cap), .v end_0] w R := by kernel_rfl
theorem sh_graph_sorted.calls (CV : CVT) (n0 : Int) (l0 : SV) (end_0 : Value) (hcv : CVOk Try.prog CV) {w : World} {R : Ending → World → Prop} (h : sh_graph_sorted CV n0 l0 end_0 (fun r0 w' => R (.returned (.slice r0.a r0.len r0.cap)) w') w) : Calls Try.prog 37 #[(.int .i64 n0), (.slice l0.a l0.len l0.cap), end_0] w R :=
  calls_is (cx := cx_graph_New_c3.with CV) mixed_Try (cx_graph_New_c3.ok.with CV) hcv Try.func37 sh_graph_sorted.plan (xs := [.v (.int .i64 n0), .v (.slice l0.a l0.len l0.cap), .v end_0]) ((args_cons _ (args_cons _ (args_cons _ args_nil)))) (by kernel_rfl) (sh_graph_sorted.is CV n0 l0 end_0 w (fun v w' => R (.returned v) w')) h
def sh_graph_sorted.o : CVT → List X → (Value → World → Prop) → World → Prop
  | CV, [.v (.int .i64 n0), .v (.slice l0_a l0_l l0_c), .v (end_0)], K, w => sh_graph_sorted CV n0 ⟨l0_a, l0_l, l0_c⟩ end_0 (fun r0 w' => K (.slice r0.a r0.len r0.cap) w') w
  | _, _, _, _ => False
def sh_graph_sorted.q : CVT → List X → World → (Value → Prop) → Prop
  | CV, [.v (.int .i64 n0), .v (.slice l0_a l0_l l0_c), .v (end_0)], w, K => Quiet (SV) (fun r => (.slice r.a r.len r.cap)) (fun K1 w' => sh_graph_sorted CV n0 ⟨l0_a, l0_l, l0_c⟩ end_0 (fun r0 w'' => K1 r0 w'') w') w (fun r => K (.slice r.a r.len r.cap))
  | _, _, _, _ => False
noncomputable def cx_graph_sorted : Cx := Cx.add Try.prog cx_graph_New_c3 37 sh_graph_sorted.o sh_graph_sorted.q
theorem cx_graph_sorted.ok : CxOk cx_graph_sorted := by
  refine CxOk.add cx_graph_New_c3.ok rfl (fun CV hcv xs K w hx h => ?_) (fun CV hcv xs K w hx h => ?_)
  · unfold sh_graph_sorted.o at h; split at h
    · rename_i n0 l0_a l0_l l0_c end_0; exact sh_graph_sorted.calls CV n0 ⟨l0_a, l0_l, l0_c⟩ end_0 hcv h
    · exact h.elim
  · unfold sh_graph_sorted.q at h; split at h
    · rename_i n0 l0_a l0_l l0_c end_0; obtain ⟨r, h1, h2⟩ := h; exact ⟨_, h2, fun w' e => sh_graph_sorted.calls CV n0 ⟨l0_a, l0_l, l0_c⟩ end_0 hcv (h1 w' e)⟩
    · exact h.elim
def sh_graph_better.plan : Plan := (.seq .o (.seq (.draw [] [.pure, .loc, .pure, .pure, .pure, .quiet, .pure, .loc, .pure, .pure, .pure, .quiet, .pure, .pure] [0, 1, 2, 3, 4, 5, 6, 7, 8, 9, 10, 11, 12, 13]) .o))
theorem sh_graph_better.is (CV : CVT) (m0_N : Int) (m0_Arcs : SV) (a0 : Int) (b0 : Int) (w : World) (R : Value → World → Prop) : sh_graph_better m0_N m0_Arcs a0 b0 (fun r0 w' => R (.bool r0) w') w = denF (cx_graph_sorted.with CV) Try.f38 sh_graph_better.plan [.v (.agg #[(.int .i64 m0_N), (.slice m0_Arcs.a m0_Arcs.len m0_Arcs.cap)]), .v (.int .i64 a0), .v (.int .i64 b0)] w R := by kernel_rfl
theorem sh_graph_better.calls (CV : CVT) (m0_N : Int) (m0_Arcs : SV) (a0 : Int) (b0 : Int) (hcv : CVOk Try.prog CV) {w : World} {R : Ending → World → Prop} (h : sh_graph_better m0_N m0_Arcs a0 b0 (fun r0 w' => R (.returned (.bool r0)) w') w) : Calls Try.prog 38 #[(.agg #[(.int .i64 m0_N), (.slice m0_Arcs.a m0_Arcs.len m0_Arcs.cap)]), (.int .i64 a0), (.int .i64 b0)] w R :=
  calls_is (cx := cx_graph_sorted.with CV) mixed_Try (cx_graph_sorted.ok.with CV) hcv Try.func38 sh_graph_better.plan (xs := [.v (.agg #[(.int .i64 m0_N), (.slice m0_Arcs.a m0_Arcs.len m0_Arcs.cap)]), .v (.int .i64 a0), .v (.int .i64 b0)]) ((args_cons _ (args_cons _ (args_cons _ args_nil)))) (by kernel_rfl) (sh_graph_better.is CV m0_N m0_Arcs a0 b0 w (fun v w' => R (.returned v) w')) h
def sh_graph_better.o : CVT → List X → (Value → World → Prop) → World → Prop
  | CV, [.v (.agg ⟨[.int .i64 m0_N, .slice m0_Arcs_a m0_Arcs_l m0_Arcs_c]⟩), .v (.int .i64 a0), .v (.int .i64 b0)], K, w => sh_graph_better m0_N ⟨m0_Arcs_a, m0_Arcs_l, m0_Arcs_c⟩ a0 b0 (fun r0 w' => K (.bool r0) w') w
  | _, _, _, _ => False
def sh_graph_better.q : CVT → List X → World → (Value → Prop) → Prop
  | CV, [.v (.agg ⟨[.int .i64 m0_N, .slice m0_Arcs_a m0_Arcs_l m0_Arcs_c]⟩), .v (.int .i64 a0), .v (.int .i64 b0)], w, K => Quiet (Bool) (fun r => (.bool r)) (fun K1 w' => sh_graph_better m0_N ⟨m0_Arcs_a, m0_Arcs_l, m0_Arcs_c⟩ a0 b0 (fun r0 w'' => K1 r0 w'') w') w (fun r => K (.bool r))
  | _, _, _, _ => False
noncomputable def cx_graph_better : Cx := Cx.add Try.prog cx_graph_sorted 38 sh_graph_better.o sh_graph_better.q
theorem cx_graph_better.ok : CxOk cx_graph_better := by
  refine CxOk.add cx_graph_sorted.ok rfl (fun CV hcv xs K w hx h => ?_) (fun CV hcv xs K w hx h => ?_)
  · unfold sh_graph_better.o at h; split at h
    · rename_i m0_N m0_Arcs_a m0_Arcs_l m0_Arcs_c a0 b0; exact sh_graph_better.calls CV m0_N ⟨m0_Arcs_a, m0_Arcs_l, m0_Arcs_c⟩ a0 b0 hcv h
    · exact h.elim
  · unfold sh_graph_better.q at h; split at h
    · rename_i m0_N m0_Arcs_a m0_Arcs_l m0_Arcs_c a0 b0; obtain ⟨r, h1, h2⟩ := h; exact ⟨_, h2, fun w' e => sh_graph_better.calls CV m0_N ⟨m0_Arcs_a, m0_Arcs_l, m0_Arcs_c⟩ a0 b0 hcv (h1 w' e)⟩
    · exact h.elim
def sh_graph_numbers_bool_c1.plan : Plan := (.seq .o (.block (.loop [.slot 8 (.int .i64)] [] (.seq .o (.seq (.cond .o .o) (.seq (.block (.seq .o (.seq .o (.cond .o .o)))) .o))))))
theorem sh_graph_numbers_bool_c1.is (CV : CVT) (v0 : Value) (E0 : List Value → (Bool → World → Prop) → World → Prop) (free1 : Addr) (free2 : Addr) (w : World) (R : Value → World → Prop) : sh_graph_numbers_bool_c1 CV (fun a0 Ky wy => E0 [(.int .i64 a0)] Ky wy) free1 free2 (fun w' => R (.tuple #[]) w') w = denF (cx_graph_better.with CV) Try.f55 sh_graph_numbers_bool_c1.plan [.yl v0 E0, .v (.pointer (some free1)), .v (.pointer (some free2))] w R := by kernel_rfl
theorem sh_graph_numbers_bool_c1.calls (CV : CVT) (v0 : Value) (E0 : List Value → (Bool → World → Prop) → World → Prop) (free1 : Addr) (free2 : Addr) (hx : ∀ x ∈ [.yl v0 E0, .v (.pointer (some free1)), .v (.pointer (some free2))], ArgOk Try.prog x) (hcv : CVOk Try.prog CV) {w : World} {R : Ending → World → Prop} (h : sh_graph_numbers_bool_c1 CV (fun a0 Ky wy => E0 [(.int .i64 a0)] Ky wy) free1 free2 (fun w' => R (.returned (.tuple #[])) w') w) : Calls Try.prog 55 #[v0, (.pointer (some free1)), (.pointer (some free2))] w R :=
  calls_is (cx := cx_graph_better.with CV) mixed_Try (cx_graph_better.ok.with CV) hcv Try.func55 sh_graph_numbers_bool_c1.plan (xs := [.yl v0 E0, .v (.pointer (some free1)), .v (.pointer (some free2))]) hx (by kernel_rfl) (sh_graph_numbers_bool_c1.is CV v0 E0 free1 free2 w (fun v w' => R (.returned v) w')) h
def sh_graph_numbers_bool_c1.o : CVT → List X → (Value → World → Prop) → World → Prop
  | CV, [.yl v0 E0, .v (.pointer (some free1)), .v (.pointer (some free2))], K, w => sh_graph_numbers_bool_c1 CV (fun a0 Ky wy => E0 [(.int .i64 a0)] Ky wy) free1 free2 (fun w' => K (.tuple #[]) w') w
  | _, _, _, _ => False
def sh_graph_numbers_bool_c1.q : CVT → List X → World → (Value → Prop) → Prop := fun _ _ _ _ => False
noncomputable def cx_graph_numbers_bool_c1 : Cx := Cx.add Try.prog cx_graph_better 55 sh_graph_numbers_bool_c1.o sh_graph_numbers_bool_c1.q
theorem cx_graph_numbers_bool_c1.ok : CxOk cx_graph_numbers_bool_c1 := by
  refine CxOk.add cx_graph_better.ok rfl (fun CV hcv xs K w hx h => ?_) (fun CV hcv xs K w hx h => ?_)
  · unfold sh_graph_numbers_bool_c1.o at h; split at h
    · rename_i v0 E0 free1 free2; exact sh_graph_numbers_bool_c1.calls CV v0 E0 free1 free2 hx hcv h
    · exact h.elim
  · unfold sh_graph_numbers_bool_c1.q at h; exact h.elim
def sh_graph_numbers_bool.plan : Plan := (.seq .o (.seq .o .o))
noncomputable def sh_graph_numbers_bool.o (CV : CVT) (xs : List X) (K : Value → World → Prop) (w : World) : Prop := match Nat.ble xs.length Try.f49.ntmps with | true => denF (cx_graph_numbers_bool_c1.with CV) Try.f49 sh_graph_numbers_bool.plan xs w K | false => False
noncomputable def cx_graph_numbers_bool : Cx := Cx.add Try.prog cx_graph_numbers_bool_c1 49 sh_graph_numbers_bool.o (fun _ _ _ _ => False)
theorem cx_graph_numbers_bool.ok : CxOk cx_graph_numbers_bool := by
  refine CxOk.add cx_graph_numbers_bool_c1.ok rfl (fun CV hcv xs K w hx h => ?_) (fun CV hcv xs K w hx h => h.elim)
  unfold sh_graph_numbers_bool.o at h; split at h
  · rename_i hb; exact calls_den (cx := cx_graph_numbers_bool_c1.with CV) mixed_Try (cx_graph_numbers_bool_c1.ok.with CV) hcv Try.func49 sh_graph_numbers_bool.plan hx (Nat.le_of_ble_eq_true hb) h
  · exact h.elim
def sh_graph_Graph_Kept_c1.plan : Plan := (.seq .o (.seq .o .o))
theorem sh_graph_Graph_Kept_c1.is (CV : CVT) (arg0_0 : Int) (is0 : Bool) (w : World) (R : Value → World → Prop) : sh_graph_Graph_Kept_c1 arg0_0 is0 (fun r0 w' => R (.bool r0) w') w = denF (cx_graph_numbers_bool.with CV) Try.f50 sh_graph_Graph_Kept_c1.plan [.v (.int .i64 arg0_0), .v (.bool is0)] w R := by kernel_rfl
theorem sh_graph_Graph_Kept_c1.calls (CV : CVT) (arg0_0 : Int) (is0 : Bool) (hcv : CVOk Try.prog CV) {w : World} {R : Ending → World → Prop} (h : sh_graph_Graph_Kept_c1 arg0_0 is0 (fun r0 w' => R (.returned (.bool r0)) w') w) : Calls Try.prog 50 #[(.int .i64 arg0_0), (.bool is0)] w R :=
  calls_is (cx := cx_graph_numbers_bool.with CV) mixed_Try (cx_graph_numbers_bool.ok.with CV) hcv Try.func50 sh_graph_Graph_Kept_c1.plan (xs := [.v (.int .i64 arg0_0), .v (.bool is0)]) ((args_cons _ (args_cons _ args_nil))) (by kernel_rfl) (sh_graph_Graph_Kept_c1.is CV arg0_0 is0 w (fun v w' => R (.returned v) w')) h
def sh_graph_Graph_Kept_c1.o : CVT → List X → (Value → World → Prop) → World → Prop
  | CV, [.v (.int .i64 arg0_0), .v (.bool is0)], K, w => sh_graph_Graph_Kept_c1 arg0_0 is0 (fun r0 w' => K (.bool r0) w') w
  | _, _, _, _ => False
def sh_graph_Graph_Kept_c1.q : CVT → List X → World → (Value → Prop) → Prop
  | CV, [.v (.int .i64 arg0_0), .v (.bool is0)], w, K => Quiet (Bool) (fun r => (.bool r)) (fun K1 w' => sh_graph_Graph_Kept_c1 arg0_0 is0 (fun r0 w'' => K1 r0 w'') w') w (fun r => K (.bool r))
  | _, _, _, _ => False
noncomputable def cx_graph_Graph_Kept_c1 : Cx := Cx.add Try.prog cx_graph_numbers_bool 50 sh_graph_Graph_Kept_c1.o sh_graph_Graph_Kept_c1.q
theorem cx_graph_Graph_Kept_c1.ok : CxOk cx_graph_Graph_Kept_c1 := by
  refine CxOk.add cx_graph_numbers_bool.ok rfl (fun CV hcv xs K w hx h => ?_) (fun CV hcv xs K w hx h => ?_)
  · unfold sh_graph_Graph_Kept_c1.o at h; split at h
    · rename_i arg0_0 is0; exact sh_graph_Graph_Kept_c1.calls CV arg0_0 is0 hcv h
    · exact h.elim
  · unfold sh_graph_Graph_Kept_c1.q at h; split at h
    · rename_i arg0_0 is0; obtain ⟨r, h1, h2⟩ := h; exact ⟨_, h2, fun w' e => sh_graph_Graph_Kept_c1.calls CV arg0_0 is0 hcv (h1 w' e)⟩
    · exact h.elim
def sh_graph_Graph_Kept.plan : Plan := (.seq .o (.seq .o (.seq (.seq .o (.cond (.seq .o .o) .o)) (.seq (.seq .o (.block (.rng [3] [] .o (.block .o)))) (.seq .o .o)))))
theorem sh_graph_Graph_Kept.is (CV : CVT) (g0 : Option Addr) (w : World) (R : Value → World → Prop) : sh_graph_Graph_Kept CV g0 (fun r0 w' => R (.slice r0.a r0.len r0.cap) w') w = denF (cx_graph_Graph_Kept_c1.with CV) Try.f39 sh_graph_Graph_Kept.plan [.v (.pointer g0)] w R := by kernel_rfl
theorem sh_graph_Graph_Kept.calls (CV : CVT) (g0 : Option Addr) (hcv : CVOk Try.prog CV) {w : World} {R : Ending → World → Prop} (h : sh_graph_Graph_Kept CV g0 (fun r0 w' => R (.returned (.slice r0.a r0.len r0.cap)) w') w) : Calls Try.prog 39 #[(.pointer g0)] w R :=
  calls_is (cx := cx_graph_Graph_Kept_c1.with CV) mixed_Try (cx_graph_Graph_Kept_c1.ok.with CV) hcv Try.func39 sh_graph_Graph_Kept.plan (xs := [.v (.pointer g0)]) ((args_cons _ args_nil)) (by kernel_rfl) (sh_graph_Graph_Kept.is CV g0 w (fun v w' => R (.returned v) w')) h
def sh_graph_Graph_Kept.o : CVT → List X → (Value → World → Prop) → World → Prop
  | CV, [.v (.pointer g0)], K, w => sh_graph_Graph_Kept CV g0 (fun r0 w' => K (.slice r0.a r0.len r0.cap) w') w
  | _, _, _, _ => False
def sh_graph_Graph_Kept.q : CVT → List X → World → (Value → Prop) → Prop
  | CV, [.v (.pointer g0)], w, K => Quiet (SV) (fun r => (.slice r.a r.len r.cap)) (fun K1 w' => sh_graph_Graph_Kept CV g0 (fun r0 w'' => K1 r0 w'') w') w (fun r => K (.slice r.a r.len r.cap))
  | _, _, _, _ => False
noncomputable def cx_graph_Graph_Kept : Cx := Cx.add Try.prog cx_graph_Graph_Kept_c1 39 sh_graph_Graph_Kept.o sh_graph_Graph_Kept.q
theorem cx_graph_Graph_Kept.ok : CxOk cx_graph_Graph_Kept := by
  refine CxOk.add cx_graph_Graph_Kept_c1.ok rfl (fun CV hcv xs K w hx h => ?_) (fun CV hcv xs K w hx h => ?_)
  · unfold sh_graph_Graph_Kept.o at h; split at h
    · rename_i g0; exact sh_graph_Graph_Kept.calls CV g0 hcv h
    · exact h.elim
  · unfold sh_graph_Graph_Kept.q at h; split at h
    · rename_i g0; obtain ⟨r, h1, h2⟩ := h; exact ⟨_, h2, fun w' e => sh_graph_Graph_Kept.calls CV g0 hcv (h1 w' e)⟩
    · exact h.elim
def sh_graph_lay.plan : Plan := (.seq .o (.seq .o (.join [.box 9 [.slice, .slice]] [] (.seq (.draw [] [.pure, .rd, .pure, .loc, .pure, .pure, .big, .pure, .big, .pure, .pure] [0, 1, 2, 3, 4, 5, 7, 10, 6, 8, 9]) (.block (.loop [.slot 28 (.int .i64), .box 9 [.slice, .slice]] [] (.seq .o (.seq (.cond .o .o) (.seq (.block (.seq .o (.seq (.draw [] [.pure, .rd, .pure, .pure, .big, .pure, .rd, .pure, .pure, .pure, .rd, .pure, .pure, .new, .big, .pure, .big] [0, 1, 2, 3, 5, 6, 7, 8, 9, 10, 11, 4, 12, 13, 14, 15, 16]) (.draw [] [.pure, .rd, .pure, .pure, .big, .pure, .pure, .quiet, .pure, .pure, .big] [0, 1, 2, 3, 4, 5, 6, 7, 8, 9, 10])))) .o)))))) (.join [] [] (.seq .o (.block (.loop [.slot 61 (.int .i64)] [] (.seq .o (.seq (.cond .o .o) (.seq (.block (.seq .o (.draw [] [.pure, .loc, .pure, .pure, .pure, .quiet, .pure, .loc, .pure, .pure, .quiet, .pure, .pure, .big] [0, 1, 2, 3, 4, 5, 6, 7, 8, 9, 10, 11, 12, 13]))) .o)))))) (.seq .o .o)))))
theorem sh_graph_lay.is (CV : CVT) (m0_N : Int) (m0_Arcs : SV) (l0 : SV) (from_0 : Value) (to_0 : Value) (w : World) (R : Value → World → Prop) : sh_graph_lay CV m0_N m0_Arcs l0 from_0 to_0 (fun r0 r1 w' => R (.agg #[(.slice r0.a r0.len r0.cap), (.slice r1.a r1.len r1.cap)]) w') w = denF (cx_graph_Graph_Kept.with CV) Try.f40 sh_graph_lay.plan [.v (.agg #[(.int .i64 m0_N), (.slice m0_Arcs.a m0_Arcs.len m0_Arcs.cap)]), .v (.slice l0.a l0.len l0.cap), .v from_0, .v to_0] w R := by kernel_rfl
theorem sh_graph_lay.calls (CV : CVT) (m0_N : Int) (m0_Arcs : SV) (l0 : SV) (from_0 : Value) (to_0 : Value) (hcv : CVOk Try.prog CV) {w : World} {R : Ending → World → Prop} (h : sh_graph_lay CV m0_N m0_Arcs l0 from_0 to_0 (fun r0 r1 w' => R (.returned (.agg #[(.slice r0.a r0.len r0.cap), (.slice r1.a r1.len r1.cap)])) w') w) : Calls Try.prog 40 #[(.agg #[(.int .i64 m0_N), (.slice m0_Arcs.a m0_Arcs.len m0_Arcs.cap)]), (.slice l0.a l0.len l0.cap), from_0, to_0] w R :=
  calls_is (cx := cx_graph_Graph_Kept.with CV) mixed_Try (cx_graph_Graph_Kept.ok.with CV) hcv Try.func40 sh_graph_lay.plan (xs := [.v (.agg #[(.int .i64 m0_N), (.slice m0_Arcs.a m0_Arcs.len m0_Arcs.cap)]), .v (.slice l0.a l0.len l0.cap), .v from_0, .v to_0]) ((args_cons _ (args_cons _ (args_cons _ (args_cons _ args_nil))))) (by kernel_rfl) (sh_graph_lay.is CV m0_N m0_Arcs l0 from_0 to_0 w (fun v w' => R (.returned v) w')) h
def sh_graph_lay.o : CVT → List X → (Value → World → Prop) → World → Prop
  | CV, [.v (.agg ⟨[.int .i64 m0_N, .slice m0_Arcs_a m0_Arcs_l m0_Arcs_c]⟩), .v (.slice l0_a l0_l l0_c), .v (from_0), .v (to_0)], K, w => sh_graph_lay CV m0_N ⟨m0_Arcs_a, m0_Arcs_l, m0_Arcs_c⟩ ⟨l0_a, l0_l, l0_c⟩ from_0 to_0 (fun r0 r1 w' => K (.agg #[(.slice r0.a r0.len r0.cap), (.slice r1.a r1.len r1.cap)]) w') w
  | _, _, _, _ => False
def sh_graph_lay.q : CVT → List X → World → (Value → Prop) → Prop
  | CV, [.v (.agg ⟨[.int .i64 m0_N, .slice m0_Arcs_a m0_Arcs_l m0_Arcs_c]⟩), .v (.slice l0_a l0_l l0_c), .v (from_0), .v (to_0)], w, K => Quiet (SV × SV) (fun r => (.agg #[(.slice r.1.a r.1.len r.1.cap), (.slice r.2.a r.2.len r.2.cap)])) (fun K1 w' => sh_graph_lay CV m0_N ⟨m0_Arcs_a, m0_Arcs_l, m0_Arcs_c⟩ ⟨l0_a, l0_l, l0_c⟩ from_0 to_0 (fun r0 r1 w'' => K1 (r0, r1) w'') w') w (fun r => K (.agg #[(.slice r.1.a r.1.len r.1.cap), (.slice r.2.a r.2.len r.2.cap)]))
  | _, _, _, _ => False
noncomputable def cx_graph_lay : Cx := Cx.add Try.prog cx_graph_Graph_Kept 40 sh_graph_lay.o sh_graph_lay.q
theorem cx_graph_lay.ok : CxOk cx_graph_lay := by
  refine CxOk.add cx_graph_Graph_Kept.ok rfl (fun CV hcv xs K w hx h => ?_) (fun CV hcv xs K w hx h => ?_)
  · unfold sh_graph_lay.o at h; split at h
    · rename_i m0_N m0_Arcs_a m0_Arcs_l m0_Arcs_c l0_a l0_l l0_c from_0 to_0; exact sh_graph_lay.calls CV m0_N ⟨m0_Arcs_a, m0_Arcs_l, m0_Arcs_c⟩ ⟨l0_a, l0_l, l0_c⟩ from_0 to_0 hcv h
    · exact h.elim
  · unfold sh_graph_lay.q at h; split at h
    · rename_i m0_N m0_Arcs_a m0_Arcs_l m0_Arcs_c l0_a l0_l l0_c from_0 to_0; obtain ⟨r, h1, h2⟩ := h; exact ⟨_, h2, fun w' e => sh_graph_lay.calls CV m0_N ⟨m0_Arcs_a, m0_Arcs_l, m0_Arcs_c⟩ ⟨l0_a, l0_l, l0_c⟩ from_0 to_0 hcv (h1 w' e)⟩
    · exact h.elim
def sh_graph_New.plan : Plan := (.seq .o (.scope (.seq (.seq .o (.cond (.seq .o .o) .o)) (.seq .o (.seq (.draw [] [.loc, .pure, .loc, .pure, .new, .pure, .new, .pure] [0, 1, 2, 3, 4, 5, 6, 7]) (.seq .o (.seq .o (.seq .o (.seq (.seq .o (.block (.rng [25, 6] [] .o (.block .o)))) (.seq .o (.seq .o (.join [] [] (.seq (.draw [] [.pure, .rd, .pure, .quiet, .quiet, .pure, .big, .pure, .big, .pure, .pure] [0, 1, 2, 3, 4, 5, 7, 10, 6, 8, 9]) (.block (.loop [.slot 8 (.int .i64), .slot 46 (.int .i64)] [] (.seq .o (.seq (.cond .o .o) (.seq (.block (.seq .o (.join [] [] (.seq .o (.cond (.seq (.seq .o (.cond .o .o)) .o) .o)) .o))) .o)))))) (.seq .o (.seq (.draw [] [.pure, .pure, .quiet, .pure, .pure, .pure, .big, .rd, .pure, .pure, .pure, .big, .pure, .pure, .big, .pure, .pure, .big] [0, 1, 2, 3, 4, 5, 7, 8, 9, 10, 6, 11, 12, 13, 14, 15, 16, 17]) (.seq .o .o)))))))))))))))
theorem sh_graph_New.is (CV : CVT) (m0_N : Int) (m0_Arcs : SV) (w : World) (R : Value → World → Prop) : sh_graph_New CV m0_N m0_Arcs (fun r0 w' => R (.pointer r0) w') w = denF (cx_graph_lay.with CV) Try.f11 sh_graph_New.plan [.v (.agg #[(.int .i64 m0_N), (.slice m0_Arcs.a m0_Arcs.len m0_Arcs.cap)])] w R := by kernel_rfl
theorem sh_graph_New.calls (CV : CVT) (m0_N : Int) (m0_Arcs : SV) (hcv : CVOk Try.prog CV) {w : World} {R : Ending → World → Prop} (h : sh_graph_New CV m0_N m0_Arcs (fun r0 w' => R (.returned (.pointer r0)) w') w) : Calls Try.prog 11 #[(.agg #[(.int .i64 m0_N), (.slice m0_Arcs.a m0_Arcs.len m0_Arcs.cap)])] w R :=
  calls_is (cx := cx_graph_lay.with CV) mixed_Try (cx_graph_lay.ok.with CV) hcv Try.func11 sh_graph_New.plan (xs := [.v (.agg #[(.int .i64 m0_N), (.slice m0_Arcs.a m0_Arcs.len m0_Arcs.cap)])]) ((args_cons _ args_nil)) (by kernel_rfl) (sh_graph_New.is CV m0_N m0_Arcs w (fun v w' => R (.returned v) w')) h
def sh_graph_New.o : CVT → List X → (Value → World → Prop) → World → Prop
  | CV, [.v (.agg ⟨[.int .i64 m0_N, .slice m0_Arcs_a m0_Arcs_l m0_Arcs_c]⟩)], K, w => sh_graph_New CV m0_N ⟨m0_Arcs_a, m0_Arcs_l, m0_Arcs_c⟩ (fun r0 w' => K (.pointer r0) w') w
  | _, _, _, _ => False
def sh_graph_New.q : CVT → List X → World → (Value → Prop) → Prop
  | CV, [.v (.agg ⟨[.int .i64 m0_N, .slice m0_Arcs_a m0_Arcs_l m0_Arcs_c]⟩)], w, K => Quiet ((Option Addr)) (fun r => (.pointer r)) (fun K1 w' => sh_graph_New CV m0_N ⟨m0_Arcs_a, m0_Arcs_l, m0_Arcs_c⟩ (fun r0 w'' => K1 r0 w'') w') w (fun r => K (.pointer r))
  | _, _, _, _ => False
noncomputable def cx_graph_New : Cx := Cx.add Try.prog cx_graph_lay 11 sh_graph_New.o sh_graph_New.q
theorem cx_graph_New.ok : CxOk cx_graph_New := by
  refine CxOk.add cx_graph_lay.ok rfl (fun CV hcv xs K w hx h => ?_) (fun CV hcv xs K w hx h => ?_)
  · unfold sh_graph_New.o at h; split at h
    · rename_i m0_N m0_Arcs_a m0_Arcs_l m0_Arcs_c; exact sh_graph_New.calls CV m0_N ⟨m0_Arcs_a, m0_Arcs_l, m0_Arcs_c⟩ hcv h
    · exact h.elim
  · unfold sh_graph_New.q at h; split at h
    · rename_i m0_N m0_Arcs_a m0_Arcs_l m0_Arcs_c; obtain ⟨r, h1, h2⟩ := h; exact ⟨_, h2, fun w' e => sh_graph_New.calls CV m0_N ⟨m0_Arcs_a, m0_Arcs_l, m0_Arcs_c⟩ hcv (h1 w' e)⟩
    · exact h.elim
def sh_graph_Graph_N.plan : Plan := (.seq .o (.seq (.seq .o (.cond (.seq .o .o) .o)) (.seq .o .o)))
theorem sh_graph_Graph_N.is (CV : CVT) (g0 : Option Addr) (w : World) (R : Value → World → Prop) : sh_graph_Graph_N g0 (fun r0 w' => R (.int .i64 r0) w') w = denF (cx_graph_New.with CV) Try.f42 sh_graph_Graph_N.plan [.v (.pointer g0)] w R := by kernel_rfl
theorem sh_graph_Graph_N.calls (CV : CVT) (g0 : Option Addr) (hcv : CVOk Try.prog CV) {w : World} {R : Ending → World → Prop} (h : sh_graph_Graph_N g0 (fun r0 w' => R (.returned (.int .i64 r0)) w') w) : Calls Try.prog 42 #[(.pointer g0)] w R :=
  calls_is (cx := cx_graph_New.with CV) mixed_Try (cx_graph_New.ok.with CV) hcv Try.func42 sh_graph_Graph_N.plan (xs := [.v (.pointer g0)]) ((args_cons _ args_nil)) (by kernel_rfl) (sh_graph_Graph_N.is CV g0 w (fun v w' => R (.returned v) w')) h
def sh_graph_Graph_N.o : CVT → List X → (Value → World → Prop) → World → Prop
  | CV, [.v (.pointer g0)], K, w => sh_graph_Graph_N g0 (fun r0 w' => K (.int .i64 r0) w') w
  | _, _, _, _ => False
def sh_graph_Graph_N.q : CVT → List X → World → (Value → Prop) → Prop
  | CV, [.v (.pointer g0)], w, K => Quiet (Int) (fun r => (.int .i64 r)) (fun K1 w' => sh_graph_Graph_N g0 (fun r0 w'' => K1 r0 w'') w') w (fun r => K (.int .i64 r))
  | _, _, _, _ => False
noncomputable def cx_graph_Graph_N : Cx := Cx.add Try.prog cx_graph_New 42 sh_graph_Graph_N.o sh_graph_Graph_N.q
theorem cx_graph_Graph_N.ok : CxOk cx_graph_Graph_N := by
  refine CxOk.add cx_graph_New.ok rfl (fun CV hcv xs K w hx h => ?_) (fun CV hcv xs K w hx h => ?_)
  · unfold sh_graph_Graph_N.o at h; split at h
    · rename_i g0; exact sh_graph_Graph_N.calls CV g0 hcv h
    · exact h.elim
  · unfold sh_graph_Graph_N.q at h; split at h
    · rename_i g0; obtain ⟨r, h1, h2⟩ := h; exact ⟨_, h2, fun w' e => sh_graph_Graph_N.calls CV g0 hcv (h1 w' e)⟩
    · exact h.elim
def sh_graph_Graph_is.plan : Plan := (.seq .o (.seq .o .o))
theorem sh_graph_Graph_is.is (CV : CVT) (g0 : Option Addr) (v0 : Int) (w : World) (R : Value → World → Prop) : sh_graph_Graph_is g0 v0 (fun r0 w' => R (.bool r0) w') w = denF (cx_graph_Graph_N.with CV) Try.f43 sh_graph_Graph_is.plan [.v (.pointer g0), .v (.int .i64 v0)] w R := by kernel_rfl
theorem sh_graph_Graph_is.calls (CV : CVT) (g0 : Option Addr) (v0 : Int) (hcv : CVOk Try.prog CV) {w : World} {R : Ending → World → Prop} (h : sh_graph_Graph_is g0 v0 (fun r0 w' => R (.returned (.bool r0)) w') w) : Calls Try.prog 43 #[(.pointer g0), (.int .i64 v0)] w R :=
  calls_is (cx := cx_graph_Graph_N.with CV) mixed_Try (cx_graph_Graph_N.ok.with CV) hcv Try.func43 sh_graph_Graph_is.plan (xs := [.v (.pointer g0), .v (.int .i64 v0)]) ((args_cons _ (args_cons _ args_nil))) (by kernel_rfl) (sh_graph_Graph_is.is CV g0 v0 w (fun v w' => R (.returned v) w')) h
def sh_graph_Graph_is.o : CVT → List X → (Value → World → Prop) → World → Prop
  | CV, [.v (.pointer g0), .v (.int .i64 v0)], K, w => sh_graph_Graph_is g0 v0 (fun r0 w' => K (.bool r0) w') w
  | _, _, _, _ => False
def sh_graph_Graph_is.q : CVT → List X → World → (Value → Prop) → Prop
  | CV, [.v (.pointer g0), .v (.int .i64 v0)], w, K => Quiet (Bool) (fun r => (.bool r)) (fun K1 w' => sh_graph_Graph_is g0 v0 (fun r0 w'' => K1 r0 w'') w') w (fun r => K (.bool r))
  | _, _, _, _ => False
noncomputable def cx_graph_Graph_is : Cx := Cx.add Try.prog cx_graph_Graph_N 43 sh_graph_Graph_is.o sh_graph_Graph_is.q
theorem cx_graph_Graph_is.ok : CxOk cx_graph_Graph_is := by
  refine CxOk.add cx_graph_Graph_N.ok rfl (fun CV hcv xs K w hx h => ?_) (fun CV hcv xs K w hx h => ?_)
  · unfold sh_graph_Graph_is.o at h; split at h
    · rename_i g0 v0; exact sh_graph_Graph_is.calls CV g0 v0 hcv h
    · exact h.elim
  · unfold sh_graph_Graph_is.q at h; split at h
    · rename_i g0 v0; obtain ⟨r, h1, h2⟩ := h; exact ⟨_, h2, fun w' e => sh_graph_Graph_is.calls CV g0 v0 hcv (h1 w' e)⟩
    · exact h.elim
def sh_graph_side_all.plan : Plan := (.seq .o (.seq (.draw [] [.pure, .pure, .pure, .quiet, .pure, .pure, .pure, .quiet, .pure, .pure, .quiet, .pure, .pure, .pure, .quiet, .pure, .pure, .pure, .quiet, .pure, .big, .pure] [0, 1, 2, 3, 4, 5, 6, 7, 8, 9, 10, 11, 12, 13, 14, 15, 16, 17, 18, 19, 20, 21]) .o))
theorem sh_graph_side_all.is (CV : CVT) (s0 : Option Addr) (v0 : Int) (w : World) (R : Value → World → Prop) : sh_graph_side_all s0 v0 (fun r0 w' => R (.slice r0.a r0.len r0.cap) w') w = denF (cx_graph_Graph_is.with CV) Try.f44 sh_graph_side_all.plan [.v (.pointer s0), .v (.int .i64 v0)] w R := by kernel_rfl
theorem sh_graph_side_all.calls (CV : CVT) (s0 : Option Addr) (v0 : Int) (hcv : CVOk Try.prog CV) {w : World} {R : Ending → World → Prop} (h : sh_graph_side_all s0 v0 (fun r0 w' => R (.returned (.slice r0.a r0.len r0.cap)) w') w) : Calls Try.prog 44 #[(.pointer s0), (.int .i64 v0)] w R :=
  calls_is (cx := cx_graph_Graph_is.with CV) mixed_Try (cx_graph_Graph_is.ok.with CV) hcv Try.func44 sh_graph_side_all.plan (xs := [.v (.pointer s0), .v (.int .i64 v0)]) ((args_cons _ (args_cons _ args_nil))) (by kernel_rfl) (sh_graph_side_all.is CV s0 v0 w (fun v w' => R (.returned v) w')) h
def sh_graph_side_all.o : CVT → List X → (Value → World → Prop) → World → Prop
  | CV, [.v (.pointer s0), .v (.int .i64 v0)], K, w => sh_graph_side_all s0 v0 (fun r0 w' => K (.slice r0.a r0.len r0.cap) w') w
  | _, _, _, _ => False
def sh_graph_side_all.q : CVT → List X → World → (Value → Prop) → Prop
  | CV, [.v (.pointer s0), .v (.int .i64 v0)], w, K => Quiet (SV) (fun r => (.slice r.a r.len r.cap)) (fun K1 w' => sh_graph_side_all s0 v0 (fun r0 w'' => K1 r0 w'') w') w (fun r => K (.slice r.a r.len r.cap))
  | _, _, _, _ => False
noncomputable def cx_graph_side_all : Cx := Cx.add Try.prog cx_graph_Graph_is 44 sh_graph_side_all.o sh_graph_side_all.q
theorem cx_graph_side_all.ok : CxOk cx_graph_side_all := by
  refine CxOk.add cx_graph_Graph_is.ok rfl (fun CV hcv xs K w hx h => ?_) (fun CV hcv xs K w hx h => ?_)
  · unfold sh_graph_side_all.o at h; split at h
    · rename_i s0 v0; exact sh_graph_side_all.calls CV s0 v0 hcv h
    · exact h.elim
  · unfold sh_graph_side_all.q at h; split at h
    · rename_i s0 v0; obtain ⟨r, h1, h2⟩ := h; exact ⟨_, h2, fun w' e => sh_graph_side_all.calls CV s0 v0 hcv (h1 w' e)⟩
    · exact h.elim
def sh_graph_Graph_Out.plan : Plan := (.seq .o (.seq (.seq .o (.cond (.seq .o .o) .o)) (.seq .o .o)))
theorem sh_graph_Graph_Out.is (CV : CVT) (g0 : Option Addr) (v0 : Int) (w : World) (R : Value → World → Prop) : sh_graph_Graph_Out g0 v0 (fun r0 w' => R (.slice r0.a r0.len r0.cap) w') w = denF (cx_graph_side_all.with CV) Try.f19 sh_graph_Graph_Out.plan [.v (.pointer g0), .v (.int .i64 v0)] w R := by kernel_rfl
theorem sh_graph_Graph_Out.calls (CV : CVT) (g0 : Option Addr) (v0 : Int) (hcv : CVOk Try.prog CV) {w : World} {R : Ending → World → Prop} (h : sh_graph_Graph_Out g0 v0 (fun r0 w' => R (.returned (.slice r0.a r0.len r0.cap)) w') w) : Calls Try.prog 19 #[(.pointer g0), (.int .i64 v0)] w R :=
  calls_is (cx := cx_graph_side_all.with CV) mixed_Try (cx_graph_side_all.ok.with CV) hcv Try.func19 sh_graph_Graph_Out.plan (xs := [.v (.pointer g0), .v (.int .i64 v0)]) ((args_cons _ (args_cons _ args_nil))) (by kernel_rfl) (sh_graph_Graph_Out.is CV g0 v0 w (fun v w' => R (.returned v) w')) h
def sh_graph_Graph_Out.o : CVT → List X → (Value → World → Prop) → World → Prop
  | CV, [.v (.pointer g0), .v (.int .i64 v0)], K, w => sh_graph_Graph_Out g0 v0 (fun r0 w' => K (.slice r0.a r0.len r0.cap) w') w
  | _, _, _, _ => False
def sh_graph_Graph_Out.q : CVT → List X → World → (Value → Prop) → Prop
  | CV, [.v (.pointer g0), .v (.int .i64 v0)], w, K => Quiet (SV) (fun r => (.slice r.a r.len r.cap)) (fun K1 w' => sh_graph_Graph_Out g0 v0 (fun r0 w'' => K1 r0 w'') w') w (fun r => K (.slice r.a r.len r.cap))
  | _, _, _, _ => False
noncomputable def cx_graph_Graph_Out : Cx := Cx.add Try.prog cx_graph_side_all 19 sh_graph_Graph_Out.o sh_graph_Graph_Out.q
theorem cx_graph_Graph_Out.ok : CxOk cx_graph_Graph_Out := by
  refine CxOk.add cx_graph_side_all.ok rfl (fun CV hcv xs K w hx h => ?_) (fun CV hcv xs K w hx h => ?_)
  · unfold sh_graph_Graph_Out.o at h; split at h
    · rename_i g0 v0; exact sh_graph_Graph_Out.calls CV g0 v0 hcv h
    · exact h.elim
  · unfold sh_graph_Graph_Out.q at h; split at h
    · rename_i g0 v0; obtain ⟨r, h1, h2⟩ := h; exact ⟨_, h2, fun w' e => sh_graph_Graph_Out.calls CV g0 v0 hcv (h1 w' e)⟩
    · exact h.elim
def sh_heap_New.plan : Plan := (.seq .o (.seq (.seq .o (.cond (.seq .o .o) .o)) (.seq .o .o)))
theorem sh_heap_New.is (CV : CVT) (n0 : Int) (w : World) (R : Value → World → Prop) : sh_heap_New n0 (fun r0 w' => R (.pointer r0) w') w = denF (cx_graph_Graph_Out.with CV) Try.f51 sh_heap_New.plan [.v (.int .i64 n0)] w R := by kernel_rfl
theorem sh_heap_New.calls (CV : CVT) (n0 : Int) (hcv : CVOk Try.prog CV) {w : World} {R : Ending → World → Prop} (h : sh_heap_New n0 (fun r0 w' => R (.returned (.pointer r0)) w') w) : Calls Try.prog 51 #[(.int .i64 n0)] w R :=
  calls_is (cx := cx_graph_Graph_Out.with CV) mixed_Try (cx_graph_Graph_Out.ok.with CV) hcv Try.func51 sh_heap_New.plan (xs := [.v (.int .i64 n0)]) ((args_cons _ args_nil)) (by kernel_rfl) (sh_heap_New.is CV n0 w (fun v w' => R (.returned v) w')) h
def sh_heap_New.o : CVT → List X → (Value → World → Prop) → World → Prop
  | CV, [.v (.int .i64 n0)], K, w => sh_heap_New n0 (fun r0 w' => K (.pointer r0) w') w
  | _, _, _, _ => False
def sh_heap_New.q : CVT → List X → World → (Value → Prop) → Prop
  | CV, [.v (.int .i64 n0)], w, K => Quiet ((Option Addr)) (fun r => (.pointer r)) (fun K1 w' => sh_heap_New n0 (fun r0 w'' => K1 r0 w'') w') w (fun r => K (.pointer r))
  | _, _, _, _ => False
noncomputable def cx_heap_New : Cx := Cx.add Try.prog cx_graph_Graph_Out 51 sh_heap_New.o sh_heap_New.q
theorem cx_heap_New.ok : CxOk cx_heap_New := by
  refine CxOk.add cx_graph_Graph_Out.ok rfl (fun CV hcv xs K w hx h => ?_) (fun CV hcv xs K w hx h => ?_)
  · unfold sh_heap_New.o at h; split at h
    · rename_i n0; exact sh_heap_New.calls CV n0 hcv h
    · exact h.elim
  · unfold sh_heap_New.q at h; split at h
    · rename_i n0; obtain ⟨r, h1, h2⟩ := h; exact ⟨_, h2, fun w' e => sh_heap_New.calls CV n0 hcv (h1 w' e)⟩
    · exact h.elim
def sh_heap_Heap_may.plan : Plan := (.seq .o (.seq .o .o))
theorem sh_heap_Heap_may.is (CV : CVT) (h0 : Option Addr) (id0 : Int) (w : World) (R : Value → World → Prop) : sh_heap_Heap_may h0 id0 (fun r0 w' => R (.bool r0) w') w = denF (cx_heap_New.with CV) Try.f56 sh_heap_Heap_may.plan [.v (.pointer h0), .v (.int .i64 id0)] w R := by kernel_rfl
theorem sh_heap_Heap_may.calls (CV : CVT) (h0 : Option Addr) (id0 : Int) (hcv : CVOk Try.prog CV) {w : World} {R : Ending → World → Prop} (h : sh_heap_Heap_may h0 id0 (fun r0 w' => R (.returned (.bool r0)) w') w) : Calls Try.prog 56 #[(.pointer h0), (.int .i64 id0)] w R :=
  calls_is (cx := cx_heap_New.with CV) mixed_Try (cx_heap_New.ok.with CV) hcv Try.func56 sh_heap_Heap_may.plan (xs := [.v (.pointer h0), .v (.int .i64 id0)]) ((args_cons _ (args_cons _ args_nil))) (by kernel_rfl) (sh_heap_Heap_may.is CV h0 id0 w (fun v w' => R (.returned v) w')) h
def sh_heap_Heap_may.o : CVT → List X → (Value → World → Prop) → World → Prop
  | CV, [.v (.pointer h0), .v (.int .i64 id0)], K, w => sh_heap_Heap_may h0 id0 (fun r0 w' => K (.bool r0) w') w
  | _, _, _, _ => False
def sh_heap_Heap_may.q : CVT → List X → World → (Value → Prop) → Prop
  | CV, [.v (.pointer h0), .v (.int .i64 id0)], w, K => Quiet (Bool) (fun r => (.bool r)) (fun K1 w' => sh_heap_Heap_may h0 id0 (fun r0 w'' => K1 r0 w'') w') w (fun r => K (.bool r))
  | _, _, _, _ => False
noncomputable def cx_heap_Heap_may : Cx := Cx.add Try.prog cx_heap_New 56 sh_heap_Heap_may.o sh_heap_Heap_may.q
theorem cx_heap_Heap_may.ok : CxOk cx_heap_Heap_may := by
  refine CxOk.add cx_heap_New.ok rfl (fun CV hcv xs K w hx h => ?_) (fun CV hcv xs K w hx h => ?_)
  · unfold sh_heap_Heap_may.o at h; split at h
    · rename_i h0 id0; exact sh_heap_Heap_may.calls CV h0 id0 hcv h
    · exact h.elim
  · unfold sh_heap_Heap_may.q at h; split at h
    · rename_i h0 id0; obtain ⟨r, h1, h2⟩ := h; exact ⟨_, h2, fun w' e => sh_heap_Heap_may.calls CV h0 id0 hcv (h1 w' e)⟩
    · exact h.elim
def sh_heap_queue_lay.plan : Plan := (.seq .o (.seq (.draw [] [.pure, .pure, .pure, .quiet, .pure, .loc, .pure, .big] [0, 1, 2, 3, 4, 5, 6, 7]) (.draw [] [.pure, .pure, .pure, .quiet, .pure, .loc, .pure, .pure, .pure, .big] [0, 1, 2, 3, 4, 5, 6, 7, 8, 9])))
theorem sh_heap_queue_lay.is (CV : CVT) (q0 : Option Addr) (i0 : Int) (e0_id : Int) (e0_key : Int) (w : World) (R : Value → World → Prop) : sh_heap_queue_lay q0 i0 e0_id e0_key (fun w' => R (.tuple #[]) w') w = denF (cx_heap_Heap_may.with CV) Try.f60 sh_heap_queue_lay.plan [.v (.pointer q0), .v (.int .i64 i0), .v (.agg #[(.int .i64 e0_id), (.int .i64 e0_key)])] w R := by kernel_rfl
theorem sh_heap_queue_lay.calls (CV : CVT) (q0 : Option Addr) (i0 : Int) (e0_id : Int) (e0_key : Int) (hcv : CVOk Try.prog CV) {w : World} {R : Ending → World → Prop} (h : sh_heap_queue_lay q0 i0 e0_id e0_key (fun w' => R (.returned (.tuple #[])) w') w) : Calls Try.prog 60 #[(.pointer q0), (.int .i64 i0), (.agg #[(.int .i64 e0_id), (.int .i64 e0_key)])] w R :=
  calls_is (cx := cx_heap_Heap_may.with CV) mixed_Try (cx_heap_Heap_may.ok.with CV) hcv Try.func60 sh_heap_queue_lay.plan (xs := [.v (.pointer q0), .v (.int .i64 i0), .v (.agg #[(.int .i64 e0_id), (.int .i64 e0_key)])]) ((args_cons _ (args_cons _ (args_cons _ args_nil)))) (by kernel_rfl) (sh_heap_queue_lay.is CV q0 i0 e0_id e0_key w (fun v w' => R (.returned v) w')) h
def sh_heap_queue_lay.o : CVT → List X → (Value → World → Prop) → World → Prop
  | CV, [.v (.pointer q0), .v (.int .i64 i0), .v (.agg ⟨[.int .i64 e0_id, .int .i64 e0_key]⟩)], K, w => sh_heap_queue_lay q0 i0 e0_id e0_key (fun w' => K (.tuple #[]) w') w
  | _, _, _, _ => False
def sh_heap_queue_lay.q : CVT → List X → World → (Value → Prop) → Prop
  | CV, [.v (.pointer q0), .v (.int .i64 i0), .v (.agg ⟨[.int .i64 e0_id, .int .i64 e0_key]⟩)], w, K => Quiet (Unit) (fun r => (.tuple #[])) (fun K1 w' => sh_heap_queue_lay q0 i0 e0_id e0_key (fun w'' => K1 () w'') w') w (fun r => K (.tuple #[]))
  | _, _, _, _ => False
noncomputable def cx_heap_queue_lay : Cx := Cx.add Try.prog cx_heap_Heap_may 60 sh_heap_queue_lay.o sh_heap_queue_lay.q
theorem cx_heap_queue_lay.ok : CxOk cx_heap_queue_lay := by
  refine CxOk.add cx_heap_Heap_may.ok rfl (fun CV hcv xs K w hx h => ?_) (fun CV hcv xs K w hx h => ?_)
  · unfold sh_heap_queue_lay.o at h; split at h
    · rename_i q0 i0 e0_id e0_key; exact sh_heap_queue_lay.calls CV q0 i0 e0_id e0_key hcv h
    · exact h.elim
  · unfold sh_heap_queue_lay.q at h; split at h
    · rename_i q0 i0 e0_id e0_key; obtain ⟨r, h1, h2⟩ := h; exact ⟨_, h2, fun w' e => sh_heap_queue_lay.calls CV q0 i0 e0_id e0_key hcv (h1 w' e)⟩
    · exact h.elim
def sh_cmp_isNaN_int.plan : Plan := (.seq .o (.seq .o .o))
theorem sh_cmp_isNaN_int.is (CV : CVT) (x0 : Int) (w : World) (R : Value → World → Prop) : sh_cmp_isNaN_int x0 (fun r0 w' => R (.bool r0) w') w = denF (cx_heap_queue_lay.with CV) Try.f67 sh_cmp_isNaN_int.plan [.v (.int .i64 x0)] w R := by kernel_rfl
theorem sh_cmp_isNaN_int.calls (CV : CVT) (x0 : Int) (hcv : CVOk Try.prog CV) {w : World} {R : Ending → World → Prop} (h : sh_cmp_isNaN_int x0 (fun r0 w' => R (.returned (.bool r0)) w') w) : Calls Try.prog 67 #[(.int .i64 x0)] w R :=
  calls_is (cx := cx_heap_queue_lay.with CV) mixed_Try (cx_heap_queue_lay.ok.with CV) hcv Try.func67 sh_cmp_isNaN_int.plan (xs := [.v (.int .i64 x0)]) ((args_cons _ args_nil)) (by kernel_rfl) (sh_cmp_isNaN_int.is CV x0 w (fun v w' => R (.returned v) w')) h
def sh_cmp_isNaN_int.o : CVT → List X → (Value → World → Prop) → World → Prop
  | CV, [.v (.int .i64 x0)], K, w => sh_cmp_isNaN_int x0 (fun r0 w' => K (.bool r0) w') w
  | _, _, _, _ => False
def sh_cmp_isNaN_int.q : CVT → List X → World → (Value → Prop) → Prop
  | CV, [.v (.int .i64 x0)], w, K => Quiet (Bool) (fun r => (.bool r)) (fun K1 w' => sh_cmp_isNaN_int x0 (fun r0 w'' => K1 r0 w'') w') w (fun r => K (.bool r))
  | _, _, _, _ => False
noncomputable def cx_cmp_isNaN_int : Cx := Cx.add Try.prog cx_heap_queue_lay 67 sh_cmp_isNaN_int.o sh_cmp_isNaN_int.q
theorem cx_cmp_isNaN_int.ok : CxOk cx_cmp_isNaN_int := by
  refine CxOk.add cx_heap_queue_lay.ok rfl (fun CV hcv xs K w hx h => ?_) (fun CV hcv xs K w hx h => ?_)
  · unfold sh_cmp_isNaN_int.o at h; split at h
    · rename_i x0; exact sh_cmp_isNaN_int.calls CV x0 hcv h
    · exact h.elim
  · unfold sh_cmp_isNaN_int.q at h; split at h
    · rename_i x0; obtain ⟨r, h1, h2⟩ := h; exact ⟨_, h2, fun w' e => sh_cmp_isNaN_int.calls CV x0 hcv (h1 w' e)⟩
    · exact h.elim
def sh_cmp_Compare_int.plan : Plan := (.seq .o (.seq .o (.seq .o (.seq (.seq .o (.cond (.seq (.seq .o (.cond (.seq .o .o) .o)) (.seq .o .o)) .o)) (.seq (.seq .o (.cond (.seq .o .o) .o)) (.seq (.seq .o (.cond (.seq .o .o) .o)) (.seq (.seq .o (.cond (.seq .o .o) .o)) (.seq .o .o))))))))
theorem sh_cmp_Compare_int.is (CV : CVT) (x0 : Int) (y0 : Int) (w : World) (R : Value → World → Prop) : sh_cmp_Compare_int x0 y0 (fun r0 w' => R (.int .i64 r0) w') w = denF (cx_cmp_isNaN_int.with CV) Try.f66 sh_cmp_Compare_int.plan [.v (.int .i64 x0), .v (.int .i64 y0)] w R := by kernel_rfl
theorem sh_cmp_Compare_int.calls (CV : CVT) (x0 : Int) (y0 : Int) (hcv : CVOk Try.prog CV) {w : World} {R : Ending → World → Prop} (h : sh_cmp_Compare_int x0 y0 (fun r0 w' => R (.returned (.int .i64 r0)) w') w) : Calls Try.prog 66 #[(.int .i64 x0), (.int .i64 y0)] w R :=
  calls_is (cx := cx_cmp_isNaN_int.with CV) mixed_Try (cx_cmp_isNaN_int.ok.with CV) hcv Try.func66 sh_cmp_Compare_int.plan (xs := [.v (.int .i64 x0), .v (.int .i64 y0)]) ((args_cons _ (args_cons _ args_nil))) (by kernel_rfl) (sh_cmp_Compare_int.is CV x0 y0 w (fun v w' => R (.returned v) w')) h
def sh_cmp_Compare_int.o : CVT → List X → (Value → World → Prop) → World → Prop
  | CV, [.v (.int .i64 x0), .v (.int .i64 y0)], K, w => sh_cmp_Compare_int x0 y0 (fun r0 w' => K (.int .i64 r0) w') w
  | _, _, _, _ => False
def sh_cmp_Compare_int.q : CVT → List X → World → (Value → Prop) → Prop
  | CV, [.v (.int .i64 x0), .v (.int .i64 y0)], w, K => Quiet (Int) (fun r => (.int .i64 r)) (fun K1 w' => sh_cmp_Compare_int x0 y0 (fun r0 w'' => K1 r0 w'') w') w (fun r => K (.int .i64 r))
  | _, _, _, _ => False
noncomputable def cx_cmp_Compare_int : Cx := Cx.add Try.prog cx_cmp_isNaN_int 66 sh_cmp_Compare_int.o sh_cmp_Compare_int.q
theorem cx_cmp_Compare_int.ok : CxOk cx_cmp_Compare_int := by
  refine CxOk.add cx_cmp_isNaN_int.ok rfl (fun CV hcv xs K w hx h => ?_) (fun CV hcv xs K w hx h => ?_)
  · unfold sh_cmp_Compare_int.o at h; split at h
    · rename_i x0 y0; exact sh_cmp_Compare_int.calls CV x0 y0 hcv h
    · exact h.elim
  · unfold sh_cmp_Compare_int.q at h; split at h
    · rename_i x0 y0; obtain ⟨r, h1, h2⟩ := h; exact ⟨_, h2, fun w' e => sh_cmp_Compare_int.calls CV x0 y0 hcv (h1 w' e)⟩
    · exact h.elim
def sh_cmp_Or_int.plan : Plan := (.seq .o (.seq .o (.seq (.seq .o (.block (.loop [.slot 8 (.int .i64)] [] (.seq .o (.seq (.cond .o .o) (.seq (.block (.seq .o (.seq .o (.cond (.seq .o .o) .o)))) .o)))))) (.seq .o .o))))
theorem sh_cmp_Or_int.is (CV : CVT) (vals0 : SV) (w : World) (R : Value → World → Prop) : sh_cmp_Or_int vals0 (fun r0 w' => R (.int .i64 r0) w') w = denF (cx_cmp_Compare_int.with CV) Try.f65 sh_cmp_Or_int.plan [.v (.slice vals0.a vals0.len vals0.cap)] w R := by kernel_rfl
theorem sh_cmp_Or_int.calls (CV : CVT) (vals0 : SV) (hcv : CVOk Try.prog CV) {w : World} {R : Ending → World → Prop} (h : sh_cmp_Or_int vals0 (fun r0 w' => R (.returned (.int .i64 r0)) w') w) : Calls Try.prog 65 #[(.slice vals0.a vals0.len vals0.cap)] w R :=
  calls_is (cx := cx_cmp_Compare_int.with CV) mixed_Try (cx_cmp_Compare_int.ok.with CV) hcv Try.func65 sh_cmp_Or_int.plan (xs := [.v (.slice vals0.a vals0.len vals0.cap)]) ((args_cons _ args_nil)) (by kernel_rfl) (sh_cmp_Or_int.is CV vals0 w (fun v w' => R (.returned v) w')) h
def sh_cmp_Or_int.o : CVT → List X → (Value → World → Prop) → World → Prop
  | CV, [.v (.slice vals0_a vals0_l vals0_c)], K, w => sh_cmp_Or_int ⟨vals0_a, vals0_l, vals0_c⟩ (fun r0 w' => K (.int .i64 r0) w') w
  | _, _, _, _ => False
def sh_cmp_Or_int.q : CVT → List X → World → (Value → Prop) → Prop
  | CV, [.v (.slice vals0_a vals0_l vals0_c)], w, K => Quiet (Int) (fun r => (.int .i64 r)) (fun K1 w' => sh_cmp_Or_int ⟨vals0_a, vals0_l, vals0_c⟩ (fun r0 w'' => K1 r0 w'') w') w (fun r => K (.int .i64 r))
  | _, _, _, _ => False
noncomputable def cx_cmp_Or_int : Cx := Cx.add Try.prog cx_cmp_Compare_int 65 sh_cmp_Or_int.o sh_cmp_Or_int.q
theorem cx_cmp_Or_int.ok : CxOk cx_cmp_Or_int := by
  refine CxOk.add cx_cmp_Compare_int.ok rfl (fun CV hcv xs K w hx h => ?_) (fun CV hcv xs K w hx h => ?_)
  · unfold sh_cmp_Or_int.o at h; split at h
    · rename_i vals0_a vals0_l vals0_c; exact sh_cmp_Or_int.calls CV ⟨vals0_a, vals0_l, vals0_c⟩ hcv h
    · exact h.elim
  · unfold sh_cmp_Or_int.q at h; split at h
    · rename_i vals0_a vals0_l vals0_c; obtain ⟨r, h1, h2⟩ := h; exact ⟨_, h2, fun w' e => sh_cmp_Or_int.calls CV ⟨vals0_a, vals0_l, vals0_c⟩ hcv (h1 w' e)⟩
    · exact h.elim
def sh_heap_entry_before.plan : Plan := (.seq .o (.seq (.draw [] [.pure, .loc, .pure, .loc, .quiet, .pure, .loc, .pure, .loc, .quiet, .new, .quiet, .pure, .pure] [0, 1, 2, 3, 4, 5, 6, 7, 8, 9, 10, 11, 12, 13]) .o))
theorem sh_heap_entry_before.is (CV : CVT) (e0_id : Int) (e0_key : Int) (f0_id : Int) (f0_key : Int) (w : World) (R : Value → World → Prop) : sh_heap_entry_before e0_id e0_key f0_id f0_key (fun r0 w' => R (.bool r0) w') w = denF (cx_cmp_Or_int.with CV) Try.f64 sh_heap_entry_before.plan [.v (.agg #[(.int .i64 e0_id), (.int .i64 e0_key)]), .v (.agg #[(.int .i64 f0_id), (.int .i64 f0_key)])] w R := by kernel_rfl
theorem sh_heap_entry_before.calls (CV : CVT) (e0_id : Int) (e0_key : Int) (f0_id : Int) (f0_key : Int) (hcv : CVOk Try.prog CV) {w : World} {R : Ending → World → Prop} (h : sh_heap_entry_before e0_id e0_key f0_id f0_key (fun r0 w' => R (.returned (.bool r0)) w') w) : Calls Try.prog 64 #[(.agg #[(.int .i64 e0_id), (.int .i64 e0_key)]), (.agg #[(.int .i64 f0_id), (.int .i64 f0_key)])] w R :=
  calls_is (cx := cx_cmp_Or_int.with CV) mixed_Try (cx_cmp_Or_int.ok.with CV) hcv Try.func64 sh_heap_entry_before.plan (xs := [.v (.agg #[(.int .i64 e0_id), (.int .i64 e0_key)]), .v (.agg #[(.int .i64 f0_id), (.int .i64 f0_key)])]) ((args_cons _ (args_cons _ args_nil))) (by kernel_rfl) (sh_heap_entry_before.is CV e0_id e0_key f0_id f0_key w (fun v w' => R (.returned v) w')) h
def sh_heap_entry_before.o : CVT → List X → (Value → World → Prop) → World → Prop
  | CV, [.v (.agg ⟨[.int .i64 e0_id, .int .i64 e0_key]⟩), .v (.agg ⟨[.int .i64 f0_id, .int .i64 f0_key]⟩)], K, w => sh_heap_entry_before e0_id e0_key f0_id f0_key (fun r0 w' => K (.bool r0) w') w
  | _, _, _, _ => False
def sh_heap_entry_before.q : CVT → List X → World → (Value → Prop) → Prop
  | CV, [.v (.agg ⟨[.int .i64 e0_id, .int .i64 e0_key]⟩), .v (.agg ⟨[.int .i64 f0_id, .int .i64 f0_key]⟩)], w, K => Quiet (Bool) (fun r => (.bool r)) (fun K1 w' => sh_heap_entry_before e0_id e0_key f0_id f0_key (fun r0 w'' => K1 r0 w'') w') w (fun r => K (.bool r))
  | _, _, _, _ => False
noncomputable def cx_heap_entry_before : Cx := Cx.add Try.prog cx_cmp_Or_int 64 sh_heap_entry_before.o sh_heap_entry_before.q
theorem cx_heap_entry_before.ok : CxOk cx_heap_entry_before := by
  refine CxOk.add cx_cmp_Or_int.ok rfl (fun CV hcv xs K w hx h => ?_) (fun CV hcv xs K w hx h => ?_)
  · unfold sh_heap_entry_before.o at h; split at h
    · rename_i e0_id e0_key f0_id f0_key; exact sh_heap_entry_before.calls CV e0_id e0_key f0_id f0_key hcv h
    · exact h.elim
  · unfold sh_heap_entry_before.q at h; split at h
    · rename_i e0_id e0_key f0_id f0_key; obtain ⟨r, h1, h2⟩ := h; exact ⟨_, h2, fun w' e => sh_heap_entry_before.calls CV e0_id e0_key f0_id f0_key hcv (h1 w' e)⟩
    · exact h.elim
def sh_heap_queue_sink.plan : Plan := (.scope (.seq .o (.seq .o (.join [.slot 1 (.int .i64)] [] (.block (.loop [.slot 1 (.int .i64)] [] (.block (.seq .o (.join [.slot 5 (.int .i64)] [] (.seq (.draw [] [.pure, .pure, .pure, .pure, .pure, .quiet, .pure, .pure, .pure, .pure, .pure, .pure, .quiet, .pure, .pure, .pure, .quiet, .pure, .pure, .pure, .quiet, .pure, .pure, .quiet, .quiet, .pure] [0, 1, 2, 3, 4, 5, 6, 7, 8, 9, 10, 11, 12, 13, 14, 15, 16, 17, 18, 19, 20, 21, 22, 23, 24, 25]) (.cond .o .o)) (.seq (.seq (.draw [] [.pure, .pure, .pure, .pure, .quiet, .pure, .pure, .pure, .loc, .pure, .pure, .pure, .quiet, .pure, .pure, .quiet, .quiet, .pure] [0, 1, 2, 3, 4, 5, 6, 7, 8, 9, 10, 11, 12, 13, 14, 15, 16, 17]) (.cond .o .o)) (.seq .o .o))))))) .o))))
theorem sh_heap_queue_sink.is (CV : CVT) (q0 : Option Addr) (i0 : Int) (w : World) (R : Value → World → Prop) : sh_heap_queue_sink q0 i0 (fun w' => R (.tuple #[]) w') w = denF (cx_heap_entry_before.with CV) Try.f61 sh_heap_queue_sink.plan [.v (.pointer q0), .v (.int .i64 i0)] w R := by kernel_rfl
theorem sh_heap_queue_sink.calls (CV : CVT) (q0 : Option Addr) (i0 : Int) (hcv : CVOk Try.prog CV) {w : World} {R : Ending → World → Prop} (h : sh_heap_queue_sink q0 i0 (fun w' => R (.returned (.tuple #[])) w') w) : Calls Try.prog 61 #[(.pointer q0), (.int .i64 i0)] w R :=
  calls_is (cx := cx_heap_entry_before.with CV) mixed_Try (cx_heap_entry_before.ok.with CV) hcv Try.func61 sh_heap_queue_sink.plan (xs := [.v (.pointer q0), .v (.int .i64 i0)]) ((args_cons _ (args_cons _ args_nil))) (by kernel_rfl) (sh_heap_queue_sink.is CV q0 i0 w (fun v w' => R (.returned v) w')) h
def sh_heap_queue_sink.o : CVT → List X → (Value → World → Prop) → World → Prop
  | CV, [.v (.pointer q0), .v (.int .i64 i0)], K, w => sh_heap_queue_sink q0 i0 (fun w' => K (.tuple #[]) w') w
  | _, _, _, _ => False
def sh_heap_queue_sink.q : CVT → List X → World → (Value → Prop) → Prop
  | CV, [.v (.pointer q0), .v (.int .i64 i0)], w, K => Quiet (Unit) (fun r => (.tuple #[])) (fun K1 w' => sh_heap_queue_sink q0 i0 (fun w'' => K1 () w'') w') w (fun r => K (.tuple #[]))
  | _, _, _, _ => False
noncomputable def cx_heap_queue_sink : Cx := Cx.add Try.prog cx_heap_entry_before 61 sh_heap_queue_sink.o sh_heap_queue_sink.q
theorem cx_heap_queue_sink.ok : CxOk cx_heap_queue_sink := by
  refine CxOk.add cx_heap_entry_before.ok rfl (fun CV hcv xs K w hx h => ?_) (fun CV hcv xs K w hx h => ?_)
  · unfold sh_heap_queue_sink.o at h; split at h
    · rename_i q0 i0; exact sh_heap_queue_sink.calls CV q0 i0 hcv h
    · exact h.elim
  · unfold sh_heap_queue_sink.q at h; split at h
    · rename_i q0 i0; obtain ⟨r, h1, h2⟩ := h; exact ⟨_, h2, fun w' e => sh_heap_queue_sink.calls CV q0 i0 hcv (h1 w' e)⟩
    · exact h.elim
def sh_heap_queue_rise.plan : Plan := (.seq .o (.join [.slot 1 (.int .i64)] [] (.block (.loop [.slot 1 (.int .i64)] [] (.seq (.seq (.draw [] [.pure, .pure, .pure, .loc, .pure, .pure, .pure, .quiet, .pure, .pure, .pure, .pure, .quiet, .quiet, .pure] [0, 1, 2, 3, 4, 5, 6, 7, 8, 9, 10, 11, 12, 13, 14]) (.cond .o .o)) (.block (.seq .o .o))))) .o))
theorem sh_heap_queue_rise.is (CV : CVT) (q0 : Option Addr) (i0 : Int) (w : World) (R : Value → World → Prop) : sh_heap_queue_rise q0 i0 (fun w' => R (.tuple #[]) w') w = denF (cx_heap_queue_sink.with CV) Try.f62 sh_heap_queue_rise.plan [.v (.pointer q0), .v (.int .i64 i0)] w R := by kernel_rfl
theorem sh_heap_queue_rise.calls (CV : CVT) (q0 : Option Addr) (i0 : Int) (hcv : CVOk Try.prog CV) {w : World} {R : Ending → World → Prop} (h : sh_heap_queue_rise q0 i0 (fun w' => R (.returned (.tuple #[])) w') w) : Calls Try.prog 62 #[(.pointer q0), (.int .i64 i0)] w R :=
  calls_is (cx := cx_heap_queue_sink.with CV) mixed_Try (cx_heap_queue_sink.ok.with CV) hcv Try.func62 sh_heap_queue_rise.plan (xs := [.v (.pointer q0), .v (.int .i64 i0)]) ((args_cons _ (args_cons _ args_nil))) (by kernel_rfl) (sh_heap_queue_rise.is CV q0 i0 w (fun v w' => R (.returned v) w')) h
def sh_heap_queue_rise.o : CVT → List X → (Value → World → Prop) → World → Prop
  | CV, [.v (.pointer q0), .v (.int .i64 i0)], K, w => sh_heap_queue_rise q0 i0 (fun w' => K (.tuple #[]) w') w
  | _, _, _, _ => False
def sh_heap_queue_rise.q : CVT → List X → World → (Value → Prop) → Prop
  | CV, [.v (.pointer q0), .v (.int .i64 i0)], w, K => Quiet (Unit) (fun r => (.tuple #[])) (fun K1 w' => sh_heap_queue_rise q0 i0 (fun w'' => K1 () w'') w') w (fun r => K (.tuple #[]))
  | _, _, _, _ => False
noncomputable def cx_heap_queue_rise : Cx := Cx.add Try.prog cx_heap_queue_sink 62 sh_heap_queue_rise.o sh_heap_queue_rise.q
theorem cx_heap_queue_rise.ok : CxOk cx_heap_queue_rise := by
  refine CxOk.add cx_heap_queue_sink.ok rfl (fun CV hcv xs K w hx h => ?_) (fun CV hcv xs K w hx h => ?_)
  · unfold sh_heap_queue_rise.o at h; split at h
    · rename_i q0 i0; exact sh_heap_queue_rise.calls CV q0 i0 hcv h
    · exact h.elim
  · unfold sh_heap_queue_rise.q at h; split at h
    · rename_i q0 i0; obtain ⟨r, h1, h2⟩ := h; exact ⟨_, h2, fun w' e => sh_heap_queue_rise.calls CV q0 i0 hcv (h1 w' e)⟩
    · exact h.elim
def sh_heap_queue_put.plan : Plan := (.seq .o (.join [.slot 6 (.int .i64)] [] (.seq .o (.cond (.seq .o .o) .o)) (.seq .o (.seq .o .o))))
theorem sh_heap_queue_put.is (CV : CVT) (q0 : Option Addr) (id0 : Int) (key0 : Int) (w : World) (R : Value → World → Prop) : sh_heap_queue_put q0 id0 key0 (fun w' => R (.tuple #[]) w') w = denF (cx_heap_queue_rise.with CV) Try.f57 sh_heap_queue_put.plan [.v (.pointer q0), .v (.int .i64 id0), .v (.int .i64 key0)] w R := by kernel_rfl
theorem sh_heap_queue_put.calls (CV : CVT) (q0 : Option Addr) (id0 : Int) (key0 : Int) (hcv : CVOk Try.prog CV) {w : World} {R : Ending → World → Prop} (h : sh_heap_queue_put q0 id0 key0 (fun w' => R (.returned (.tuple #[])) w') w) : Calls Try.prog 57 #[(.pointer q0), (.int .i64 id0), (.int .i64 key0)] w R :=
  calls_is (cx := cx_heap_queue_rise.with CV) mixed_Try (cx_heap_queue_rise.ok.with CV) hcv Try.func57 sh_heap_queue_put.plan (xs := [.v (.pointer q0), .v (.int .i64 id0), .v (.int .i64 key0)]) ((args_cons _ (args_cons _ (args_cons _ args_nil)))) (by kernel_rfl) (sh_heap_queue_put.is CV q0 id0 key0 w (fun v w' => R (.returned v) w')) h
def sh_heap_queue_put.o : CVT → List X → (Value → World → Prop) → World → Prop
  | CV, [.v (.pointer q0), .v (.int .i64 id0), .v (.int .i64 key0)], K, w => sh_heap_queue_put q0 id0 key0 (fun w' => K (.tuple #[]) w') w
  | _, _, _, _ => False
def sh_heap_queue_put.q : CVT → List X → World → (Value → Prop) → Prop
  | CV, [.v (.pointer q0), .v (.int .i64 id0), .v (.int .i64 key0)], w, K => Quiet (Unit) (fun r => (.tuple #[])) (fun K1 w' => sh_heap_queue_put q0 id0 key0 (fun w'' => K1 () w'') w') w (fun r => K (.tuple #[]))
  | _, _, _, _ => False
noncomputable def cx_heap_queue_put : Cx := Cx.add Try.prog cx_heap_queue_rise 57 sh_heap_queue_put.o sh_heap_queue_put.q
theorem cx_heap_queue_put.ok : CxOk cx_heap_queue_put := by
  refine CxOk.add cx_heap_queue_rise.ok rfl (fun CV hcv xs K w hx h => ?_) (fun CV hcv xs K w hx h => ?_)
  · unfold sh_heap_queue_put.o at h; split at h
    · rename_i q0 id0 key0; exact sh_heap_queue_put.calls CV q0 id0 key0 hcv h
    · exact h.elim
  · unfold sh_heap_queue_put.q at h; split at h
    · rename_i q0 id0 key0; obtain ⟨r, h1, h2⟩ := h; exact ⟨_, h2, fun w' e => sh_heap_queue_put.calls CV q0 id0 key0 hcv (h1 w' e)⟩
    · exact h.elim
def sh_heap_Heap_Set.plan : Plan := (.seq .o (.seq (.seq .o (.cond (.seq .o .o) .o)) (.seq .o (.seq .o .o))))
theorem sh_heap_Heap_Set.is (CV : CVT) (h0 : Option Addr) (id0 : Int) (key0 : Int) (w : World) (R : Value → World → Prop) : sh_heap_Heap_Set h0 id0 key0 (fun r0 w' => R (.bool r0) w') w = denF (cx_heap_queue_put.with CV) Try.f52 sh_heap_Heap_Set.plan [.v (.pointer h0), .v (.int .i64 id0), .v (.int .i64 key0)] w R := by kernel_rfl
theorem sh_heap_Heap_Set.calls (CV : CVT) (h0 : Option Addr) (id0 : Int) (key0 : Int) (hcv : CVOk Try.prog CV) {w : World} {R : Ending → World → Prop} (h : sh_heap_Heap_Set h0 id0 key0 (fun r0 w' => R (.returned (.bool r0)) w') w) : Calls Try.prog 52 #[(.pointer h0), (.int .i64 id0), (.int .i64 key0)] w R :=
  calls_is (cx := cx_heap_queue_put.with CV) mixed_Try (cx_heap_queue_put.ok.with CV) hcv Try.func52 sh_heap_Heap_Set.plan (xs := [.v (.pointer h0), .v (.int .i64 id0), .v (.int .i64 key0)]) ((args_cons _ (args_cons _ (args_cons _ args_nil)))) (by kernel_rfl) (sh_heap_Heap_Set.is CV h0 id0 key0 w (fun v w' => R (.returned v) w')) h
def sh_heap_Heap_Set.o : CVT → List X → (Value → World → Prop) → World → Prop
  | CV, [.v (.pointer h0), .v (.int .i64 id0), .v (.int .i64 key0)], K, w => sh_heap_Heap_Set h0 id0 key0 (fun r0 w' => K (.bool r0) w') w
  | _, _, _, _ => False
def sh_heap_Heap_Set.q : CVT → List X → World → (Value → Prop) → Prop
  | CV, [.v (.pointer h0), .v (.int .i64 id0), .v (.int .i64 key0)], w, K => Quiet (Bool) (fun r => (.bool r)) (fun K1 w' => sh_heap_Heap_Set h0 id0 key0 (fun r0 w'' => K1 r0 w'') w') w (fun r => K (.bool r))
  | _, _, _, _ => False
noncomputable def cx_heap_Heap_Set : Cx := Cx.add Try.prog cx_heap_queue_put 52 sh_heap_Heap_Set.o sh_heap_Heap_Set.q
theorem cx_heap_Heap_Set.ok : CxOk cx_heap_Heap_Set := by
  refine CxOk.add cx_heap_queue_put.ok rfl (fun CV hcv xs K w hx h => ?_) (fun CV hcv xs K w hx h => ?_)
  · unfold sh_heap_Heap_Set.o at h; split at h
    · rename_i h0 id0 key0; exact sh_heap_Heap_Set.calls CV h0 id0 key0 hcv h
    · exact h.elim
  · unfold sh_heap_Heap_Set.q at h; split at h
    · rename_i h0 id0 key0; obtain ⟨r, h1, h2⟩ := h; exact ⟨_, h2, fun w' e => sh_heap_Heap_Set.calls CV h0 id0 key0 hcv (h1 w' e)⟩
    · exact h.elim
def sh_heap_Heap_Len.plan : Plan := (.seq .o (.seq (.seq .o (.cond (.seq .o .o) .o)) (.seq .o .o)))
theorem sh_heap_Heap_Len.is (CV : CVT) (h0 : Option Addr) (w : World) (R : Value → World → Prop) : sh_heap_Heap_Len h0 (fun r0 w' => R (.int .i64 r0) w') w = denF (cx_heap_Heap_Set.with CV) Try.f63 sh_heap_Heap_Len.plan [.v (.pointer h0)] w R := by kernel_rfl
theorem sh_heap_Heap_Len.calls (CV : CVT) (h0 : Option Addr) (hcv : CVOk Try.prog CV) {w : World} {R : Ending → World → Prop} (h : sh_heap_Heap_Len h0 (fun r0 w' => R (.returned (.int .i64 r0)) w') w) : Calls Try.prog 63 #[(.pointer h0)] w R :=
  calls_is (cx := cx_heap_Heap_Set.with CV) mixed_Try (cx_heap_Heap_Set.ok.with CV) hcv Try.func63 sh_heap_Heap_Len.plan (xs := [.v (.pointer h0)]) ((args_cons _ args_nil)) (by kernel_rfl) (sh_heap_Heap_Len.is CV h0 w (fun v w' => R (.returned v) w')) h
def sh_heap_Heap_Len.o : CVT → List X → (Value → World → Prop) → World → Prop
  | CV, [.v (.pointer h0)], K, w => sh_heap_Heap_Len h0 (fun r0 w' => K (.int .i64 r0) w') w
  | _, _, _, _ => False
def sh_heap_Heap_Len.q : CVT → List X → World → (Value → Prop) → Prop
  | CV, [.v (.pointer h0)], w, K => Quiet (Int) (fun r => (.int .i64 r)) (fun K1 w' => sh_heap_Heap_Len h0 (fun r0 w'' => K1 r0 w'') w') w (fun r => K (.int .i64 r))
  | _, _, _, _ => False
noncomputable def cx_heap_Heap_Len : Cx := Cx.add Try.prog cx_heap_Heap_Set 63 sh_heap_Heap_Len.o sh_heap_Heap_Len.q
theorem cx_heap_Heap_Len.ok : CxOk cx_heap_Heap_Len := by
  refine CxOk.add cx_heap_Heap_Set.ok rfl (fun CV hcv xs K w hx h => ?_) (fun CV hcv xs K w hx h => ?_)
  · unfold sh_heap_Heap_Len.o at h; split at h
    · rename_i h0; exact sh_heap_Heap_Len.calls CV h0 hcv h
    · exact h.elim
  · unfold sh_heap_Heap_Len.q at h; split at h
    · rename_i h0; obtain ⟨r, h1, h2⟩ := h; exact ⟨_, h2, fun w' e => sh_heap_Heap_Len.calls CV h0 hcv (h1 w' e)⟩
    · exact h.elim
def sh_heap_Heap_First.plan : Plan := (.seq .o (.seq (.seq .o (.cond (.seq .o .o) .o)) (.seq (.draw [] [.pure, .pure, .pure, .pure, .quiet, .pure, .pure, .quiet, .pure, .pure, .pure, .pure, .quiet, .pure, .pure, .quiet, .pure, .pure, .pure] [0, 1, 2, 3, 4, 5, 6, 7, 8, 9, 10, 11, 12, 13, 14, 15, 16, 17, 18]) .o)))
theorem sh_heap_Heap_First.is (CV : CVT) (h0 : Option Addr) (w : World) (R : Value → World → Prop) : sh_heap_Heap_First h0 (fun r0 r1 r2 w' => R (.tuple #[(.int .i64 r0), (.int .i64 r1), (.bool r2)]) w') w = denF (cx_heap_Heap_Len.with CV) Try.f58 sh_heap_Heap_First.plan [.v (.pointer h0)] w R := by kernel_rfl
theorem sh_heap_Heap_First.calls (CV : CVT) (h0 : Option Addr) (hcv : CVOk Try.prog CV) {w : World} {R : Ending → World → Prop} (h : sh_heap_Heap_First h0 (fun r0 r1 r2 w' => R (.returned (.tuple #[(.int .i64 r0), (.int .i64 r1), (.bool r2)])) w') w) : Calls Try.prog 58 #[(.pointer h0)] w R :=
  calls_is (cx := cx_heap_Heap_Len.with CV) mixed_Try (cx_heap_Heap_Len.ok.with CV) hcv Try.func58 sh_heap_Heap_First.plan (xs := [.v (.pointer h0)]) ((args_cons _ args_nil)) (by kernel_rfl) (sh_heap_Heap_First.is CV h0 w (fun v w' => R (.returned v) w')) h
def sh_heap_Heap_First.o : CVT → List X → (Value → World → Prop) → World → Prop
  | CV, [.v (.pointer h0)], K, w => sh_heap_Heap_First h0 (fun r0 r1 r2 w' => K (.tuple #[(.int .i64 r0), (.int .i64 r1), (.bool r2)]) w') w
  | _, _, _, _ => False
def sh_heap_Heap_First.q : CVT → List X → World → (Value → Prop) → Prop
  | CV, [.v (.pointer h0)], w, K => Quiet (Int × Int × Bool) (fun r => (.tuple #[(.int .i64 r.1), (.int .i64 r.2.1), (.bool r.2.2)])) (fun K1 w' => sh_heap_Heap_First h0 (fun r0 r1 r2 w'' => K1 (r0, r1, r2) w'') w') w (fun r => K (.tuple #[(.int .i64 r.1), (.int .i64 r.2.1), (.bool r.2.2)]))
  | _, _, _, _ => False
noncomputable def cx_heap_Heap_First : Cx := Cx.add Try.prog cx_heap_Heap_Len 58 sh_heap_Heap_First.o sh_heap_Heap_First.q
theorem cx_heap_Heap_First.ok : CxOk cx_heap_Heap_First := by
  refine CxOk.add cx_heap_Heap_Len.ok rfl (fun CV hcv xs K w hx h => ?_) (fun CV hcv xs K w hx h => ?_)
  · unfold sh_heap_Heap_First.o at h; split at h
    · rename_i h0; exact sh_heap_Heap_First.calls CV h0 hcv h
    · exact h.elim
  · unfold sh_heap_Heap_First.q at h; split at h
    · rename_i h0; obtain ⟨r, h1, h2⟩ := h; exact ⟨_, h2, fun w' e => sh_heap_Heap_First.calls CV h0 hcv (h1 w' e)⟩
    · exact h.elim
def sh_heap_queue_drop.plan : Plan := (.seq (.draw [] [.pure, .pure, .pure, .quiet, .pure, .pure, .quiet, .pure, .pure, .pure, .pure, .quiet, .pure, .pure, .pure, .pure] [0, 1, 2, 3, 4, 5, 6, 7, 8, 9, 10, 11, 12, 13, 14, 15]) (.seq .o (.seq (.draw [] [.pure, .pure, .pure, .pure, .quiet, .pure, .pure, .pure, .pure, .quiet, .pure, .pure, .pure, .pure, .big, .pure, .big] [0, 1, 2, 3, 4, 5, 6, 7, 8, 9, 10, 11, 12, 13, 14, 15, 16]) (.seq (.seq .o (.cond .o .o)) (.seq .o (.seq .o (.draw [] [.pure, .pure, .pure, .pure, .quiet, .pure, .loc, .pure, .quiet, .pure, .big] [0, 1, 2, 3, 4, 5, 6, 7, 8, 9, 10])))))))
theorem sh_heap_queue_drop.is (CV : CVT) (q0 : Option Addr) (id0 : Int) (w : World) (R : Value → World → Prop) : sh_heap_queue_drop q0 id0 (fun w' => R (.tuple #[]) w') w = denF (cx_heap_Heap_First.with CV) Try.f59 sh_heap_queue_drop.plan [.v (.pointer q0), .v (.int .i64 id0)] w R := by kernel_rfl
theorem sh_heap_queue_drop.calls (CV : CVT) (q0 : Option Addr) (id0 : Int) (hcv : CVOk Try.prog CV) {w : World} {R : Ending → World → Prop} (h : sh_heap_queue_drop q0 id0 (fun w' => R (.returned (.tuple #[])) w') w) : Calls Try.prog 59 #[(.pointer q0), (.int .i64 id0)] w R :=
  calls_is (cx := cx_heap_Heap_First.with CV) mixed_Try (cx_heap_Heap_First.ok.with CV) hcv Try.func59 sh_heap_queue_drop.plan (xs := [.v (.pointer q0), .v (.int .i64 id0)]) ((args_cons _ (args_cons _ args_nil))) (by kernel_rfl) (sh_heap_queue_drop.is CV q0 id0 w (fun v w' => R (.returned v) w')) h
def sh_heap_queue_drop.o : CVT → List X → (Value → World → Prop) → World → Prop
  | CV, [.v (.pointer q0), .v (.int .i64 id0)], K, w => sh_heap_queue_drop q0 id0 (fun w' => K (.tuple #[]) w') w
  | _, _, _, _ => False
def sh_heap_queue_drop.q : CVT → List X → World → (Value → Prop) → Prop
  | CV, [.v (.pointer q0), .v (.int .i64 id0)], w, K => Quiet (Unit) (fun r => (.tuple #[])) (fun K1 w' => sh_heap_queue_drop q0 id0 (fun w'' => K1 () w'') w') w (fun r => K (.tuple #[]))
  | _, _, _, _ => False
noncomputable def cx_heap_queue_drop : Cx := Cx.add Try.prog cx_heap_Heap_First 59 sh_heap_queue_drop.o sh_heap_queue_drop.q
theorem cx_heap_queue_drop.ok : CxOk cx_heap_queue_drop := by
  refine CxOk.add cx_heap_Heap_First.ok rfl (fun CV hcv xs K w hx h => ?_) (fun CV hcv xs K w hx h => ?_)
  · unfold sh_heap_queue_drop.o at h; split at h
    · rename_i q0 id0; exact sh_heap_queue_drop.calls CV q0 id0 hcv h
    · exact h.elim
  · unfold sh_heap_queue_drop.q at h; split at h
    · rename_i q0 id0; obtain ⟨r, h1, h2⟩ := h; exact ⟨_, h2, fun w' e => sh_heap_queue_drop.calls CV q0 id0 hcv (h1 w' e)⟩
    · exact h.elim
def sh_heap_Heap_Pop.plan : Plan := (.seq .o (.seq .o (.join [] [] (.seq .o (.cond .o .o)) (.seq .o .o))))
theorem sh_heap_Heap_Pop.is (CV : CVT) (h0 : Option Addr) (w : World) (R : Value → World → Prop) : sh_heap_Heap_Pop h0 (fun r0 r1 r2 w' => R (.tuple #[(.int .i64 r0), (.int .i64 r1), (.bool r2)]) w') w = denF (cx_heap_queue_drop.with CV) Try.f53 sh_heap_Heap_Pop.plan [.v (.pointer h0)] w R := by kernel_rfl
theorem sh_heap_Heap_Pop.calls (CV : CVT) (h0 : Option Addr) (hcv : CVOk Try.prog CV) {w : World} {R : Ending → World → Prop} (h : sh_heap_Heap_Pop h0 (fun r0 r1 r2 w' => R (.returned (.tuple #[(.int .i64 r0), (.int .i64 r1), (.bool r2)])) w') w) : Calls Try.prog 53 #[(.pointer h0)] w R :=
  calls_is (cx := cx_heap_queue_drop.with CV) mixed_Try (cx_heap_queue_drop.ok.with CV) hcv Try.func53 sh_heap_Heap_Pop.plan (xs := [.v (.pointer h0)]) ((args_cons _ args_nil)) (by kernel_rfl) (sh_heap_Heap_Pop.is CV h0 w (fun v w' => R (.returned v) w')) h
def sh_heap_Heap_Pop.o : CVT → List X → (Value → World → Prop) → World → Prop
  | CV, [.v (.pointer h0)], K, w => sh_heap_Heap_Pop h0 (fun r0 r1 r2 w' => K (.tuple #[(.int .i64 r0), (.int .i64 r1), (.bool r2)]) w') w
  | _, _, _, _ => False
def sh_heap_Heap_Pop.q : CVT → List X → World → (Value → Prop) → Prop
  | CV, [.v (.pointer h0)], w, K => Quiet (Int × Int × Bool) (fun r => (.tuple #[(.int .i64 r.1), (.int .i64 r.2.1), (.bool r.2.2)])) (fun K1 w' => sh_heap_Heap_Pop h0 (fun r0 r1 r2 w'' => K1 (r0, r1, r2) w'') w') w (fun r => K (.tuple #[(.int .i64 r.1), (.int .i64 r.2.1), (.bool r.2.2)]))
  | _, _, _, _ => False
noncomputable def cx_heap_Heap_Pop : Cx := Cx.add Try.prog cx_heap_queue_drop 53 sh_heap_Heap_Pop.o sh_heap_Heap_Pop.q
theorem cx_heap_Heap_Pop.ok : CxOk cx_heap_Heap_Pop := by
  refine CxOk.add cx_heap_queue_drop.ok rfl (fun CV hcv xs K w hx h => ?_) (fun CV hcv xs K w hx h => ?_)
  · unfold sh_heap_Heap_Pop.o at h; split at h
    · rename_i h0; exact sh_heap_Heap_Pop.calls CV h0 hcv h
    · exact h.elim
  · unfold sh_heap_Heap_Pop.q at h; split at h
    · rename_i h0; obtain ⟨r, h1, h2⟩ := h; exact ⟨_, h2, fun w' e => sh_heap_Heap_Pop.calls CV h0 hcv (h1 w' e)⟩
    · exact h.elim
def sh_heap_Heap_Key.plan : Plan := (.seq .o (.seq (.seq .o (.cond (.seq .o .o) .o)) (.seq (.draw [] [.pure, .pure, .pure, .pure, .quiet, .pure, .pure, .pure, .pure, .quiet, .pure, .pure, .quiet, .pure, .pure, .pure, .quiet, .pure, .pure] [0, 1, 2, 3, 4, 5, 6, 7, 8, 9, 10, 11, 12, 13, 14, 15, 16, 17, 18]) .o)))
theorem sh_heap_Heap_Key.is (CV : CVT) (h0 : Option Addr) (id0 : Int) (w : World) (R : Value → World → Prop) : sh_heap_Heap_Key h0 id0 (fun r0 r1 w' => R (.tuple #[(.int .i64 r0), (.bool r1)]) w') w = denF (cx_heap_Heap_Pop.with CV) Try.f54 sh_heap_Heap_Key.plan [.v (.pointer h0), .v (.int .i64 id0)] w R := by kernel_rfl
theorem sh_heap_Heap_Key.calls (CV : CVT) (h0 : Option Addr) (id0 : Int) (hcv : CVOk Try.prog CV) {w : World} {R : Ending → World → Prop} (h : sh_heap_Heap_Key h0 id0 (fun r0 r1 w' => R (.returned (.tuple #[(.int .i64 r0), (.bool r1)])) w') w) : Calls Try.prog 54 #[(.pointer h0), (.int .i64 id0)] w R :=
  calls_is (cx := cx_heap_Heap_Pop.with CV) mixed_Try (cx_heap_Heap_Pop.ok.with CV) hcv Try.func54 sh_heap_Heap_Key.plan (xs := [.v (.pointer h0), .v (.int .i64 id0)]) ((args_cons _ (args_cons _ args_nil))) (by kernel_rfl) (sh_heap_Heap_Key.is CV h0 id0 w (fun v w' => R (.returned v) w')) h
def sh_heap_Heap_Key.o : CVT → List X → (Value → World → Prop) → World → Prop
  | CV, [.v (.pointer h0), .v (.int .i64 id0)], K, w => sh_heap_Heap_Key h0 id0 (fun r0 r1 w' => K (.tuple #[(.int .i64 r0), (.bool r1)]) w') w
  | _, _, _, _ => False
def sh_heap_Heap_Key.q : CVT → List X → World → (Value → Prop) → Prop
  | CV, [.v (.pointer h0), .v (.int .i64 id0)], w, K => Quiet (Int × Bool) (fun r => (.tuple #[(.int .i64 r.1), (.bool r.2)])) (fun K1 w' => sh_heap_Heap_Key h0 id0 (fun r0 r1 w'' => K1 (r0, r1) w'') w') w (fun r => K (.tuple #[(.int .i64 r.1), (.bool r.2)]))
  | _, _, _, _ => False
noncomputable def cx_heap_Heap_Key : Cx := Cx.add Try.prog cx_heap_Heap_Pop 54 sh_heap_Heap_Key.o sh_heap_Heap_Key.q
theorem cx_heap_Heap_Key.ok : CxOk cx_heap_Heap_Key := by
  refine CxOk.add cx_heap_Heap_Pop.ok rfl (fun CV hcv xs K w hx h => ?_) (fun CV hcv xs K w hx h => ?_)
  · unfold sh_heap_Heap_Key.o at h; split at h
    · rename_i h0 id0; exact sh_heap_Heap_Key.calls CV h0 id0 hcv h
    · exact h.elim
  · unfold sh_heap_Heap_Key.q at h; split at h
    · rename_i h0 id0; obtain ⟨r, h1, h2⟩ := h; exact ⟨_, h2, fun w' e => sh_heap_Heap_Key.calls CV h0 id0 hcv (h1 w' e)⟩
    · exact h.elim
def sh_dist_least.plan : Plan := (.seq .o (.scope (.seq (.seq .o (.cond (.seq .o .o) .o)) (.seq .o (.join [] [] (.seq .o (.block (.loop [.slot 28 (.int .i64)] [] (.seq .o (.seq (.cond .o .o) (.seq (.block (.seq .o .o)) .o)))))) (.seq .o (.seq .o (.seq .o (.seq (.block (.loop [] [] (.block (.seq .o (.seq (.seq .o (.cond .o .o)) (.seq .o (.seq .o (.block (.loop [.slot 56 (.int .i64)] [] (.seq .o (.seq (.cond .o .o) (.seq (.block (.seq .o (.seq .o (.seq .o (.cond .o .o))))) .o)))))))))))) (.seq .o .o))))))))))
theorem sh_dist_least.is (CV : CVT) (n0 : Int) (s0 : Int) (edges0 : Value) (w : World) (R : Value → World → Prop) : sh_dist_least CV n0 s0 edges0 (fun r0 w' => R (.slice r0.a r0.len r0.cap) w') w = denF (cx_heap_Heap_Key.with CV) Try.f41 sh_dist_least.plan [.v (.int .i64 n0), .v (.int .i64 s0), .v edges0] w R := by kernel_rfl
theorem sh_dist_least.calls (CV : CVT) (n0 : Int) (s0 : Int) (edges0 : Value) (hcv : CVOk Try.prog CV) {w : World} {R : Ending → World → Prop} (h : sh_dist_least CV n0 s0 edges0 (fun r0 w' => R (.returned (.slice r0.a r0.len r0.cap)) w') w) : Calls Try.prog 41 #[(.int .i64 n0), (.int .i64 s0), edges0] w R :=
  calls_is (cx := cx_heap_Heap_Key.with CV) mixed_Try (cx_heap_Heap_Key.ok.with CV) hcv Try.func41 sh_dist_least.plan (xs := [.v (.int .i64 n0), .v (.int .i64 s0), .v edges0]) ((args_cons _ (args_cons _ (args_cons _ args_nil)))) (by kernel_rfl) (sh_dist_least.is CV n0 s0 edges0 w (fun v w' => R (.returned v) w')) h
def sh_dist_least.o : CVT → List X → (Value → World → Prop) → World → Prop
  | CV, [.v (.int .i64 n0), .v (.int .i64 s0), .v (edges0)], K, w => sh_dist_least CV n0 s0 edges0 (fun r0 w' => K (.slice r0.a r0.len r0.cap) w') w
  | _, _, _, _ => False
def sh_dist_least.q : CVT → List X → World → (Value → Prop) → Prop
  | CV, [.v (.int .i64 n0), .v (.int .i64 s0), .v (edges0)], w, K => Quiet (SV) (fun r => (.slice r.a r.len r.cap)) (fun K1 w' => sh_dist_least CV n0 s0 edges0 (fun r0 w'' => K1 r0 w'') w') w (fun r => K (.slice r.a r.len r.cap))
  | _, _, _, _ => False
noncomputable def cx_dist_least : Cx := Cx.add Try.prog cx_heap_Heap_Key 41 sh_dist_least.o sh_dist_least.q
theorem cx_dist_least.ok : CxOk cx_dist_least := by
  refine CxOk.add cx_heap_Heap_Key.ok rfl (fun CV hcv xs K w hx h => ?_) (fun CV hcv xs K w hx h => ?_)
  · unfold sh_dist_least.o at h; split at h
    · rename_i n0 s0 edges0; exact sh_dist_least.calls CV n0 s0 edges0 hcv h
    · exact h.elim
  · unfold sh_dist_least.q at h; split at h
    · rename_i n0 s0 edges0; obtain ⟨r, h1, h2⟩ := h; exact ⟨_, h2, fun w' e => sh_dist_least.calls CV n0 s0 edges0 hcv (h1 w' e)⟩
    · exact h.elim
def sh_dist_From.plan : Plan := (.seq .o (.seq .o .o))
theorem sh_dist_From.is (CV : CVT) (g0 : Option Addr) (s0 : Int) (w : World) (R : Value → World → Prop) : sh_dist_From CV g0 s0 (fun r0 w' => R (.slice r0.a r0.len r0.cap) w') w = denF (cx_dist_least.with CV) Try.f12 sh_dist_From.plan [.v (.pointer g0), .v (.int .i64 s0)] w R := by kernel_rfl
theorem sh_dist_From.calls (CV : CVT) (g0 : Option Addr) (s0 : Int) (hcv : CVOk Try.prog CV) {w : World} {R : Ending → World → Prop} (h : sh_dist_From CV g0 s0 (fun r0 w' => R (.returned (.slice r0.a r0.len r0.cap)) w') w) : Calls Try.prog 12 #[(.pointer g0), (.int .i64 s0)] w R :=
  calls_is (cx := cx_dist_least.with CV) mixed_Try (cx_dist_least.ok.with CV) hcv Try.func12 sh_dist_From.plan (xs := [.v (.pointer g0), .v (.int .i64 s0)]) ((args_cons _ (args_cons _ args_nil))) (by kernel_rfl) (sh_dist_From.is CV g0 s0 w (fun v w' => R (.returned v) w')) h
def sh_dist_From.o : CVT → List X → (Value → World → Prop) → World → Prop
  | CV, [.v (.pointer g0), .v (.int .i64 s0)], K, w => sh_dist_From CV g0 s0 (fun r0 w' => K (.slice r0.a r0.len r0.cap) w') w
  | _, _, _, _ => False
def sh_dist_From.q : CVT → List X → World → (Value → Prop) → Prop
  | CV, [.v (.pointer g0), .v (.int .i64 s0)], w, K => Quiet (SV) (fun r => (.slice r.a r.len r.cap)) (fun K1 w' => sh_dist_From CV g0 s0 (fun r0 w'' => K1 r0 w'') w') w (fun r => K (.slice r.a r.len r.cap))
  | _, _, _, _ => False
noncomputable def cx_dist_From : Cx := Cx.add Try.prog cx_dist_least 12 sh_dist_From.o sh_dist_From.q
theorem cx_dist_From.ok : CxOk cx_dist_From := by
  refine CxOk.add cx_dist_least.ok rfl (fun CV hcv xs K w hx h => ?_) (fun CV hcv xs K w hx h => ?_)
  · unfold sh_dist_From.o at h; split at h
    · rename_i g0 s0; exact sh_dist_From.calls CV g0 s0 hcv h
    · exact h.elim
  · unfold sh_dist_From.q at h; split at h
    · rename_i g0 s0; obtain ⟨r, h1, h2⟩ := h; exact ⟨_, h2, fun w' e => sh_dist_From.calls CV g0 s0 hcv (h1 w' e)⟩
    · exact h.elim
def sh_graph_Graph_In.plan : Plan := (.seq .o (.seq (.seq .o (.cond (.seq .o .o) .o)) (.seq .o .o)))
theorem sh_graph_Graph_In.is (CV : CVT) (g0 : Option Addr) (v0 : Int) (w : World) (R : Value → World → Prop) : sh_graph_Graph_In g0 v0 (fun r0 w' => R (.slice r0.a r0.len r0.cap) w') w = denF (cx_dist_From.with CV) Try.f13 sh_graph_Graph_In.plan [.v (.pointer g0), .v (.int .i64 v0)] w R := by kernel_rfl
theorem sh_graph_Graph_In.calls (CV : CVT) (g0 : Option Addr) (v0 : Int) (hcv : CVOk Try.prog CV) {w : World} {R : Ending → World → Prop} (h : sh_graph_Graph_In g0 v0 (fun r0 w' => R (.returned (.slice r0.a r0.len r0.cap)) w') w) : Calls Try.prog 13 #[(.pointer g0), (.int .i64 v0)] w R :=
  calls_is (cx := cx_dist_From.with CV) mixed_Try (cx_dist_From.ok.with CV) hcv Try.func13 sh_graph_Graph_In.plan (xs := [.v (.pointer g0), .v (.int .i64 v0)]) ((args_cons _ (args_cons _ args_nil))) (by kernel_rfl) (sh_graph_Graph_In.is CV g0 v0 w (fun v w' => R (.returned v) w')) h
def sh_graph_Graph_In.o : CVT → List X → (Value → World → Prop) → World → Prop
  | CV, [.v (.pointer g0), .v (.int .i64 v0)], K, w => sh_graph_Graph_In g0 v0 (fun r0 w' => K (.slice r0.a r0.len r0.cap) w') w
  | _, _, _, _ => False
def sh_graph_Graph_In.q : CVT → List X → World → (Value → Prop) → Prop
  | CV, [.v (.pointer g0), .v (.int .i64 v0)], w, K => Quiet (SV) (fun r => (.slice r.a r.len r.cap)) (fun K1 w' => sh_graph_Graph_In g0 v0 (fun r0 w'' => K1 r0 w'') w') w (fun r => K (.slice r.a r.len r.cap))
  | _, _, _, _ => False
noncomputable def cx_graph_Graph_In : Cx := Cx.add Try.prog cx_dist_From 13 sh_graph_Graph_In.o sh_graph_Graph_In.q
theorem cx_graph_Graph_In.ok : CxOk cx_graph_Graph_In := by
  refine CxOk.add cx_dist_From.ok rfl (fun CV hcv xs K w hx h => ?_) (fun CV hcv xs K w hx h => ?_)
  · unfold sh_graph_Graph_In.o at h; split at h
    · rename_i g0 v0; exact sh_graph_Graph_In.calls CV g0 v0 hcv h
    · exact h.elim
  · unfold sh_graph_Graph_In.q at h; split at h
    · rename_i g0 v0; obtain ⟨r, h1, h2⟩ := h; exact ⟨_, h2, fun w' e => sh_graph_Graph_In.calls CV g0 v0 hcv (h1 w' e)⟩
    · exact h.elim
def sh_postroadref00_SameInts.plan : Plan := (.seq .o (.seq (.seq .o (.cond (.seq .o .o) .o)) (.seq (.seq .o (.block (.loop [.slot 5 (.int .i64)] [] (.seq (.seq .o (.cond .o .o)) (.seq (.block (.seq (.draw [] [.pure, .pure, .pure, .quiet, .pure, .pure, .pure, .quiet, .pure] [0, 1, 2, 3, 4, 5, 6, 7, 8]) (.cond (.seq .o .o) .o))) .o))))) (.seq .o .o))))
theorem sh_postroadref00_SameInts.is (CV : CVT) (a0 : SV) (b0 : SV) (w : World) (R : Value → World → Prop) : sh_postroadref00_SameInts a0 b0 (fun r0 w' => R (.bool r0) w') w = denF (cx_graph_Graph_In.with CV) Try.f15 sh_postroadref00_SameInts.plan [.v (.slice a0.a a0.len a0.cap), .v (.slice b0.a b0.len b0.cap)] w R := by kernel_rfl
theorem sh_postroadref00_SameInts.calls (CV : CVT) (a0 : SV) (b0 : SV) (hcv : CVOk Try.prog CV) {w : World} {R : Ending → World → Prop} (h : sh_postroadref00_SameInts a0 b0 (fun r0 w' => R (.returned (.bool r0)) w') w) : Calls Try.prog 15 #[(.slice a0.a a0.len a0.cap), (.slice b0.a b0.len b0.cap)] w R :=
  calls_is (cx := cx_graph_Graph_In.with CV) mixed_Try (cx_graph_Graph_In.ok.with CV) hcv Try.func15 sh_postroadref00_SameInts.plan (xs := [.v (.slice a0.a a0.len a0.cap), .v (.slice b0.a b0.len b0.cap)]) ((args_cons _ (args_cons _ args_nil))) (by kernel_rfl) (sh_postroadref00_SameInts.is CV a0 b0 w (fun v w' => R (.returned v) w')) h
def sh_postroadref00_SameInts.o : CVT → List X → (Value → World → Prop) → World → Prop
  | CV, [.v (.slice a0_a a0_l a0_c), .v (.slice b0_a b0_l b0_c)], K, w => sh_postroadref00_SameInts ⟨a0_a, a0_l, a0_c⟩ ⟨b0_a, b0_l, b0_c⟩ (fun r0 w' => K (.bool r0) w') w
  | _, _, _, _ => False
def sh_postroadref00_SameInts.q : CVT → List X → World → (Value → Prop) → Prop
  | CV, [.v (.slice a0_a a0_l a0_c), .v (.slice b0_a b0_l b0_c)], w, K => Quiet (Bool) (fun r => (.bool r)) (fun K1 w' => sh_postroadref00_SameInts ⟨a0_a, a0_l, a0_c⟩ ⟨b0_a, b0_l, b0_c⟩ (fun r0 w'' => K1 r0 w'') w') w (fun r => K (.bool r))
  | _, _, _, _ => False
noncomputable def cx_postroadref00_SameInts : Cx := Cx.add Try.prog cx_graph_Graph_In 15 sh_postroadref00_SameInts.o sh_postroadref00_SameInts.q
theorem cx_postroadref00_SameInts.ok : CxOk cx_postroadref00_SameInts := by
  refine CxOk.add cx_graph_Graph_In.ok rfl (fun CV hcv xs K w hx h => ?_) (fun CV hcv xs K w hx h => ?_)
  · unfold sh_postroadref00_SameInts.o at h; split at h
    · rename_i a0_a a0_l a0_c b0_a b0_l b0_c; exact sh_postroadref00_SameInts.calls CV ⟨a0_a, a0_l, a0_c⟩ ⟨b0_a, b0_l, b0_c⟩ hcv h
    · exact h.elim
  · unfold sh_postroadref00_SameInts.q at h; split at h
    · rename_i a0_a a0_l a0_c b0_a b0_l b0_c; obtain ⟨r, h1, h2⟩ := h; exact ⟨_, h2, fun w' e => sh_postroadref00_SameInts.calls CV ⟨a0_a, a0_l, a0_c⟩ ⟨b0_a, b0_l, b0_c⟩ hcv (h1 w' e)⟩
    · exact h.elim
def sh_dist_To.plan : Plan := (.seq .o (.seq .o .o))
theorem sh_dist_To.is (CV : CVT) (g0 : Option Addr) (t0 : Int) (w : World) (R : Value → World → Prop) : sh_dist_To CV g0 t0 (fun r0 w' => R (.slice r0.a r0.len r0.cap) w') w = denF (cx_postroadref00_SameInts.with CV) Try.f16 sh_dist_To.plan [.v (.pointer g0), .v (.int .i64 t0)] w R := by kernel_rfl
theorem sh_dist_To.calls (CV : CVT) (g0 : Option Addr) (t0 : Int) (hcv : CVOk Try.prog CV) {w : World} {R : Ending → World → Prop} (h : sh_dist_To CV g0 t0 (fun r0 w' => R (.returned (.slice r0.a r0.len r0.cap)) w') w) : Calls Try.prog 16 #[(.pointer g0), (.int .i64 t0)] w R :=
  calls_is (cx := cx_postroadref00_SameInts.with CV) mixed_Try (cx_postroadref00_SameInts.ok.with CV) hcv Try.func16 sh_dist_To.plan (xs := [.v (.pointer g0), .v (.int .i64 t0)]) ((args_cons _ (args_cons _ args_nil))) (by kernel_rfl) (sh_dist_To.is CV g0 t0 w (fun v w' => R (.returned v) w')) h
def sh_dist_To.o : CVT → List X → (Value → World → Prop) → World → Prop
  | CV, [.v (.pointer g0), .v (.int .i64 t0)], K, w => sh_dist_To CV g0 t0 (fun r0 w' => K (.slice r0.a r0.len r0.cap) w') w
  | _, _, _, _ => False
def sh_dist_To.q : CVT → List X → World → (Value → Prop) → Prop
  | CV, [.v (.pointer g0), .v (.int .i64 t0)], w, K => Quiet (SV) (fun r => (.slice r.a r.len r.cap)) (fun K1 w' => sh_dist_To CV g0 t0 (fun r0 w'' => K1 r0 w'') w') w (fun r => K (.slice r.a r.len r.cap))
  | _, _, _, _ => False
noncomputable def cx_dist_To : Cx := Cx.add Try.prog cx_postroadref00_SameInts 16 sh_dist_To.o sh_dist_To.q
theorem cx_dist_To.ok : CxOk cx_dist_To := by
  refine CxOk.add cx_postroadref00_SameInts.ok rfl (fun CV hcv xs K w hx h => ?_) (fun CV hcv xs K w hx h => ?_)
  · unfold sh_dist_To.o at h; split at h
    · rename_i g0 t0; exact sh_dist_To.calls CV g0 t0 hcv h
    · exact h.elim
  · unfold sh_dist_To.q at h; split at h
    · rename_i g0 t0; obtain ⟨r, h1, h2⟩ := h; exact ⟨_, h2, fun w' e => sh_dist_To.calls CV g0 t0 hcv (h1 w' e)⟩
    · exact h.elim
def sh_postroadlaw07_known.plan : Plan := (.seq .o (.seq .o (.seq .o .o)))
theorem sh_postroadlaw07_known.is (CV : CVT) (w : World) (R : Value → World → Prop) : sh_postroadlaw07_known CV (fun r0 w' => R (.bool r0) w') w = denF (cx_dist_To.with CV) Try.f14 sh_postroadlaw07_known.plan [] w R := by kernel_rfl
theorem sh_postroadlaw07_known.calls (CV : CVT) (hcv : CVOk Try.prog CV) {w : World} {R : Ending → World → Prop} (h : sh_postroadlaw07_known CV (fun r0 w' => R (.returned (.bool r0)) w') w) : Calls Try.prog 14 #[] w R :=
  calls_is (cx := cx_dist_To.with CV) mixed_Try (cx_dist_To.ok.with CV) hcv Try.func14 sh_postroadlaw07_known.plan (xs := []) (args_nil) (by kernel_rfl) (sh_postroadlaw07_known.is CV w (fun v w' => R (.returned v) w')) h
def sh_postroadlaw07_known.o : CVT → List X → (Value → World → Prop) → World → Prop
  | CV, [], K, w => sh_postroadlaw07_known CV (fun r0 w' => K (.bool r0) w') w
  | _, _, _, _ => False
def sh_postroadlaw07_known.q : CVT → List X → World → (Value → Prop) → Prop
  | CV, [], w, K => Quiet (Bool) (fun r => (.bool r)) (fun K1 w' => sh_postroadlaw07_known CV (fun r0 w'' => K1 r0 w'') w') w (fun r => K (.bool r))
  | _, _, _, _ => False
noncomputable def cx_postroadlaw07_known : Cx := Cx.add Try.prog cx_dist_To 14 sh_postroadlaw07_known.o sh_postroadlaw07_known.q
theorem cx_postroadlaw07_known.ok : CxOk cx_postroadlaw07_known := by
  refine CxOk.add cx_dist_To.ok rfl (fun CV hcv xs K w hx h => ?_) (fun CV hcv xs K w hx h => ?_)
  · unfold sh_postroadlaw07_known.o at h; split at h
    · exact sh_postroadlaw07_known.calls CV hcv h
    · exact h.elim
  · unfold sh_postroadlaw07_known.q at h; split at h
    · obtain ⟨r, h1, h2⟩ := h; exact ⟨_, h2, fun w' e => sh_postroadlaw07_known.calls CV hcv (h1 w' e)⟩
    · exact h.elim
def sh_postroadlaw07_DistSteps.plan : Plan := (.seq .o (.seq .o (.seq .o (.seq .o (.seq .o (.seq (.seq .o (.cond (.seq .o .o) .o)) (.join [] [] (.seq .o (.block (.loop [.slot 11 (.int .i64)] [] (.seq (.seq .o (.cond .o .o)) (.join [] [] (.block (.seq .o (.seq .o (.join [.slot 13 .bool] [] (.seq .o (.block (.loop [.slot 13 .bool, .slot 14 (.int .i64)] [] (.seq (.seq .o (.cond .o .o)) (.join [.slot 13 .bool] [] (.block (.seq .o (.join [] [] (.seq (.draw [] [.pure, .pure, .pure, .pure, .pure, .pure, .quiet, .pure, .pure, .pure, .pure, .pure, .quiet, .pure, .pure, .pure, .pure, .pure, .quiet, .pure, .pure, .pure, .pure] [0, 1, 2, 3, 4, 5, 6, 7, 8, 9, 10, 11, 12, 13, 14, 15, 16, 17, 18, 19, 20, 21, 22]) (.cond (.seq .o .o) .o)) (.draw [] [.pure, .pure, .pure, .pure, .pure, .pure, .pure, .pure, .quiet, .pure, .pure, .pure, .pure, .pure, .quiet, .pure, .pure, .pure, .pure, .pure] [0, 1, 2, 3, 4, 5, 6, 7, 8, 9, 10, 11, 12, 13, 14, 15, 16, 17, 18, 19])))) .o))))) (.seq .o (.cond (.seq .o .o) .o)))))) .o))))) (.seq .o .o))))))))
theorem sh_postroadlaw07_DistSteps.is (CV : CVT) (n0 : Int) (arcs0 : SV) (a0 : Int) (w : World) (R : Value → World → Prop) : sh_postroadlaw07_DistSteps CV n0 arcs0 a0 (fun r0 w' => R (.bool r0) w') w = denF (cx_postroadlaw07_known.with CV) Try.f3 sh_postroadlaw07_DistSteps.plan [.v (.int .i64 n0), .v (.slice arcs0.a arcs0.len arcs0.cap), .v (.int .u8 a0)] w R := by kernel_rfl
theorem sh_postroadlaw07_DistSteps.calls (CV : CVT) (n0 : Int) (arcs0 : SV) (a0 : Int) (hcv : CVOk Try.prog CV) {w : World} {R : Ending → World → Prop} (h : sh_postroadlaw07_DistSteps CV n0 arcs0 a0 (fun r0 w' => R (.returned (.bool r0)) w') w) : Calls Try.prog 3 #[(.int .i64 n0), (.slice arcs0.a arcs0.len arcs0.cap), (.int .u8 a0)] w R :=
  calls_is (cx := cx_postroadlaw07_known.with CV) mixed_Try (cx_postroadlaw07_known.ok.with CV) hcv Try.func3 sh_postroadlaw07_DistSteps.plan (xs := [.v (.int .i64 n0), .v (.slice arcs0.a arcs0.len arcs0.cap), .v (.int .u8 a0)]) ((args_cons _ (args_cons _ (args_cons _ args_nil)))) (by kernel_rfl) (sh_postroadlaw07_DistSteps.is CV n0 arcs0 a0 w (fun v w' => R (.returned v) w')) h
def sh_postroadlaw07_DistSteps.o : CVT → List X → (Value → World → Prop) → World → Prop
  | CV, [.v (.int .i64 n0), .v (.slice arcs0_a arcs0_l arcs0_c), .v (.int .u8 a0)], K, w => sh_postroadlaw07_DistSteps CV n0 ⟨arcs0_a, arcs0_l, arcs0_c⟩ a0 (fun r0 w' => K (.bool r0) w') w
  | _, _, _, _ => False
def sh_postroadlaw07_DistSteps.q : CVT → List X → World → (Value → Prop) → Prop
  | CV, [.v (.int .i64 n0), .v (.slice arcs0_a arcs0_l arcs0_c), .v (.int .u8 a0)], w, K => Quiet (Bool) (fun r => (.bool r)) (fun K1 w' => sh_postroadlaw07_DistSteps CV n0 ⟨arcs0_a, arcs0_l, arcs0_c⟩ a0 (fun r0 w'' => K1 r0 w'') w') w (fun r => K (.bool r))
  | _, _, _, _ => False
noncomputable def cx_postroadlaw07_DistSteps : Cx := Cx.add Try.prog cx_postroadlaw07_known 3 sh_postroadlaw07_DistSteps.o sh_postroadlaw07_DistSteps.q
theorem cx_postroadlaw07_DistSteps.ok : CxOk cx_postroadlaw07_DistSteps := by
  refine CxOk.add cx_postroadlaw07_known.ok rfl (fun CV hcv xs K w hx h => ?_) (fun CV hcv xs K w hx h => ?_)
  · unfold sh_postroadlaw07_DistSteps.o at h; split at h
    · rename_i n0 arcs0_a arcs0_l arcs0_c a0; exact sh_postroadlaw07_DistSteps.calls CV n0 ⟨arcs0_a, arcs0_l, arcs0_c⟩ a0 hcv h
    · exact h.elim
  · unfold sh_postroadlaw07_DistSteps.q at h; split at h
    · rename_i n0 arcs0_a arcs0_l arcs0_c a0; obtain ⟨r, h1, h2⟩ := h; exact ⟨_, h2, fun w' e => sh_postroadlaw07_DistSteps.calls CV n0 ⟨arcs0_a, arcs0_l, arcs0_c⟩ a0 hcv (h1 w' e)⟩
    · exact h.elim
def sh_postroadlaw07_DistTimes.plan : Plan := (.seq .o (.seq .o (.seq .o (.join [.box 10 [(.int .i64), .slice]] [] (.seq .o (.block (.loop [.slot 11 (.int .i64), .box 10 [(.int .i64), .slice]] [] (.seq (.seq .o (.cond .o .o)) (.seq (.block (.seq (.draw [] [.pure, .loc, .pure, .pure, .loc, .pure, .pure, .pure, .quiet, .pure, .pure, .pure, .big] [0, 1, 2, 3, 4, 5, 6, 7, 8, 9, 10, 11, 12]) (.draw [] [.pure, .loc, .pure, .loc, .pure, .pure, .pure, .quiet, .pure, .loc, .pure, .pure, .pure, .quiet, .pure, .loc, .pure, .pure, .pure, .quiet, .pure, .pure, .pure, .pure, .new, .big, .pure, .big] [0, 1, 2, 3, 4, 5, 6, 7, 8, 9, 10, 11, 12, 13, 14, 15, 16, 17, 18, 19, 20, 21, 22, 23, 24, 25, 26, 27]))) .o))))) (.seq .o (.seq .o (.seq .o (.seq (.seq .o (.cond (.seq .o .o) .o)) (.join [] [] (.seq .o (.block (.loop [.slot 15 (.int .i64)] [] (.seq (.seq .o (.cond .o .o)) (.join [] [] (.block (.seq (.draw [] [.pure, .pure, .pure, .quiet, .pure, .pure, .pure, .pure, .quiet, .pure, .pure, .pure, .pure, .pure, .pure, .quiet, .pure, .pure, .pure, .pure, .pure, .quiet, .pure, .pure, .pure, .quiet, .pure, .pure, .pure, .pure, .pure, .pure] [0, 1, 2, 3, 4, 5, 6, 7, 8, 9, 10, 11, 12, 13, 14, 15, 16, 17, 18, 19, 20, 21, 22, 23, 24, 25, 26, 27, 28, 29, 30, 31]) (.cond (.seq .o .o) .o))) .o))))) (.seq .o .o))))))))))
theorem sh_postroadlaw07_DistTimes.is (CV : CVT) (n0 : Int) (arcs0 : SV) (a0 : Int) (times0 : Int) (w : World) (R : Value → World → Prop) : sh_postroadlaw07_DistTimes CV n0 arcs0 a0 times0 (fun r0 w' => R (.bool r0) w') w = denF (cx_postroadlaw07_DistSteps.with CV) Try.f4 sh_postroadlaw07_DistTimes.plan [.v (.int .i64 n0), .v (.slice arcs0.a arcs0.len arcs0.cap), .v (.int .u8 a0), .v (.int .u8 times0)] w R := by kernel_rfl
theorem sh_postroadlaw07_DistTimes.calls (CV : CVT) (n0 : Int) (arcs0 : SV) (a0 : Int) (times0 : Int) (hcv : CVOk Try.prog CV) {w : World} {R : Ending → World → Prop} (h : sh_postroadlaw07_DistTimes CV n0 arcs0 a0 times0 (fun r0 w' => R (.returned (.bool r0)) w') w) : Calls Try.prog 4 #[(.int .i64 n0), (.slice arcs0.a arcs0.len arcs0.cap), (.int .u8 a0), (.int .u8 times0)] w R :=
  calls_is (cx := cx_postroadlaw07_DistSteps.with CV) mixed_Try (cx_postroadlaw07_DistSteps.ok.with CV) hcv Try.func4 sh_postroadlaw07_DistTimes.plan (xs := [.v (.int .i64 n0), .v (.slice arcs0.a arcs0.len arcs0.cap), .v (.int .u8 a0), .v (.int .u8 times0)]) ((args_cons _ (args_cons _ (args_cons _ (args_cons _ args_nil))))) (by kernel_rfl) (sh_postroadlaw07_DistTimes.is CV n0 arcs0 a0 times0 w (fun v w' => R (.returned v) w')) h
def sh_postroadlaw07_DistTimes.o : CVT → List X → (Value → World → Prop) → World → Prop
  | CV, [.v (.int .i64 n0), .v (.slice arcs0_a arcs0_l arcs0_c), .v (.int .u8 a0), .v (.int .u8 times0)], K, w => sh_postroadlaw07_DistTimes CV n0 ⟨arcs0_a, arcs0_l, arcs0_c⟩ a0 times0 (fun r0 w' => K (.bool r0) w') w
  | _, _, _, _ => False
def sh_postroadlaw07_DistTimes.q : CVT → List X → World → (Value → Prop) → Prop
  | CV, [.v (.int .i64 n0), .v (.slice arcs0_a arcs0_l arcs0_c), .v (.int .u8 a0), .v (.int .u8 times0)], w, K => Quiet (Bool) (fun r => (.bool r)) (fun K1 w' => sh_postroadlaw07_DistTimes CV n0 ⟨arcs0_a, arcs0_l, arcs0_c⟩ a0 times0 (fun r0 w'' => K1 r0 w'') w') w (fun r => K (.bool r))
  | _, _, _, _ => False
noncomputable def cx_postroadlaw07_DistTimes : Cx := Cx.add Try.prog cx_postroadlaw07_DistSteps 4 sh_postroadlaw07_DistTimes.o sh_postroadlaw07_DistTimes.q
theorem cx_postroadlaw07_DistTimes.ok : CxOk cx_postroadlaw07_DistTimes := by
  refine CxOk.add cx_postroadlaw07_DistSteps.ok rfl (fun CV hcv xs K w hx h => ?_) (fun CV hcv xs K w hx h => ?_)
  · unfold sh_postroadlaw07_DistTimes.o at h; split at h
    · rename_i n0 arcs0_a arcs0_l arcs0_c a0 times0; exact sh_postroadlaw07_DistTimes.calls CV n0 ⟨arcs0_a, arcs0_l, arcs0_c⟩ a0 times0 hcv h
    · exact h.elim
  · unfold sh_postroadlaw07_DistTimes.q at h; split at h
    · rename_i n0 arcs0_a arcs0_l arcs0_c a0 times0; obtain ⟨r, h1, h2⟩ := h; exact ⟨_, h2, fun w' e => sh_postroadlaw07_DistTimes.calls CV n0 ⟨arcs0_a, arcs0_l, arcs0_c⟩ a0 times0 hcv (h1 w' e)⟩
    · exact h.elim
def sh_dist_Total.plan : Plan := (.seq .o (.seq (.seq .o (.cond (.seq .o .o) .o)) (.seq .o (.seq (.seq .o (.block (.loop [.slot 3 (.int .i64), .slot 12 (.int .i64)] [] (.seq .o (.seq (.cond .o .o) (.seq (.block (.seq .o .o)) .o)))))) (.seq .o .o)))))
theorem sh_dist_Total.is (CV : CVT) (m0_N : Int) (m0_Arcs : SV) (w : World) (R : Value → World → Prop) : sh_dist_Total CV m0_N m0_Arcs (fun r0 w' => R (.int .i64 r0) w') w = denF (cx_postroadlaw07_DistTimes.with CV) Try.f17 sh_dist_Total.plan [.v (.agg #[(.int .i64 m0_N), (.slice m0_Arcs.a m0_Arcs.len m0_Arcs.cap)])] w R := by kernel_rfl
theorem sh_dist_Total.calls (CV : CVT) (m0_N : Int) (m0_Arcs : SV) (hcv : CVOk Try.prog CV) {w : World} {R : Ending → World → Prop} (h : sh_dist_Total CV m0_N m0_Arcs (fun r0 w' => R (.returned (.int .i64 r0)) w') w) : Calls Try.prog 17 #[(.agg #[(.int .i64 m0_N), (.slice m0_Arcs.a m0_Arcs.len m0_Arcs.cap)])] w R :=
  calls_is (cx := cx_postroadlaw07_DistTimes.with CV) mixed_Try (cx_postroadlaw07_DistTimes.ok.with CV) hcv Try.func17 sh_dist_Total.plan (xs := [.v (.agg #[(.int .i64 m0_N), (.slice m0_Arcs.a m0_Arcs.len m0_Arcs.cap)])]) ((args_cons _ args_nil)) (by kernel_rfl) (sh_dist_Total.is CV m0_N m0_Arcs w (fun v w' => R (.returned v) w')) h
def sh_dist_Total.o : CVT → List X → (Value → World → Prop) → World → Prop
  | CV, [.v (.agg ⟨[.int .i64 m0_N, .slice m0_Arcs_a m0_Arcs_l m0_Arcs_c]⟩)], K, w => sh_dist_Total CV m0_N ⟨m0_Arcs_a, m0_Arcs_l, m0_Arcs_c⟩ (fun r0 w' => K (.int .i64 r0) w') w
  | _, _, _, _ => False
def sh_dist_Total.q : CVT → List X → World → (Value → Prop) → Prop
  | CV, [.v (.agg ⟨[.int .i64 m0_N, .slice m0_Arcs_a m0_Arcs_l m0_Arcs_c]⟩)], w, K => Quiet (Int) (fun r => (.int .i64 r)) (fun K1 w' => sh_dist_Total CV m0_N ⟨m0_Arcs_a, m0_Arcs_l, m0_Arcs_c⟩ (fun r0 w'' => K1 r0 w'') w') w (fun r => K (.int .i64 r))
  | _, _, _, _ => False
noncomputable def cx_dist_Total : Cx := Cx.add Try.prog cx_postroadlaw07_DistTimes 17 sh_dist_Total.o sh_dist_Total.q
theorem cx_dist_Total.ok : CxOk cx_dist_Total := by
  refine CxOk.add cx_postroadlaw07_DistTimes.ok rfl (fun CV hcv xs K w hx h => ?_) (fun CV hcv xs K w hx h => ?_)
  · unfold sh_dist_Total.o at h; split at h
    · rename_i m0_N m0_Arcs_a m0_Arcs_l m0_Arcs_c; exact sh_dist_Total.calls CV m0_N ⟨m0_Arcs_a, m0_Arcs_l, m0_Arcs_c⟩ hcv h
    · exact h.elim
  · unfold sh_dist_Total.q at h; split at h
    · rename_i m0_N m0_Arcs_a m0_Arcs_l m0_Arcs_c; obtain ⟨r, h1, h2⟩ := h; exact ⟨_, h2, fun w' e => sh_dist_Total.calls CV m0_N ⟨m0_Arcs_a, m0_Arcs_l, m0_Arcs_c⟩ hcv (h1 w' e)⟩
    · exact h.elim
def sh_postroadlaw07_DistTurned.plan : Plan := (.seq .o (.seq .o (.seq .o (.join [.box 8 [(.int .i64), .slice]] [] (.seq .o (.block (.loop [.slot 9 (.int .i64), .box 8 [(.int .i64), .slice]] [] (.seq (.seq .o (.cond .o .o)) (.seq (.block (.draw [] [.pure, .loc, .pure, .loc, .pure, .pure, .pure, .quiet, .pure, .loc, .pure, .pure, .pure, .quiet, .pure, .loc, .pure, .pure, .pure, .quiet, .pure, .new, .big, .pure, .big] [0, 1, 2, 3, 4, 5, 6, 7, 8, 9, 10, 11, 12, 13, 14, 15, 16, 17, 18, 19, 20, 21, 22, 23, 24])) .o))))) (.seq .o (.seq .o (.seq (.draw [] [.pure, .pure, .pure, .loc, .pure, .pure, .pure, .loc, .big, .pure, .big, .quiet, .pure, .pure, .loc, .big, .rd, .big, .pure, .pure, .pure, .big, .pure, .pure] [0, 1, 2, 3, 4, 5, 6, 7, 9, 8, 10, 11, 12, 13, 14, 16, 15, 17, 18, 19, 20, 21, 22, 23]) .o)))))))
theorem sh_postroadlaw07_DistTurned.is (CV : CVT) (n0 : Int) (arcs0 : SV) (a0 : Int) (w : World) (R : Value → World → Prop) : sh_postroadlaw07_DistTurned CV n0 arcs0 a0 (fun r0 w' => R (.bool r0) w') w = denF (cx_dist_Total.with CV) Try.f5 sh_postroadlaw07_DistTurned.plan [.v (.int .i64 n0), .v (.slice arcs0.a arcs0.len arcs0.cap), .v (.int .u8 a0)] w R := by kernel_rfl
theorem sh_postroadlaw07_DistTurned.calls (CV : CVT) (n0 : Int) (arcs0 : SV) (a0 : Int) (hcv : CVOk Try.prog CV) {w : World} {R : Ending → World → Prop} (h : sh_postroadlaw07_DistTurned CV n0 arcs0 a0 (fun r0 w' => R (.returned (.bool r0)) w') w) : Calls Try.prog 5 #[(.int .i64 n0), (.slice arcs0.a arcs0.len arcs0.cap), (.int .u8 a0)] w R :=
  calls_is (cx := cx_dist_Total.with CV) mixed_Try (cx_dist_Total.ok.with CV) hcv Try.func5 sh_postroadlaw07_DistTurned.plan (xs := [.v (.int .i64 n0), .v (.slice arcs0.a arcs0.len arcs0.cap), .v (.int .u8 a0)]) ((args_cons _ (args_cons _ (args_cons _ args_nil)))) (by kernel_rfl) (sh_postroadlaw07_DistTurned.is CV n0 arcs0 a0 w (fun v w' => R (.returned v) w')) h
def sh_postroadlaw07_DistTurned.o : CVT → List X → (Value → World → Prop) → World → Prop
  | CV, [.v (.int .i64 n0), .v (.slice arcs0_a arcs0_l arcs0_c), .v (.int .u8 a0)], K, w => sh_postroadlaw07_DistTurned CV n0 ⟨arcs0_a, arcs0_l, arcs0_c⟩ a0 (fun r0 w' => K (.bool r0) w') w
  | _, _, _, _ => False
def sh_postroadlaw07_DistTurned.q : CVT → List X → World → (Value → Prop) → Prop
  | CV, [.v (.int .i64 n0), .v (.slice arcs0_a arcs0_l arcs0_c), .v (.int .u8 a0)], w, K => Quiet (Bool) (fun r => (.bool r)) (fun K1 w' => sh_postroadlaw07_DistTurned CV n0 ⟨arcs0_a, arcs0_l, arcs0_c⟩ a0 (fun r0 w'' => K1 r0 w'') w') w (fun r => K (.bool r))
  | _, _, _, _ => False
noncomputable def cx_postroadlaw07_DistTurned : Cx := Cx.add Try.prog cx_dist_Total 5 sh_postroadlaw07_DistTurned.o sh_postroadlaw07_DistTurned.q
theorem cx_postroadlaw07_DistTurned.ok : CxOk cx_postroadlaw07_DistTurned := by
  refine CxOk.add cx_dist_Total.ok rfl (fun CV hcv xs K w hx h => ?_) (fun CV hcv xs K w hx h => ?_)
  · unfold sh_postroadlaw07_DistTurned.o at h; split at h
    · rename_i n0 arcs0_a arcs0_l arcs0_c a0; exact sh_postroadlaw07_DistTurned.calls CV n0 ⟨arcs0_a, arcs0_l, arcs0_c⟩ a0 hcv h
    · exact h.elim
  · unfold sh_postroadlaw07_DistTurned.q at h; split at h
    · rename_i n0 arcs0_a arcs0_l arcs0_c a0; obtain ⟨r, h1, h2⟩ := h; exact ⟨_, h2, fun w' e => sh_postroadlaw07_DistTurned.calls CV n0 ⟨arcs0_a, arcs0_l, arcs0_c⟩ a0 hcv (h1 w' e)⟩
    · exact h.elim
def sh_dist_Between.plan : Plan := (.seq .o (.seq .o (.seq (.seq .o (.cond (.seq .o .o) .o)) (.seq .o .o))))
theorem sh_dist_Between.is (CV : CVT) (g0 : Option Addr) (s0 : Int) (t0 : Int) (w : World) (R : Value → World → Prop) : sh_dist_Between CV g0 s0 t0 (fun r0 w' => R (.int .i64 r0) w') w = denF (cx_postroadlaw07_DistTurned.with CV) Try.f18 sh_dist_Between.plan [.v (.pointer g0), .v (.int .i64 s0), .v (.int .i64 t0)] w R := by kernel_rfl
theorem sh_dist_Between.calls (CV : CVT) (g0 : Option Addr) (s0 : Int) (t0 : Int) (hcv : CVOk Try.prog CV) {w : World} {R : Ending → World → Prop} (h : sh_dist_Between CV g0 s0 t0 (fun r0 w' => R (.returned (.int .i64 r0)) w') w) : Calls Try.prog 18 #[(.pointer g0), (.int .i64 s0), (.int .i64 t0)] w R :=
  calls_is (cx := cx_postroadlaw07_DistTurned.with CV) mixed_Try (cx_postroadlaw07_DistTurned.ok.with CV) hcv Try.func18 sh_dist_Between.plan (xs := [.v (.pointer g0), .v (.int .i64 s0), .v (.int .i64 t0)]) ((args_cons _ (args_cons _ (args_cons _ args_nil)))) (by kernel_rfl) (sh_dist_Between.is CV g0 s0 t0 w (fun v w' => R (.returned v) w')) h
def sh_dist_Between.o : CVT → List X → (Value → World → Prop) → World → Prop
  | CV, [.v (.pointer g0), .v (.int .i64 s0), .v (.int .i64 t0)], K, w => sh_dist_Between CV g0 s0 t0 (fun r0 w' => K (.int .i64 r0) w') w
  | _, _, _, _ => False
def sh_dist_Between.q : CVT → List X → World → (Value → Prop) → Prop
  | CV, [.v (.pointer g0), .v (.int .i64 s0), .v (.int .i64 t0)], w, K => Quiet (Int) (fun r => (.int .i64 r)) (fun K1 w' => sh_dist_Between CV g0 s0 t0 (fun r0 w'' => K1 r0 w'') w') w (fun r => K (.int .i64 r))
  | _, _, _, _ => False
noncomputable def cx_dist_Between : Cx := Cx.add Try.prog cx_postroadlaw07_DistTurned 18 sh_dist_Between.o sh_dist_Between.q
theorem cx_dist_Between.ok : CxOk cx_dist_Between := by
  refine CxOk.add cx_postroadlaw07_DistTurned.ok rfl (fun CV hcv xs K w hx h => ?_) (fun CV hcv xs K w hx h => ?_)
  · unfold sh_dist_Between.o at h; split at h
    · rename_i g0 s0 t0; exact sh_dist_Between.calls CV g0 s0 t0 hcv h
    · exact h.elim
  · unfold sh_dist_Between.q at h; split at h
    · rename_i g0 s0 t0; obtain ⟨r, h1, h2⟩ := h; exact ⟨_, h2, fun w' e => sh_dist_Between.calls CV g0 s0 t0 hcv (h1 w' e)⟩
    · exact h.elim
def sh_postroadlaw07_DistBy.plan : Plan := (.seq .o (.seq .o (.seq .o (.seq .o (.seq .o (.seq .o (.seq .o (.seq .o (.seq .o (.join [] [] (.seq .o (.cond (.seq .o .o) .o)) (.seq .o (.join [] [] (.seq .o (.block (.loop [.slot 20 (.int .i64)] [] (.seq (.seq .o (.cond .o .o)) (.seq (.block (.seq .o (.seq .o (.cond (.seq .o .o) .o)))) .o))))) (.seq .o .o)))))))))))))
theorem sh_postroadlaw07_DistBy.is (CV : CVT) (n0 : Int) (arcs0 : SV) (a0 : Int) (b0 : Int) (c0 : Int) (w : World) (R : Value → World → Prop) : sh_postroadlaw07_DistBy CV n0 arcs0 a0 b0 c0 (fun r0 w' => R (.bool r0) w') w = denF (cx_dist_Between.with CV) Try.f6 sh_postroadlaw07_DistBy.plan [.v (.int .i64 n0), .v (.slice arcs0.a arcs0.len arcs0.cap), .v (.int .u8 a0), .v (.int .u8 b0), .v (.int .u8 c0)] w R := by kernel_rfl
theorem sh_postroadlaw07_DistBy.calls (CV : CVT) (n0 : Int) (arcs0 : SV) (a0 : Int) (b0 : Int) (c0 : Int) (hcv : CVOk Try.prog CV) {w : World} {R : Ending → World → Prop} (h : sh_postroadlaw07_DistBy CV n0 arcs0 a0 b0 c0 (fun r0 w' => R (.returned (.bool r0)) w') w) : Calls Try.prog 6 #[(.int .i64 n0), (.slice arcs0.a arcs0.len arcs0.cap), (.int .u8 a0), (.int .u8 b0), (.int .u8 c0)] w R :=
  calls_is (cx := cx_dist_Between.with CV) mixed_Try (cx_dist_Between.ok.with CV) hcv Try.func6 sh_postroadlaw07_DistBy.plan (xs := [.v (.int .i64 n0), .v (.slice arcs0.a arcs0.len arcs0.cap), .v (.int .u8 a0), .v (.int .u8 b0), .v (.int .u8 c0)]) ((args_cons _ (args_cons _ (args_cons _ (args_cons _ (args_cons _ args_nil)))))) (by kernel_rfl) (sh_postroadlaw07_DistBy.is CV n0 arcs0 a0 b0 c0 w (fun v w' => R (.returned v) w')) h
def sh_postroadlaw07_DistBy.o : CVT → List X → (Value → World → Prop) → World → Prop
  | CV, [.v (.int .i64 n0), .v (.slice arcs0_a arcs0_l arcs0_c), .v (.int .u8 a0), .v (.int .u8 b0), .v (.int .u8 c0)], K, w => sh_postroadlaw07_DistBy CV n0 ⟨arcs0_a, arcs0_l, arcs0_c⟩ a0 b0 c0 (fun r0 w' => K (.bool r0) w') w
  | _, _, _, _ => False
def sh_postroadlaw07_DistBy.q : CVT → List X → World → (Value → Prop) → Prop
  | CV, [.v (.int .i64 n0), .v (.slice arcs0_a arcs0_l arcs0_c), .v (.int .u8 a0), .v (.int .u8 b0), .v (.int .u8 c0)], w, K => Quiet (Bool) (fun r => (.bool r)) (fun K1 w' => sh_postroadlaw07_DistBy CV n0 ⟨arcs0_a, arcs0_l, arcs0_c⟩ a0 b0 c0 (fun r0 w'' => K1 r0 w'') w') w (fun r => K (.bool r))
  | _, _, _, _ => False
noncomputable def cx_postroadlaw07_DistBy : Cx := Cx.add Try.prog cx_dist_Between 6 sh_postroadlaw07_DistBy.o sh_postroadlaw07_DistBy.q
theorem cx_postroadlaw07_DistBy.ok : CxOk cx_postroadlaw07_DistBy := by
  refine CxOk.add cx_dist_Between.ok rfl (fun CV hcv xs K w hx h => ?_) (fun CV hcv xs K w hx h => ?_)
  · unfold sh_postroadlaw07_DistBy.o at h; split at h
    · rename_i n0 arcs0_a arcs0_l arcs0_c a0 b0 c0; exact sh_postroadlaw07_DistBy.calls CV n0 ⟨arcs0_a, arcs0_l, arcs0_c⟩ a0 b0 c0 hcv h
    · exact h.elim
  · unfold sh_postroadlaw07_DistBy.q at h; split at h
    · rename_i n0 arcs0_a arcs0_l arcs0_c a0 b0 c0; obtain ⟨r, h1, h2⟩ := h; exact ⟨_, h2, fun w' e => sh_postroadlaw07_DistBy.calls CV n0 ⟨arcs0_a, arcs0_l, arcs0_c⟩ a0 b0 c0 hcv (h1 w' e)⟩
    · exact h.elim
def sh_postroadref06_Small.plan : Plan := (.seq .o (.seq .o .o))
theorem sh_postroadref06_Small.is (CV : CVT) (m0_N : Int) (m0_Arcs : SV) (n0 : Int) (arcs0 : Int) (w : World) (R : Value → World → Prop) : sh_postroadref06_Small m0_N m0_Arcs n0 arcs0 (fun r0 w' => R (.bool r0) w') w = denF (cx_postroadlaw07_DistBy.with CV) Try.f20 sh_postroadref06_Small.plan [.v (.agg #[(.int .i64 m0_N), (.slice m0_Arcs.a m0_Arcs.len m0_Arcs.cap)]), .v (.int .i64 n0), .v (.int .i64 arcs0)] w R := by kernel_rfl
theorem sh_postroadref06_Small.calls (CV : CVT) (m0_N : Int) (m0_Arcs : SV) (n0 : Int) (arcs0 : Int) (hcv : CVOk Try.prog CV) {w : World} {R : Ending → World → Prop} (h : sh_postroadref06_Small m0_N m0_Arcs n0 arcs0 (fun r0 w' => R (.returned (.bool r0)) w') w) : Calls Try.prog 20 #[(.agg #[(.int .i64 m0_N), (.slice m0_Arcs.a m0_Arcs.len m0_Arcs.cap)]), (.int .i64 n0), (.int .i64 arcs0)] w R :=
  calls_is (cx := cx_postroadlaw07_DistBy.with CV) mixed_Try (cx_postroadlaw07_DistBy.ok.with CV) hcv Try.func20 sh_postroadref06_Small.plan (xs := [.v (.agg #[(.int .i64 m0_N), (.slice m0_Arcs.a m0_Arcs.len m0_Arcs.cap)]), .v (.int .i64 n0), .v (.int .i64 arcs0)]) ((args_cons _ (args_cons _ (args_cons _ args_nil)))) (by kernel_rfl) (sh_postroadref06_Small.is CV m0_N m0_Arcs n0 arcs0 w (fun v w' => R (.returned v) w')) h
def sh_postroadref06_Small.o : CVT → List X → (Value → World → Prop) → World → Prop
  | CV, [.v (.agg ⟨[.int .i64 m0_N, .slice m0_Arcs_a m0_Arcs_l m0_Arcs_c]⟩), .v (.int .i64 n0), .v (.int .i64 arcs0)], K, w => sh_postroadref06_Small m0_N ⟨m0_Arcs_a, m0_Arcs_l, m0_Arcs_c⟩ n0 arcs0 (fun r0 w' => K (.bool r0) w') w
  | _, _, _, _ => False
def sh_postroadref06_Small.q : CVT → List X → World → (Value → Prop) → Prop
  | CV, [.v (.agg ⟨[.int .i64 m0_N, .slice m0_Arcs_a m0_Arcs_l m0_Arcs_c]⟩), .v (.int .i64 n0), .v (.int .i64 arcs0)], w, K => Quiet (Bool) (fun r => (.bool r)) (fun K1 w' => sh_postroadref06_Small m0_N ⟨m0_Arcs_a, m0_Arcs_l, m0_Arcs_c⟩ n0 arcs0 (fun r0 w'' => K1 r0 w'') w') w (fun r => K (.bool r))
  | _, _, _, _ => False
noncomputable def cx_postroadref06_Small : Cx := Cx.add Try.prog cx_postroadlaw07_DistBy 20 sh_postroadref06_Small.o sh_postroadref06_Small.q
theorem cx_postroadref06_Small.ok : CxOk cx_postroadref06_Small := by
  refine CxOk.add cx_postroadlaw07_DistBy.ok rfl (fun CV hcv xs K w hx h => ?_) (fun CV hcv xs K w hx h => ?_)
  · unfold sh_postroadref06_Small.o at h; split at h
    · rename_i m0_N m0_Arcs_a m0_Arcs_l m0_Arcs_c n0 arcs0; exact sh_postroadref06_Small.calls CV m0_N ⟨m0_Arcs_a, m0_Arcs_l, m0_Arcs_c⟩ n0 arcs0 hcv h
    · exact h.elim
  · unfold sh_postroadref06_Small.q at h; split at h
    · rename_i m0_N m0_Arcs_a m0_Arcs_l m0_Arcs_c n0 arcs0; obtain ⟨r, h1, h2⟩ := h; exact ⟨_, h2, fun w' e => sh_postroadref06_Small.calls CV m0_N ⟨m0_Arcs_a, m0_Arcs_l, m0_Arcs_c⟩ n0 arcs0 hcv (h1 w' e)⟩
    · exact h.elim
def sh_dist_Walk.plan : Plan := (.seq .o (.seq (.seq .o (.cond (.seq .o .o) .o)) (.seq .o (.join [.slot 1 (.int .i64), .slot 9 (.int .i64)] [] (.seq .o (.block (.loop [.slot 1 (.int .i64), .slot 9 (.int .i64), .slot 27 (.int .i64)] [] (.seq .o (.seq (.cond .o .o) (.seq (.block (.seq .o (.seq (.seq .o (.cond (.seq .o .o) .o)) (.draw [] [.pure, .loc, .pure, .pure, .pure, .quiet, .pure, .pure, .loc, .pure, .pure, .pure, .quiet, .pure, .pure, .pure] [0, 1, 2, 3, 4, 5, 6, 7, 8, 9, 10, 11, 12, 13, 14, 15])))) .o)))))) (.seq .o .o)))))
theorem sh_dist_Walk.is (CV : CVT) (m0_N : Int) (m0_Arcs : SV) (s0 : Int) (arcs0 : SV) (w : World) (R : Value → World → Prop) : sh_dist_Walk CV m0_N m0_Arcs s0 arcs0 (fun r0 r1 r2 w' => R (.tuple #[(.int .i64 r0), (.int .i64 r1), (.bool r2)]) w') w = denF (cx_postroadref06_Small.with CV) Try.f21 sh_dist_Walk.plan [.v (.agg #[(.int .i64 m0_N), (.slice m0_Arcs.a m0_Arcs.len m0_Arcs.cap)]), .v (.int .i64 s0), .v (.slice arcs0.a arcs0.len arcs0.cap)] w R := by kernel_rfl
theorem sh_dist_Walk.calls (CV : CVT) (m0_N : Int) (m0_Arcs : SV) (s0 : Int) (arcs0 : SV) (hcv : CVOk Try.prog CV) {w : World} {R : Ending → World → Prop} (h : sh_dist_Walk CV m0_N m0_Arcs s0 arcs0 (fun r0 r1 r2 w' => R (.returned (.tuple #[(.int .i64 r0), (.int .i64 r1), (.bool r2)])) w') w) : Calls Try.prog 21 #[(.agg #[(.int .i64 m0_N), (.slice m0_Arcs.a m0_Arcs.len m0_Arcs.cap)]), (.int .i64 s0), (.slice arcs0.a arcs0.len arcs0.cap)] w R :=
  calls_is (cx := cx_postroadref06_Small.with CV) mixed_Try (cx_postroadref06_Small.ok.with CV) hcv Try.func21 sh_dist_Walk.plan (xs := [.v (.agg #[(.int .i64 m0_N), (.slice m0_Arcs.a m0_Arcs.len m0_Arcs.cap)]), .v (.int .i64 s0), .v (.slice arcs0.a arcs0.len arcs0.cap)]) ((args_cons _ (args_cons _ (args_cons _ args_nil)))) (by kernel_rfl) (sh_dist_Walk.is CV m0_N m0_Arcs s0 arcs0 w (fun v w' => R (.returned v) w')) h
def sh_dist_Walk.o : CVT → List X → (Value → World → Prop) → World → Prop
  | CV, [.v (.agg ⟨[.int .i64 m0_N, .slice m0_Arcs_a m0_Arcs_l m0_Arcs_c]⟩), .v (.int .i64 s0), .v (.slice arcs0_a arcs0_l arcs0_c)], K, w => sh_dist_Walk CV m0_N ⟨m0_Arcs_a, m0_Arcs_l, m0_Arcs_c⟩ s0 ⟨arcs0_a, arcs0_l, arcs0_c⟩ (fun r0 r1 r2 w' => K (.tuple #[(.int .i64 r0), (.int .i64 r1), (.bool r2)]) w') w
  | _, _, _, _ => False
def sh_dist_Walk.q : CVT → List X → World → (Value → Prop) → Prop
  | CV, [.v (.agg ⟨[.int .i64 m0_N, .slice m0_Arcs_a m0_Arcs_l m0_Arcs_c]⟩), .v (.int .i64 s0), .v (.slice arcs0_a arcs0_l arcs0_c)], w, K => Quiet (Int × Int × Bool) (fun r => (.tuple #[(.int .i64 r.1), (.int .i64 r.2.1), (.bool r.2.2)])) (fun K1 w' => sh_dist_Walk CV m0_N ⟨m0_Arcs_a, m0_Arcs_l, m0_Arcs_c⟩ s0 ⟨arcs0_a, arcs0_l, arcs0_c⟩ (fun r0 r1 r2 w'' => K1 (r0, r1, r2) w'') w') w (fun r => K (.tuple #[(.int .i64 r.1), (.int .i64 r.2.1), (.bool r.2.2)]))
  | _, _, _, _ => False
noncomputable def cx_dist_Walk : Cx := Cx.add Try.prog cx_postroadref06_Small 21 sh_dist_Walk.o sh_dist_Walk.q
theorem cx_dist_Walk.ok : CxOk cx_dist_Walk := by
  refine CxOk.add cx_postroadref06_Small.ok rfl (fun CV hcv xs K w hx h => ?_) (fun CV hcv xs K w hx h => ?_)
  · unfold sh_dist_Walk.o at h; split at h
    · rename_i m0_N m0_Arcs_a m0_Arcs_l m0_Arcs_c s0 arcs0_a arcs0_l arcs0_c; exact sh_dist_Walk.calls CV m0_N ⟨m0_Arcs_a, m0_Arcs_l, m0_Arcs_c⟩ s0 ⟨arcs0_a, arcs0_l, arcs0_c⟩ hcv h
    · exact h.elim
  · unfold sh_dist_Walk.q at h; split at h
    · rename_i m0_N m0_Arcs_a m0_Arcs_l m0_Arcs_c s0 arcs0_a arcs0_l arcs0_c; obtain ⟨r, h1, h2⟩ := h; exact ⟨_, h2, fun w' e => sh_dist_Walk.calls CV m0_N ⟨m0_Arcs_a, m0_Arcs_l, m0_Arcs_c⟩ s0 ⟨arcs0_a, arcs0_l, arcs0_c⟩ hcv (h1 w' e)⟩
    · exact h.elim
def sh_postroadref05_Check.plan : Plan := (.seq .o (.seq (.seq .o (.cond (.seq .o .o) .o)) (.seq (.seq .o (.cond (.seq .o .o) .o)) (.seq (.seq .o (.block (.loop [.slot 3 (.int .i64)] [] (.seq (.seq .o (.cond .o .o)) (.seq (.block (.seq .o (.seq .o (.cond (.seq .o .o) .o)))) .o))))) (.seq .o .o)))))
theorem sh_postroadref05_Check.is (CV : CVT) (m0_N : Int) (m0_Arcs : SV) (w : World) (R : Value → World → Prop) : sh_postroadref05_Check m0_N m0_Arcs (fun r0 w' => R (.int .i64 r0) w') w = denF (cx_dist_Walk.with CV) Try.f45 sh_postroadref05_Check.plan [.v (.agg #[(.int .i64 m0_N), (.slice m0_Arcs.a m0_Arcs.len m0_Arcs.cap)])] w R := by kernel_rfl
theorem sh_postroadref05_Check.calls (CV : CVT) (m0_N : Int) (m0_Arcs : SV) (hcv : CVOk Try.prog CV) {w : World} {R : Ending → World → Prop} (h : sh_postroadref05_Check m0_N m0_Arcs (fun r0 w' => R (.returned (.int .i64 r0)) w') w) : Calls Try.prog 45 #[(.agg #[(.int .i64 m0_N), (.slice m0_Arcs.a m0_Arcs.len m0_Arcs.cap)])] w R :=
  calls_is (cx := cx_dist_Walk.with CV) mixed_Try (cx_dist_Walk.ok.with CV) hcv Try.func45 sh_postroadref05_Check.plan (xs := [.v (.agg #[(.int .i64 m0_N), (.slice m0_Arcs.a m0_Arcs.len m0_Arcs.cap)])]) ((args_cons _ args_nil)) (by kernel_rfl) (sh_postroadref05_Check.is CV m0_N m0_Arcs w (fun v w' => R (.returned v) w')) h
def sh_postroadref05_Check.o : CVT → List X → (Value → World → Prop) → World → Prop
  | CV, [.v (.agg ⟨[.int .i64 m0_N, .slice m0_Arcs_a m0_Arcs_l m0_Arcs_c]⟩)], K, w => sh_postroadref05_Check m0_N ⟨m0_Arcs_a, m0_Arcs_l, m0_Arcs_c⟩ (fun r0 w' => K (.int .i64 r0) w') w
  | _, _, _, _ => False
def sh_postroadref05_Check.q : CVT → List X → World → (Value → Prop) → Prop
  | CV, [.v (.agg ⟨[.int .i64 m0_N, .slice m0_Arcs_a m0_Arcs_l m0_Arcs_c]⟩)], w, K => Quiet (Int) (fun r => (.int .i64 r)) (fun K1 w' => sh_postroadref05_Check m0_N ⟨m0_Arcs_a, m0_Arcs_l, m0_Arcs_c⟩ (fun r0 w'' => K1 r0 w'') w') w (fun r => K (.int .i64 r))
  | _, _, _, _ => False
noncomputable def cx_postroadref05_Check : Cx := Cx.add Try.prog cx_dist_Walk 45 sh_postroadref05_Check.o sh_postroadref05_Check.q
theorem cx_postroadref05_Check.ok : CxOk cx_postroadref05_Check := by
  refine CxOk.add cx_dist_Walk.ok rfl (fun CV hcv xs K w hx h => ?_) (fun CV hcv xs K w hx h => ?_)
  · unfold sh_postroadref05_Check.o at h; split at h
    · rename_i m0_N m0_Arcs_a m0_Arcs_l m0_Arcs_c; exact sh_postroadref05_Check.calls CV m0_N ⟨m0_Arcs_a, m0_Arcs_l, m0_Arcs_c⟩ hcv h
    · exact h.elim
  · unfold sh_postroadref05_Check.q at h; split at h
    · rename_i m0_N m0_Arcs_a m0_Arcs_l m0_Arcs_c; obtain ⟨r, h1, h2⟩ := h; exact ⟨_, h2, fun w' e => sh_postroadref05_Check.calls CV m0_N ⟨m0_Arcs_a, m0_Arcs_l, m0_Arcs_c⟩ hcv (h1 w' e)⟩
    · exact h.elim
def sh_postroadref07_Walk.plan : Plan := (.seq .o (.seq (.seq .o (.cond (.seq .o .o) .o)) (.seq .o (.join [.slot 1 (.int .i64), .slot 9 (.int .i64)] [] (.seq .o (.block (.loop [.slot 1 (.int .i64), .slot 9 (.int .i64), .slot 10 (.int .i64)] [] (.seq (.seq .o (.cond .o .o)) (.seq (.block (.seq .o (.seq (.seq .o (.cond (.seq .o .o) .o)) (.seq .o .o)))) .o))))) (.seq .o .o)))))
theorem sh_postroadref07_Walk.is (CV : CVT) (m0_N : Int) (m0_Arcs : SV) (s0 : Int) (arcs0 : SV) (w : World) (R : Value → World → Prop) : sh_postroadref07_Walk m0_N m0_Arcs s0 arcs0 (fun r0 r1 r2 w' => R (.tuple #[(.int .i64 r0), (.int .i64 r1), (.bool r2)]) w') w = denF (cx_postroadref05_Check.with CV) Try.f22 sh_postroadref07_Walk.plan [.v (.agg #[(.int .i64 m0_N), (.slice m0_Arcs.a m0_Arcs.len m0_Arcs.cap)]), .v (.int .i64 s0), .v (.slice arcs0.a arcs0.len arcs0.cap)] w R := by kernel_rfl
theorem sh_postroadref07_Walk.calls (CV : CVT) (m0_N : Int) (m0_Arcs : SV) (s0 : Int) (arcs0 : SV) (hcv : CVOk Try.prog CV) {w : World} {R : Ending → World → Prop} (h : sh_postroadref07_Walk m0_N m0_Arcs s0 arcs0 (fun r0 r1 r2 w' => R (.returned (.tuple #[(.int .i64 r0), (.int .i64 r1), (.bool r2)])) w') w) : Calls Try.prog 22 #[(.agg #[(.int .i64 m0_N), (.slice m0_Arcs.a m0_Arcs.len m0_Arcs.cap)]), (.int .i64 s0), (.slice arcs0.a arcs0.len arcs0.cap)] w R :=
  calls_is (cx := cx_postroadref05_Check.with CV) mixed_Try (cx_postroadref05_Check.ok.with CV) hcv Try.func22 sh_postroadref07_Walk.plan (xs := [.v (.agg #[(.int .i64 m0_N), (.slice m0_Arcs.a m0_Arcs.len m0_Arcs.cap)]), .v (.int .i64 s0), .v (.slice arcs0.a arcs0.len arcs0.cap)]) ((args_cons _ (args_cons _ (args_cons _ args_nil)))) (by kernel_rfl) (sh_postroadref07_Walk.is CV m0_N m0_Arcs s0 arcs0 w (fun v w' => R (.returned v) w')) h
def sh_postroadref07_Walk.o : CVT → List X → (Value → World → Prop) → World → Prop
  | CV, [.v (.agg ⟨[.int .i64 m0_N, .slice m0_Arcs_a m0_Arcs_l m0_Arcs_c]⟩), .v (.int .i64 s0), .v (.slice arcs0_a arcs0_l arcs0_c)], K, w => sh_postroadref07_Walk m0_N ⟨m0_Arcs_a, m0_Arcs_l, m0_Arcs_c⟩ s0 ⟨arcs0_a, arcs0_l, arcs0_c⟩ (fun r0 r1 r2 w' => K (.tuple #[(.int .i64 r0), (.int .i64 r1), (.bool r2)]) w') w
  | _, _, _, _ => False
def sh_postroadref07_Walk.q : CVT → List X → World → (Value → Prop) → Prop
  | CV, [.v (.agg ⟨[.int .i64 m0_N, .slice m0_Arcs_a m0_Arcs_l m0_Arcs_c]⟩), .v (.int .i64 s0), .v (.slice arcs0_a arcs0_l arcs0_c)], w, K => Quiet (Int × Int × Bool) (fun r => (.tuple #[(.int .i64 r.1), (.int .i64 r.2.1), (.bool r.2.2)])) (fun K1 w' => sh_postroadref07_Walk m0_N ⟨m0_Arcs_a, m0_Arcs_l, m0_Arcs_c⟩ s0 ⟨arcs0_a, arcs0_l, arcs0_c⟩ (fun r0 r1 r2 w'' => K1 (r0, r1, r2) w'') w') w (fun r => K (.tuple #[(.int .i64 r.1), (.int .i64 r.2.1), (.bool r.2.2)]))
  | _, _, _, _ => False
noncomputable def cx_postroadref07_Walk : Cx := Cx.add Try.prog cx_postroadref05_Check 22 sh_postroadref07_Walk.o sh_postroadref07_Walk.q
theorem cx_postroadref07_Walk.ok : CxOk cx_postroadref07_Walk := by
  refine CxOk.add cx_postroadref05_Check.ok rfl (fun CV hcv xs K w hx h => ?_) (fun CV hcv xs K w hx h => ?_)
  · unfold sh_postroadref07_Walk.o at h; split at h
    · rename_i m0_N m0_Arcs_a m0_Arcs_l m0_Arcs_c s0 arcs0_a arcs0_l arcs0_c; exact sh_postroadref07_Walk.calls CV m0_N ⟨m0_Arcs_a, m0_Arcs_l, m0_Arcs_c⟩ s0 ⟨arcs0_a, arcs0_l, arcs0_c⟩ hcv h
    · exact h.elim
  · unfold sh_postroadref07_Walk.q at h; split at h
    · rename_i m0_N m0_Arcs_a m0_Arcs_l m0_Arcs_c s0 arcs0_a arcs0_l arcs0_c; obtain ⟨r, h1, h2⟩ := h; exact ⟨_, h2, fun w' e => sh_postroadref07_Walk.calls CV m0_N ⟨m0_Arcs_a, m0_Arcs_l, m0_Arcs_c⟩ s0 ⟨arcs0_a, arcs0_l, arcs0_c⟩ hcv (h1 w' e)⟩
    · exact h.elim
def sh_postroadlaw07_DistWalks.plan : Plan := (.seq .o (.seq (.seq .o (.cond (.seq .o .o) .o)) (.seq .o (.seq .o (.seq (.seq .o (.cond (.seq .o .o) .o)) (.seq (.seq .o (.cond (.seq .o .o) .o)) (.seq .o (.seq .o .o))))))))
theorem sh_postroadlaw07_DistWalks.is (CV : CVT) (m0_N : Int) (m0_Arcs : SV) (s0 : Int) (arcs0 : SV) (w : World) (R : Value → World → Prop) : sh_postroadlaw07_DistWalks CV m0_N m0_Arcs s0 arcs0 (fun r0 w' => R (.bool r0) w') w = denF (cx_postroadref07_Walk.with CV) Try.f7 sh_postroadlaw07_DistWalks.plan [.v (.agg #[(.int .i64 m0_N), (.slice m0_Arcs.a m0_Arcs.len m0_Arcs.cap)]), .v (.int .i64 s0), .v (.slice arcs0.a arcs0.len arcs0.cap)] w R := by kernel_rfl
theorem sh_postroadlaw07_DistWalks.calls (CV : CVT) (m0_N : Int) (m0_Arcs : SV) (s0 : Int) (arcs0 : SV) (hcv : CVOk Try.prog CV) {w : World} {R : Ending → World → Prop} (h : sh_postroadlaw07_DistWalks CV m0_N m0_Arcs s0 arcs0 (fun r0 w' => R (.returned (.bool r0)) w') w) : Calls Try.prog 7 #[(.agg #[(.int .i64 m0_N), (.slice m0_Arcs.a m0_Arcs.len m0_Arcs.cap)]), (.int .i64 s0), (.slice arcs0.a arcs0.len arcs0.cap)] w R :=
  calls_is (cx := cx_postroadref07_Walk.with CV) mixed_Try (cx_postroadref07_Walk.ok.with CV) hcv Try.func7 sh_postroadlaw07_DistWalks.plan (xs := [.v (.agg #[(.int .i64 m0_N), (.slice m0_Arcs.a m0_Arcs.len m0_Arcs.cap)]), .v (.int .i64 s0), .v (.slice arcs0.a arcs0.len arcs0.cap)]) ((args_cons _ (args_cons _ (args_cons _ args_nil)))) (by kernel_rfl) (sh_postroadlaw07_DistWalks.is CV m0_N m0_Arcs s0 arcs0 w (fun v w' => R (.returned v) w')) h
def sh_postroadlaw07_DistWalks.o : CVT → List X → (Value → World → Prop) → World → Prop
  | CV, [.v (.agg ⟨[.int .i64 m0_N, .slice m0_Arcs_a m0_Arcs_l m0_Arcs_c]⟩), .v (.int .i64 s0), .v (.slice arcs0_a arcs0_l arcs0_c)], K, w => sh_postroadlaw07_DistWalks CV m0_N ⟨m0_Arcs_a, m0_Arcs_l, m0_Arcs_c⟩ s0 ⟨arcs0_a, arcs0_l, arcs0_c⟩ (fun r0 w' => K (.bool r0) w') w
  | _, _, _, _ => False
def sh_postroadlaw07_DistWalks.q : CVT → List X → World → (Value → Prop) → Prop
  | CV, [.v (.agg ⟨[.int .i64 m0_N, .slice m0_Arcs_a m0_Arcs_l m0_Arcs_c]⟩), .v (.int .i64 s0), .v (.slice arcs0_a arcs0_l arcs0_c)], w, K => Quiet (Bool) (fun r => (.bool r)) (fun K1 w' => sh_postroadlaw07_DistWalks CV m0_N ⟨m0_Arcs_a, m0_Arcs_l, m0_Arcs_c⟩ s0 ⟨arcs0_a, arcs0_l, arcs0_c⟩ (fun r0 w'' => K1 r0 w'') w') w (fun r => K (.bool r))
  | _, _, _, _ => False
noncomputable def cx_postroadlaw07_DistWalks : Cx := Cx.add Try.prog cx_postroadref07_Walk 7 sh_postroadlaw07_DistWalks.o sh_postroadlaw07_DistWalks.q
theorem cx_postroadlaw07_DistWalks.ok : CxOk cx_postroadlaw07_DistWalks := by
  refine CxOk.add cx_postroadref07_Walk.ok rfl (fun CV hcv xs K w hx h => ?_) (fun CV hcv xs K w hx h => ?_)
  · unfold sh_postroadlaw07_DistWalks.o at h; split at h
    · rename_i m0_N m0_Arcs_a m0_Arcs_l m0_Arcs_c s0 arcs0_a arcs0_l arcs0_c; exact sh_postroadlaw07_DistWalks.calls CV m0_N ⟨m0_Arcs_a, m0_Arcs_l, m0_Arcs_c⟩ s0 ⟨arcs0_a, arcs0_l, arcs0_c⟩ hcv h
    · exact h.elim
  · unfold sh_postroadlaw07_DistWalks.q at h; split at h
    · rename_i m0_N m0_Arcs_a m0_Arcs_l m0_Arcs_c s0 arcs0_a arcs0_l arcs0_c; obtain ⟨r, h1, h2⟩ := h; exact ⟨_, h2, fun w' e => sh_postroadlaw07_DistWalks.calls CV m0_N ⟨m0_Arcs_a, m0_Arcs_l, m0_Arcs_c⟩ s0 ⟨arcs0_a, arcs0_l, arcs0_c⟩ hcv (h1 w' e)⟩
    · exact h.elim
def sh_postroadref06_Right.plan : Plan := (.seq .o (.seq .o .o))
theorem sh_postroadref06_Right.is (CV : CVT) (m0_N : Int) (m0_Arcs : SV) (n0 : Int) (arcs0 : Int) (w : World) (R : Value → World → Prop) : sh_postroadref06_Right m0_N m0_Arcs n0 arcs0 (fun r0 w' => R (.bool r0) w') w = denF (cx_postroadlaw07_DistWalks.with CV) Try.f46 sh_postroadref06_Right.plan [.v (.agg #[(.int .i64 m0_N), (.slice m0_Arcs.a m0_Arcs.len m0_Arcs.cap)]), .v (.int .i64 n0), .v (.int .i64 arcs0)] w R := by kernel_rfl
theorem sh_postroadref06_Right.calls (CV : CVT) (m0_N : Int) (m0_Arcs : SV) (n0 : Int) (arcs0 : Int) (hcv : CVOk Try.prog CV) {w : World} {R : Ending → World → Prop} (h : sh_postroadref06_Right m0_N m0_Arcs n0 arcs0 (fun r0 w' => R (.returned (.bool r0)) w') w) : Calls Try.prog 46 #[(.agg #[(.int .i64 m0_N), (.slice m0_Arcs.a m0_Arcs.len m0_Arcs.cap)]), (.int .i64 n0), (.int .i64 arcs0)] w R :=
  calls_is (cx := cx_postroadlaw07_DistWalks.with CV) mixed_Try (cx_postroadlaw07_DistWalks.ok.with CV) hcv Try.func46 sh_postroadref06_Right.plan (xs := [.v (.agg #[(.int .i64 m0_N), (.slice m0_Arcs.a m0_Arcs.len m0_Arcs.cap)]), .v (.int .i64 n0), .v (.int .i64 arcs0)]) ((args_cons _ (args_cons _ (args_cons _ args_nil)))) (by kernel_rfl) (sh_postroadref06_Right.is CV m0_N m0_Arcs n0 arcs0 w (fun v w' => R (.returned v) w')) h
def sh_postroadref06_Right.o : CVT → List X → (Value → World → Prop) → World → Prop
  | CV, [.v (.agg ⟨[.int .i64 m0_N, .slice m0_Arcs_a m0_Arcs_l m0_Arcs_c]⟩), .v (.int .i64 n0), .v (.int .i64 arcs0)], K, w => sh_postroadref06_Right m0_N ⟨m0_Arcs_a, m0_Arcs_l, m0_Arcs_c⟩ n0 arcs0 (fun r0 w' => K (.bool r0) w') w
  | _, _, _, _ => False
def sh_postroadref06_Right.q : CVT → List X → World → (Value → Prop) → Prop
  | CV, [.v (.agg ⟨[.int .i64 m0_N, .slice m0_Arcs_a m0_Arcs_l m0_Arcs_c]⟩), .v (.int .i64 n0), .v (.int .i64 arcs0)], w, K => Quiet (Bool) (fun r => (.bool r)) (fun K1 w' => sh_postroadref06_Right m0_N ⟨m0_Arcs_a, m0_Arcs_l, m0_Arcs_c⟩ n0 arcs0 (fun r0 w'' => K1 r0 w'') w') w (fun r => K (.bool r))
  | _, _, _, _ => False
noncomputable def cx_postroadref06_Right : Cx := Cx.add Try.prog cx_postroadlaw07_DistWalks 46 sh_postroadref06_Right.o sh_postroadref06_Right.q
theorem cx_postroadref06_Right.ok : CxOk cx_postroadref06_Right := by
  refine CxOk.add cx_postroadlaw07_DistWalks.ok rfl (fun CV hcv xs K w hx h => ?_) (fun CV hcv xs K w hx h => ?_)
  · unfold sh_postroadref06_Right.o at h; split at h
    · rename_i m0_N m0_Arcs_a m0_Arcs_l m0_Arcs_c n0 arcs0; exact sh_postroadref06_Right.calls CV m0_N ⟨m0_Arcs_a, m0_Arcs_l, m0_Arcs_c⟩ n0 arcs0 hcv h
    · exact h.elim
  · unfold sh_postroadref06_Right.q at h; split at h
    · rename_i m0_N m0_Arcs_a m0_Arcs_l m0_Arcs_c n0 arcs0; obtain ⟨r, h1, h2⟩ := h; exact ⟨_, h2, fun w' e => sh_postroadref06_Right.calls CV m0_N ⟨m0_Arcs_a, m0_Arcs_l, m0_Arcs_c⟩ n0 arcs0 hcv (h1 w' e)⟩
    · exact h.elim
def sh_postroadref07_Right.plan : Plan := (.seq .o (.seq .o .o))
theorem sh_postroadref07_Right.is (CV : CVT) (m0_N : Int) (m0_Arcs : SV) (n0 : Int) (arcs0 : Int) (w : World) (R : Value → World → Prop) : sh_postroadref07_Right m0_N m0_Arcs n0 arcs0 (fun r0 w' => R (.bool r0) w') w = denF (cx_postroadref06_Right.with CV) Try.f23 sh_postroadref07_Right.plan [.v (.agg #[(.int .i64 m0_N), (.slice m0_Arcs.a m0_Arcs.len m0_Arcs.cap)]), .v (.int .i64 n0), .v (.int .i64 arcs0)] w R := by kernel_rfl
theorem sh_postroadref07_Right.calls (CV : CVT) (m0_N : Int) (m0_Arcs : SV) (n0 : Int) (arcs0 : Int) (hcv : CVOk Try.prog CV) {w : World} {R : Ending → World → Prop} (h : sh_postroadref07_Right m0_N m0_Arcs n0 arcs0 (fun r0 w' => R (.returned (.bool r0)) w') w) : Calls Try.prog 23 #[(.agg #[(.int .i64 m0_N), (.slice m0_Arcs.a m0_Arcs.len m0_Arcs.cap)]), (.int .i64 n0), (.int .i64 arcs0)] w R :=
  calls_is (cx := cx_postroadref06_Right.with CV) mixed_Try (cx_postroadref06_Right.ok.with CV) hcv Try.func23 sh_postroadref07_Right.plan (xs := [.v (.agg #[(.int .i64 m0_N), (.slice m0_Arcs.a m0_Arcs.len m0_Arcs.cap)]), .v (.int .i64 n0), .v (.int .i64 arcs0)]) ((args_cons _ (args_cons _ (args_cons _ args_nil)))) (by kernel_rfl) (sh_postroadref07_Right.is CV m0_N m0_Arcs n0 arcs0 w (fun v w' => R (.returned v) w')) h
def sh_postroadref07_Right.o : CVT → List X → (Value → World → Prop) → World → Prop
  | CV, [.v (.agg ⟨[.int .i64 m0_N, .slice m0_Arcs_a m0_Arcs_l m0_Arcs_c]⟩), .v (.int .i64 n0), .v (.int .i64 arcs0)], K, w => sh_postroadref07_Right m0_N ⟨m0_Arcs_a, m0_Arcs_l, m0_Arcs_c⟩ n0 arcs0 (fun r0 w' => K (.bool r0) w') w
  | _, _, _, _ => False
def sh_postroadref07_Right.q : CVT → List X → World → (Value → Prop) → Prop
  | CV, [.v (.agg ⟨[.int .i64 m0_N, .slice m0_Arcs_a m0_Arcs_l m0_Arcs_c]⟩), .v (.int .i64 n0), .v (.int .i64 arcs0)], w, K => Quiet (Bool) (fun r => (.bool r)) (fun K1 w' => sh_postroadref07_Right m0_N ⟨m0_Arcs_a, m0_Arcs_l, m0_Arcs_c⟩ n0 arcs0 (fun r0 w'' => K1 r0 w'') w') w (fun r => K (.bool r))
  | _, _, _, _ => False
noncomputable def cx_postroadref07_Right : Cx := Cx.add Try.prog cx_postroadref06_Right 23 sh_postroadref07_Right.o sh_postroadref07_Right.q
theorem cx_postroadref07_Right.ok : CxOk cx_postroadref07_Right := by
  refine CxOk.add cx_postroadref06_Right.ok rfl (fun CV hcv xs K w hx h => ?_) (fun CV hcv xs K w hx h => ?_)
  · unfold sh_postroadref07_Right.o at h; split at h
    · rename_i m0_N m0_Arcs_a m0_Arcs_l m0_Arcs_c n0 arcs0; exact sh_postroadref07_Right.calls CV m0_N ⟨m0_Arcs_a, m0_Arcs_l, m0_Arcs_c⟩ n0 arcs0 hcv h
    · exact h.elim
  · unfold sh_postroadref07_Right.q at h; split at h
    · rename_i m0_N m0_Arcs_a m0_Arcs_l m0_Arcs_c n0 arcs0; obtain ⟨r, h1, h2⟩ := h; exact ⟨_, h2, fun w' e => sh_postroadref07_Right.calls CV m0_N ⟨m0_Arcs_a, m0_Arcs_l, m0_Arcs_c⟩ n0 arcs0 hcv (h1 w' e)⟩
    · exact h.elim
def sh_dist_Around.plan : Plan := (.seq .o (.seq .o (.seq (.seq .o (.block (.loop [.slot 7 .slice, .slot 14 (.int .i64)] [] (.seq .o (.seq (.cond .o .o) (.seq (.block (.seq .o (.seq .o (.cond .o .o)))) .o)))))) (.seq .o .o))))
theorem sh_dist_Around.is (CV : CVT) (g0 : Option Addr) (s0 : Int) (most0 : Int) (w : World) (R : Value → World → Prop) : sh_dist_Around CV g0 s0 most0 (fun r0 w' => R (.slice r0.a r0.len r0.cap) w') w = denF (cx_postroadref07_Right.with CV) Try.f24 sh_dist_Around.plan [.v (.pointer g0), .v (.int .i64 s0), .v (.int .i64 most0)] w R := by kernel_rfl
theorem sh_dist_Around.calls (CV : CVT) (g0 : Option Addr) (s0 : Int) (most0 : Int) (hcv : CVOk Try.prog CV) {w : World} {R : Ending → World → Prop} (h : sh_dist_Around CV g0 s0 most0 (fun r0 w' => R (.returned (.slice r0.a r0.len r0.cap)) w') w) : Calls Try.prog 24 #[(.pointer g0), (.int .i64 s0), (.int .i64 most0)] w R :=
  calls_is (cx := cx_postroadref07_Right.with CV) mixed_Try (cx_postroadref07_Right.ok.with CV) hcv Try.func24 sh_dist_Around.plan (xs := [.v (.pointer g0), .v (.int .i64 s0), .v (.int .i64 most0)]) ((args_cons _ (args_cons _ (args_cons _ args_nil)))) (by kernel_rfl) (sh_dist_Around.is CV g0 s0 most0 w (fun v w' => R (.returned v) w')) h
def sh_dist_Around.o : CVT → List X → (Value → World → Prop) → World → Prop
  | CV, [.v (.pointer g0), .v (.int .i64 s0), .v (.int .i64 most0)], K, w => sh_dist_Around CV g0 s0 most0 (fun r0 w' => K (.slice r0.a r0.len r0.cap) w') w
  | _, _, _, _ => False
def sh_dist_Around.q : CVT → List X → World → (Value → Prop) → Prop
  | CV, [.v (.pointer g0), .v (.int .i64 s0), .v (.int .i64 most0)], w, K => Quiet (SV) (fun r => (.slice r.a r.len r.cap)) (fun K1 w' => sh_dist_Around CV g0 s0 most0 (fun r0 w'' => K1 r0 w'') w') w (fun r => K (.slice r.a r.len r.cap))
  | _, _, _, _ => False
noncomputable def cx_dist_Around : Cx := Cx.add Try.prog cx_postroadref07_Right 24 sh_dist_Around.o sh_dist_Around.q
theorem cx_dist_Around.ok : CxOk cx_dist_Around := by
  refine CxOk.add cx_postroadref07_Right.ok rfl (fun CV hcv xs K w hx h => ?_) (fun CV hcv xs K w hx h => ?_)
  · unfold sh_dist_Around.o at h; split at h
    · rename_i g0 s0 most0; exact sh_dist_Around.calls CV g0 s0 most0 hcv h
    · exact h.elim
  · unfold sh_dist_Around.q at h; split at h
    · rename_i g0 s0 most0; obtain ⟨r, h1, h2⟩ := h; exact ⟨_, h2, fun w' e => sh_dist_Around.calls CV g0 s0 most0 hcv (h1 w' e)⟩
    · exact h.elim
def sh_postroadlaw07_DistJoins.plan : Plan := (.seq .o (.seq (.seq .o (.cond (.seq .o .o) .o)) (.seq .o (.seq .o (.seq .o (.seq .o (.seq .o (.seq .o (.join [] [] (.seq .o (.cond (.seq .o .o) .o)) (.seq .o (.seq .o (.seq .o (.seq .o (.join [.slot 24 (.int .i64)] [] (.seq .o (.block (.loop [.slot 24 (.int .i64), .slot 25 (.int .i64)] [] (.seq (.seq .o (.cond .o .o)) (.join [.slot 24 (.int .i64)] [] (.block (.seq (.draw [] [.pure, .pure, .pure, .pure, .pure, .pure, .pure, .pure, .quiet, .pure, .pure, .pure, .quiet, .pure, .pure] [0, 1, 2, 3, 4, 5, 6, 7, 8, 9, 10, 11, 12, 13, 14]) (.cond .o .o))) .o))))) (.seq .o .o)))))))))))))))
theorem sh_postroadlaw07_DistJoins.is (CV : CVT) (m0_N : Int) (m0_Arcs : SV) (s0 : Int) (a0 : SV) (b0 : SV) (most0 : Int) (w : World) (R : Value → World → Prop) : sh_postroadlaw07_DistJoins CV m0_N m0_Arcs s0 a0 b0 most0 (fun r0 w' => R (.bool r0) w') w = denF (cx_dist_Around.with CV) Try.f8 sh_postroadlaw07_DistJoins.plan [.v (.agg #[(.int .i64 m0_N), (.slice m0_Arcs.a m0_Arcs.len m0_Arcs.cap)]), .v (.int .i64 s0), .v (.slice a0.a a0.len a0.cap), .v (.slice b0.a b0.len b0.cap), .v (.int .u16 most0)] w R := by kernel_rfl
theorem sh_postroadlaw07_DistJoins.calls (CV : CVT) (m0_N : Int) (m0_Arcs : SV) (s0 : Int) (a0 : SV) (b0 : SV) (most0 : Int) (hcv : CVOk Try.prog CV) {w : World} {R : Ending → World → Prop} (h : sh_postroadlaw07_DistJoins CV m0_N m0_Arcs s0 a0 b0 most0 (fun r0 w' => R (.returned (.bool r0)) w') w) : Calls Try.prog 8 #[(.agg #[(.int .i64 m0_N), (.slice m0_Arcs.a m0_Arcs.len m0_Arcs.cap)]), (.int .i64 s0), (.slice a0.a a0.len a0.cap), (.slice b0.a b0.len b0.cap), (.int .u16 most0)] w R :=
  calls_is (cx := cx_dist_Around.with CV) mixed_Try (cx_dist_Around.ok.with CV) hcv Try.func8 sh_postroadlaw07_DistJoins.plan (xs := [.v (.agg #[(.int .i64 m0_N), (.slice m0_Arcs.a m0_Arcs.len m0_Arcs.cap)]), .v (.int .i64 s0), .v (.slice a0.a a0.len a0.cap), .v (.slice b0.a b0.len b0.cap), .v (.int .u16 most0)]) ((args_cons _ (args_cons _ (args_cons _ (args_cons _ (args_cons _ args_nil)))))) (by kernel_rfl) (sh_postroadlaw07_DistJoins.is CV m0_N m0_Arcs s0 a0 b0 most0 w (fun v w' => R (.returned v) w')) h
def sh_postroadlaw07_DistJoins.o : CVT → List X → (Value → World → Prop) → World → Prop
  | CV, [.v (.agg ⟨[.int .i64 m0_N, .slice m0_Arcs_a m0_Arcs_l m0_Arcs_c]⟩), .v (.int .i64 s0), .v (.slice a0_a a0_l a0_c), .v (.slice b0_a b0_l b0_c), .v (.int .u16 most0)], K, w => sh_postroadlaw07_DistJoins CV m0_N ⟨m0_Arcs_a, m0_Arcs_l, m0_Arcs_c⟩ s0 ⟨a0_a, a0_l, a0_c⟩ ⟨b0_a, b0_l, b0_c⟩ most0 (fun r0 w' => K (.bool r0) w') w
  | _, _, _, _ => False
def sh_postroadlaw07_DistJoins.q : CVT → List X → World → (Value → Prop) → Prop
  | CV, [.v (.agg ⟨[.int .i64 m0_N, .slice m0_Arcs_a m0_Arcs_l m0_Arcs_c]⟩), .v (.int .i64 s0), .v (.slice a0_a a0_l a0_c), .v (.slice b0_a b0_l b0_c), .v (.int .u16 most0)], w, K => Quiet (Bool) (fun r => (.bool r)) (fun K1 w' => sh_postroadlaw07_DistJoins CV m0_N ⟨m0_Arcs_a, m0_Arcs_l, m0_Arcs_c⟩ s0 ⟨a0_a, a0_l, a0_c⟩ ⟨b0_a, b0_l, b0_c⟩ most0 (fun r0 w'' => K1 r0 w'') w') w (fun r => K (.bool r))
  | _, _, _, _ => False
noncomputable def cx_postroadlaw07_DistJoins : Cx := Cx.add Try.prog cx_dist_Around 8 sh_postroadlaw07_DistJoins.o sh_postroadlaw07_DistJoins.q
theorem cx_postroadlaw07_DistJoins.ok : CxOk cx_postroadlaw07_DistJoins := by
  refine CxOk.add cx_dist_Around.ok rfl (fun CV hcv xs K w hx h => ?_) (fun CV hcv xs K w hx h => ?_)
  · unfold sh_postroadlaw07_DistJoins.o at h; split at h
    · rename_i m0_N m0_Arcs_a m0_Arcs_l m0_Arcs_c s0 a0_a a0_l a0_c b0_a b0_l b0_c most0; exact sh_postroadlaw07_DistJoins.calls CV m0_N ⟨m0_Arcs_a, m0_Arcs_l, m0_Arcs_c⟩ s0 ⟨a0_a, a0_l, a0_c⟩ ⟨b0_a, b0_l, b0_c⟩ most0 hcv h
    · exact h.elim
  · unfold sh_postroadlaw07_DistJoins.q at h; split at h
    · rename_i m0_N m0_Arcs_a m0_Arcs_l m0_Arcs_c s0 a0_a a0_l a0_c b0_a b0_l b0_c most0; obtain ⟨r, h1, h2⟩ := h; exact ⟨_, h2, fun w' e => sh_postroadlaw07_DistJoins.calls CV m0_N ⟨m0_Arcs_a, m0_Arcs_l, m0_Arcs_c⟩ s0 ⟨a0_a, a0_l, a0_c⟩ ⟨b0_a, b0_l, b0_c⟩ most0 hcv (h1 w' e)⟩
    · exact h.elim
def sh_postroadref07_All.plan : Plan := (.seq .o (.seq .o (.seq (.seq .o (.block (.loop [.slot 3 .slice, .slot 4 (.int .i64)] [] (.seq (.seq .o (.cond .o .o)) (.join [.slot 3 .slice] [] (.block (.seq .o (.join [] [] (.seq .o (.block (.loop [.slot 6 (.int .i64)] [] (.seq (.seq .o (.cond .o .o)) (.seq (.block .o) .o))))) (.seq .o (.join [] [] (.seq .o (.block (.loop [.slot 7 .bool] [] (.seq (.seq .o (.cond .o .o)) (.block (.seq .o (.seq .o (.block (.loop [.slot 7 .bool, .slot 8 (.int .i64)] [] (.seq (.seq .o (.cond .o .o)) (.join [.slot 7 .bool] [] (.block (.seq .o (.seq (.draw [] [.pure, .pure, .loc, .pure, .quiet, .pure, .pure, .pure, .pure, .loc, .pure, .quiet, .pure, .pure, .pure, .pure, .loc, .pure, .quiet, .pure, .loc, .pure, .pure, .pure, .loc, .pure, .quiet, .pure, .pure, .pure] [0, 1, 2, 3, 4, 5, 6, 7, 8, 9, 10, 11, 12, 13, 14, 15, 16, 17, 18, 19, 20, 21, 22, 23, 24, 25, 26, 27, 28, 29]) (.cond (.seq (.draw [] [.pure, .pure, .loc, .pure, .pure, .loc, .pure, .quiet, .pure, .loc, .pure, .pure, .big] [0, 1, 2, 3, 4, 5, 6, 7, 8, 9, 10, 11, 12]) .o) .o)))) .o))))))))))) .o))))) .o))))) (.seq .o .o))))
theorem sh_postroadref07_All.is (CV : CVT) (m0_N : Int) (m0_Arcs : SV) (w : World) (R : Value → World → Prop) : sh_postroadref07_All m0_N m0_Arcs (fun r0 w' => R (.slice r0.a r0.len r0.cap) w') w = denF (cx_postroadlaw07_DistJoins.with CV) Try.f25 sh_postroadref07_All.plan [.v (.agg #[(.int .i64 m0_N), (.slice m0_Arcs.a m0_Arcs.len m0_Arcs.cap)])] w R := by kernel_rfl
theorem sh_postroadref07_All.calls (CV : CVT) (m0_N : Int) (m0_Arcs : SV) (hcv : CVOk Try.prog CV) {w : World} {R : Ending → World → Prop} (h : sh_postroadref07_All m0_N m0_Arcs (fun r0 w' => R (.returned (.slice r0.a r0.len r0.cap)) w') w) : Calls Try.prog 25 #[(.agg #[(.int .i64 m0_N), (.slice m0_Arcs.a m0_Arcs.len m0_Arcs.cap)])] w R :=
  calls_is (cx := cx_postroadlaw07_DistJoins.with CV) mixed_Try (cx_postroadlaw07_DistJoins.ok.with CV) hcv Try.func25 sh_postroadref07_All.plan (xs := [.v (.agg #[(.int .i64 m0_N), (.slice m0_Arcs.a m0_Arcs.len m0_Arcs.cap)])]) ((args_cons _ args_nil)) (by kernel_rfl) (sh_postroadref07_All.is CV m0_N m0_Arcs w (fun v w' => R (.returned v) w')) h
def sh_postroadref07_All.o : CVT → List X → (Value → World → Prop) → World → Prop
  | CV, [.v (.agg ⟨[.int .i64 m0_N, .slice m0_Arcs_a m0_Arcs_l m0_Arcs_c]⟩)], K, w => sh_postroadref07_All m0_N ⟨m0_Arcs_a, m0_Arcs_l, m0_Arcs_c⟩ (fun r0 w' => K (.slice r0.a r0.len r0.cap) w') w
  | _, _, _, _ => False
def sh_postroadref07_All.q : CVT → List X → World → (Value → Prop) → Prop
  | CV, [.v (.agg ⟨[.int .i64 m0_N, .slice m0_Arcs_a m0_Arcs_l m0_Arcs_c]⟩)], w, K => Quiet (SV) (fun r => (.slice r.a r.len r.cap)) (fun K1 w' => sh_postroadref07_All m0_N ⟨m0_Arcs_a, m0_Arcs_l, m0_Arcs_c⟩ (fun r0 w'' => K1 r0 w'') w') w (fun r => K (.slice r.a r.len r.cap))
  | _, _, _, _ => False
noncomputable def cx_postroadref07_All : Cx := Cx.add Try.prog cx_postroadlaw07_DistJoins 25 sh_postroadref07_All.o sh_postroadref07_All.q
theorem cx_postroadref07_All.ok : CxOk cx_postroadref07_All := by
  refine CxOk.add cx_postroadlaw07_DistJoins.ok rfl (fun CV hcv xs K w hx h => ?_) (fun CV hcv xs K w hx h => ?_)
  · unfold sh_postroadref07_All.o at h; split at h
    · rename_i m0_N m0_Arcs_a m0_Arcs_l m0_Arcs_c; exact sh_postroadref07_All.calls CV m0_N ⟨m0_Arcs_a, m0_Arcs_l, m0_Arcs_c⟩ hcv h
    · exact h.elim
  · unfold sh_postroadref07_All.q at h; split at h
    · rename_i m0_N m0_Arcs_a m0_Arcs_l m0_Arcs_c; obtain ⟨r, h1, h2⟩ := h; exact ⟨_, h2, fun w' e => sh_postroadref07_All.calls CV m0_N ⟨m0_Arcs_a, m0_Arcs_l, m0_Arcs_c⟩ hcv (h1 w' e)⟩
    · exact h.elim
def sh_postroadref07_From.plan : Plan := (.seq .o (.seq (.seq .o (.cond (.seq .o .o) .o)) (.seq .o .o)))
theorem sh_postroadref07_From.is (CV : CVT) (all0 : SV) (s0 : Int) (w : World) (R : Value → World → Prop) : sh_postroadref07_From all0 s0 (fun r0 w' => R (.slice r0.a r0.len r0.cap) w') w = denF (cx_postroadref07_All.with CV) Try.f26 sh_postroadref07_From.plan [.v (.slice all0.a all0.len all0.cap), .v (.int .i64 s0)] w R := by kernel_rfl
theorem sh_postroadref07_From.calls (CV : CVT) (all0 : SV) (s0 : Int) (hcv : CVOk Try.prog CV) {w : World} {R : Ending → World → Prop} (h : sh_postroadref07_From all0 s0 (fun r0 w' => R (.returned (.slice r0.a r0.len r0.cap)) w') w) : Calls Try.prog 26 #[(.slice all0.a all0.len all0.cap), (.int .i64 s0)] w R :=
  calls_is (cx := cx_postroadref07_All.with CV) mixed_Try (cx_postroadref07_All.ok.with CV) hcv Try.func26 sh_postroadref07_From.plan (xs := [.v (.slice all0.a all0.len all0.cap), .v (.int .i64 s0)]) ((args_cons _ (args_cons _ args_nil))) (by kernel_rfl) (sh_postroadref07_From.is CV all0 s0 w (fun v w' => R (.returned v) w')) h
def sh_postroadref07_From.o : CVT → List X → (Value → World → Prop) → World → Prop
  | CV, [.v (.slice all0_a all0_l all0_c), .v (.int .i64 s0)], K, w => sh_postroadref07_From ⟨all0_a, all0_l, all0_c⟩ s0 (fun r0 w' => K (.slice r0.a r0.len r0.cap) w') w
  | _, _, _, _ => False
def sh_postroadref07_From.q : CVT → List X → World → (Value → Prop) → Prop
  | CV, [.v (.slice all0_a all0_l all0_c), .v (.int .i64 s0)], w, K => Quiet (SV) (fun r => (.slice r.a r.len r.cap)) (fun K1 w' => sh_postroadref07_From ⟨all0_a, all0_l, all0_c⟩ s0 (fun r0 w'' => K1 r0 w'') w') w (fun r => K (.slice r.a r.len r.cap))
  | _, _, _, _ => False
noncomputable def cx_postroadref07_From : Cx := Cx.add Try.prog cx_postroadref07_All 26 sh_postroadref07_From.o sh_postroadref07_From.q
theorem cx_postroadref07_From.ok : CxOk cx_postroadref07_From := by
  refine CxOk.add cx_postroadref07_All.ok rfl (fun CV hcv xs K w hx h => ?_) (fun CV hcv xs K w hx h => ?_)
  · unfold sh_postroadref07_From.o at h; split at h
    · rename_i all0_a all0_l all0_c s0; exact sh_postroadref07_From.calls CV ⟨all0_a, all0_l, all0_c⟩ s0 hcv h
    · exact h.elim
  · unfold sh_postroadref07_From.q at h; split at h
    · rename_i all0_a all0_l all0_c s0; obtain ⟨r, h1, h2⟩ := h; exact ⟨_, h2, fun w' e => sh_postroadref07_From.calls CV ⟨all0_a, all0_l, all0_c⟩ s0 hcv (h1 w' e)⟩
    · exact h.elim
def sh_postroadref07_To.plan : Plan := (.seq .o (.seq (.seq .o (.cond (.seq .o .o) .o)) (.seq .o (.seq (.seq .o (.block (.loop [.slot 5 .slice, .slot 6 (.int .i64)] [] (.seq (.seq .o (.cond .o .o)) (.seq (.block .o) .o))))) (.seq .o .o)))))
theorem sh_postroadref07_To.is (CV : CVT) (all0 : SV) (t0 : Int) (w : World) (R : Value → World → Prop) : sh_postroadref07_To all0 t0 (fun r0 w' => R (.slice r0.a r0.len r0.cap) w') w = denF (cx_postroadref07_From.with CV) Try.f27 sh_postroadref07_To.plan [.v (.slice all0.a all0.len all0.cap), .v (.int .i64 t0)] w R := by kernel_rfl
theorem sh_postroadref07_To.calls (CV : CVT) (all0 : SV) (t0 : Int) (hcv : CVOk Try.prog CV) {w : World} {R : Ending → World → Prop} (h : sh_postroadref07_To all0 t0 (fun r0 w' => R (.returned (.slice r0.a r0.len r0.cap)) w') w) : Calls Try.prog 27 #[(.slice all0.a all0.len all0.cap), (.int .i64 t0)] w R :=
  calls_is (cx := cx_postroadref07_From.with CV) mixed_Try (cx_postroadref07_From.ok.with CV) hcv Try.func27 sh_postroadref07_To.plan (xs := [.v (.slice all0.a all0.len all0.cap), .v (.int .i64 t0)]) ((args_cons _ (args_cons _ args_nil))) (by kernel_rfl) (sh_postroadref07_To.is CV all0 t0 w (fun v w' => R (.returned v) w')) h
def sh_postroadref07_To.o : CVT → List X → (Value → World → Prop) → World → Prop
  | CV, [.v (.slice all0_a all0_l all0_c), .v (.int .i64 t0)], K, w => sh_postroadref07_To ⟨all0_a, all0_l, all0_c⟩ t0 (fun r0 w' => K (.slice r0.a r0.len r0.cap) w') w
  | _, _, _, _ => False
def sh_postroadref07_To.q : CVT → List X → World → (Value → Prop) → Prop
  | CV, [.v (.slice all0_a all0_l all0_c), .v (.int .i64 t0)], w, K => Quiet (SV) (fun r => (.slice r.a r.len r.cap)) (fun K1 w' => sh_postroadref07_To ⟨all0_a, all0_l, all0_c⟩ t0 (fun r0 w'' => K1 r0 w'') w') w (fun r => K (.slice r.a r.len r.cap))
  | _, _, _, _ => False
noncomputable def cx_postroadref07_To : Cx := Cx.add Try.prog cx_postroadref07_From 27 sh_postroadref07_To.o sh_postroadref07_To.q
theorem cx_postroadref07_To.ok : CxOk cx_postroadref07_To := by
  refine CxOk.add cx_postroadref07_From.ok rfl (fun CV hcv xs K w hx h => ?_) (fun CV hcv xs K w hx h => ?_)
  · unfold sh_postroadref07_To.o at h; split at h
    · rename_i all0_a all0_l all0_c t0; exact sh_postroadref07_To.calls CV ⟨all0_a, all0_l, all0_c⟩ t0 hcv h
    · exact h.elim
  · unfold sh_postroadref07_To.q at h; split at h
    · rename_i all0_a all0_l all0_c t0; obtain ⟨r, h1, h2⟩ := h; exact ⟨_, h2, fun w' e => sh_postroadref07_To.calls CV ⟨all0_a, all0_l, all0_c⟩ t0 hcv (h1 w' e)⟩
    · exact h.elim
def sh_postroadref07_Between.plan : Plan := (.seq .o (.seq (.seq .o (.cond (.seq .o .o) .o)) (.seq .o .o)))
theorem sh_postroadref07_Between.is (CV : CVT) (all0 : SV) (s0 : Int) (t0 : Int) (w : World) (R : Value → World → Prop) : sh_postroadref07_Between all0 s0 t0 (fun r0 w' => R (.int .i64 r0) w') w = denF (cx_postroadref07_To.with CV) Try.f28 sh_postroadref07_Between.plan [.v (.slice all0.a all0.len all0.cap), .v (.int .i64 s0), .v (.int .i64 t0)] w R := by kernel_rfl
theorem sh_postroadref07_Between.calls (CV : CVT) (all0 : SV) (s0 : Int) (t0 : Int) (hcv : CVOk Try.prog CV) {w : World} {R : Ending → World → Prop} (h : sh_postroadref07_Between all0 s0 t0 (fun r0 w' => R (.returned (.int .i64 r0)) w') w) : Calls Try.prog 28 #[(.slice all0.a all0.len all0.cap), (.int .i64 s0), (.int .i64 t0)] w R :=
  calls_is (cx := cx_postroadref07_To.with CV) mixed_Try (cx_postroadref07_To.ok.with CV) hcv Try.func28 sh_postroadref07_Between.plan (xs := [.v (.slice all0.a all0.len all0.cap), .v (.int .i64 s0), .v (.int .i64 t0)]) ((args_cons _ (args_cons _ (args_cons _ args_nil)))) (by kernel_rfl) (sh_postroadref07_Between.is CV all0 s0 t0 w (fun v w' => R (.returned v) w')) h
def sh_postroadref07_Between.o : CVT → List X → (Value → World → Prop) → World → Prop
  | CV, [.v (.slice all0_a all0_l all0_c), .v (.int .i64 s0), .v (.int .i64 t0)], K, w => sh_postroadref07_Between ⟨all0_a, all0_l, all0_c⟩ s0 t0 (fun r0 w' => K (.int .i64 r0) w') w
  | _, _, _, _ => False
def sh_postroadref07_Between.q : CVT → List X → World → (Value → Prop) → Prop
  | CV, [.v (.slice all0_a all0_l all0_c), .v (.int .i64 s0), .v (.int .i64 t0)], w, K => Quiet (Int) (fun r => (.int .i64 r)) (fun K1 w' => sh_postroadref07_Between ⟨all0_a, all0_l, all0_c⟩ s0 t0 (fun r0 w'' => K1 r0 w'') w') w (fun r => K (.int .i64 r))
  | _, _, _, _ => False
noncomputable def cx_postroadref07_Between : Cx := Cx.add Try.prog cx_postroadref07_To 28 sh_postroadref07_Between.o sh_postroadref07_Between.q
theorem cx_postroadref07_Between.ok : CxOk cx_postroadref07_Between := by
  refine CxOk.add cx_postroadref07_To.ok rfl (fun CV hcv xs K w hx h => ?_) (fun CV hcv xs K w hx h => ?_)
  · unfold sh_postroadref07_Between.o at h; split at h
    · rename_i all0_a all0_l all0_c s0 t0; exact sh_postroadref07_Between.calls CV ⟨all0_a, all0_l, all0_c⟩ s0 t0 hcv h
    · exact h.elim
  · unfold sh_postroadref07_Between.q at h; split at h
    · rename_i all0_a all0_l all0_c s0 t0; obtain ⟨r, h1, h2⟩ := h; exact ⟨_, h2, fun w' e => sh_postroadref07_Between.calls CV ⟨all0_a, all0_l, all0_c⟩ s0 t0 hcv (h1 w' e)⟩
    · exact h.elim
def sh_postroadref07_Around.plan : Plan := (.seq .o (.seq .o (.seq .o (.seq (.seq .o (.block (.loop [.slot 8 .slice, .slot 9 (.int .i64)] [] (.seq (.seq .o (.cond .o .o)) (.join [.slot 8 .slice] [] (.block (.seq .o (.cond .o .o))) .o))))) (.seq .o .o)))))
theorem sh_postroadref07_Around.is (CV : CVT) (all0 : SV) (s0 : Int) (most0 : Int) (w : World) (R : Value → World → Prop) : sh_postroadref07_Around all0 s0 most0 (fun r0 w' => R (.slice r0.a r0.len r0.cap) w') w = denF (cx_postroadref07_Between.with CV) Try.f29 sh_postroadref07_Around.plan [.v (.slice all0.a all0.len all0.cap), .v (.int .i64 s0), .v (.int .i64 most0)] w R := by kernel_rfl
theorem sh_postroadref07_Around.calls (CV : CVT) (all0 : SV) (s0 : Int) (most0 : Int) (hcv : CVOk Try.prog CV) {w : World} {R : Ending → World → Prop} (h : sh_postroadref07_Around all0 s0 most0 (fun r0 w' => R (.returned (.slice r0.a r0.len r0.cap)) w') w) : Calls Try.prog 29 #[(.slice all0.a all0.len all0.cap), (.int .i64 s0), (.int .i64 most0)] w R :=
  calls_is (cx := cx_postroadref07_Between.with CV) mixed_Try (cx_postroadref07_Between.ok.with CV) hcv Try.func29 sh_postroadref07_Around.plan (xs := [.v (.slice all0.a all0.len all0.cap), .v (.int .i64 s0), .v (.int .i64 most0)]) ((args_cons _ (args_cons _ (args_cons _ args_nil)))) (by kernel_rfl) (sh_postroadref07_Around.is CV all0 s0 most0 w (fun v w' => R (.returned v) w')) h
def sh_postroadref07_Around.o : CVT → List X → (Value → World → Prop) → World → Prop
  | CV, [.v (.slice all0_a all0_l all0_c), .v (.int .i64 s0), .v (.int .i64 most0)], K, w => sh_postroadref07_Around ⟨all0_a, all0_l, all0_c⟩ s0 most0 (fun r0 w' => K (.slice r0.a r0.len r0.cap) w') w
  | _, _, _, _ => False
def sh_postroadref07_Around.q : CVT → List X → World → (Value → Prop) → Prop
  | CV, [.v (.slice all0_a all0_l all0_c), .v (.int .i64 s0), .v (.int .i64 most0)], w, K => Quiet (SV) (fun r => (.slice r.a r.len r.cap)) (fun K1 w' => sh_postroadref07_Around ⟨all0_a, all0_l, all0_c⟩ s0 most0 (fun r0 w'' => K1 r0 w'') w') w (fun r => K (.slice r.a r.len r.cap))
  | _, _, _, _ => False
noncomputable def cx_postroadref07_Around : Cx := Cx.add Try.prog cx_postroadref07_Between 29 sh_postroadref07_Around.o sh_postroadref07_Around.q
theorem cx_postroadref07_Around.ok : CxOk cx_postroadref07_Around := by
  refine CxOk.add cx_postroadref07_Between.ok rfl (fun CV hcv xs K w hx h => ?_) (fun CV hcv xs K w hx h => ?_)
  · unfold sh_postroadref07_Around.o at h; split at h
    · rename_i all0_a all0_l all0_c s0 most0; exact sh_postroadref07_Around.calls CV ⟨all0_a, all0_l, all0_c⟩ s0 most0 hcv h
    · exact h.elim
  · unfold sh_postroadref07_Around.q at h; split at h
    · rename_i all0_a all0_l all0_c s0 most0; obtain ⟨r, h1, h2⟩ := h; exact ⟨_, h2, fun w' e => sh_postroadref07_Around.calls CV ⟨all0_a, all0_l, all0_c⟩ s0 most0 hcv (h1 w' e)⟩
    · exact h.elim
def sh_postroadref07_Total.plan : Plan := (.seq .o (.seq (.seq .o (.cond (.seq .o .o) .o)) (.seq .o (.seq (.seq .o (.block (.loop [.slot 3 (.int .i64), .slot 4 (.int .i64)] [] (.seq (.seq .o (.cond .o .o)) (.seq (.block .o) .o))))) (.seq .o .o)))))
theorem sh_postroadref07_Total.is (CV : CVT) (m0_N : Int) (m0_Arcs : SV) (w : World) (R : Value → World → Prop) : sh_postroadref07_Total m0_N m0_Arcs (fun r0 w' => R (.int .i64 r0) w') w = denF (cx_postroadref07_Around.with CV) Try.f30 sh_postroadref07_Total.plan [.v (.agg #[(.int .i64 m0_N), (.slice m0_Arcs.a m0_Arcs.len m0_Arcs.cap)])] w R := by kernel_rfl
theorem sh_postroadref07_Total.calls (CV : CVT) (m0_N : Int) (m0_Arcs : SV) (hcv : CVOk Try.prog CV) {w : World} {R : Ending → World → Prop} (h : sh_postroadref07_Total m0_N m0_Arcs (fun r0 w' => R (.returned (.int .i64 r0)) w') w) : Calls Try.prog 30 #[(.agg #[(.int .i64 m0_N), (.slice m0_Arcs.a m0_Arcs.len m0_Arcs.cap)])] w R :=
  calls_is (cx := cx_postroadref07_Around.with CV) mixed_Try (cx_postroadref07_Around.ok.with CV) hcv Try.func30 sh_postroadref07_Total.plan (xs := [.v (.agg #[(.int .i64 m0_N), (.slice m0_Arcs.a m0_Arcs.len m0_Arcs.cap)])]) ((args_cons _ args_nil)) (by kernel_rfl) (sh_postroadref07_Total.is CV m0_N m0_Arcs w (fun v w' => R (.returned v) w')) h
def sh_postroadref07_Total.o : CVT → List X → (Value → World → Prop) → World → Prop
  | CV, [.v (.agg ⟨[.int .i64 m0_N, .slice m0_Arcs_a m0_Arcs_l m0_Arcs_c]⟩)], K, w => sh_postroadref07_Total m0_N ⟨m0_Arcs_a, m0_Arcs_l, m0_Arcs_c⟩ (fun r0 w' => K (.int .i64 r0) w') w
  | _, _, _, _ => False
def sh_postroadref07_Total.q : CVT → List X → World → (Value → Prop) → Prop
  | CV, [.v (.agg ⟨[.int .i64 m0_N, .slice m0_Arcs_a m0_Arcs_l m0_Arcs_c]⟩)], w, K => Quiet (Int) (fun r => (.int .i64 r)) (fun K1 w' => sh_postroadref07_Total m0_N ⟨m0_Arcs_a, m0_Arcs_l, m0_Arcs_c⟩ (fun r0 w'' => K1 r0 w'') w') w (fun r => K (.int .i64 r))
  | _, _, _, _ => False
noncomputable def cx_postroadref07_Total : Cx := Cx.add Try.prog cx_postroadref07_Around 30 sh_postroadref07_Total.o sh_postroadref07_Total.q
theorem cx_postroadref07_Total.ok : CxOk cx_postroadref07_Total := by
  refine CxOk.add cx_postroadref07_Around.ok rfl (fun CV hcv xs K w hx h => ?_) (fun CV hcv xs K w hx h => ?_)
  · unfold sh_postroadref07_Total.o at h; split at h
    · rename_i m0_N m0_Arcs_a m0_Arcs_l m0_Arcs_c; exact sh_postroadref07_Total.calls CV m0_N ⟨m0_Arcs_a, m0_Arcs_l, m0_Arcs_c⟩ hcv h
    · exact h.elim
  · unfold sh_postroadref07_Total.q at h; split at h
    · rename_i m0_N m0_Arcs_a m0_Arcs_l m0_Arcs_c; obtain ⟨r, h1, h2⟩ := h; exact ⟨_, h2, fun w' e => sh_postroadref07_Total.calls CV m0_N ⟨m0_Arcs_a, m0_Arcs_l, m0_Arcs_c⟩ hcv (h1 w' e)⟩
    · exact h.elim
def sh_postroadlaw07_DistAll.plan : Plan := (.seq .o (.seq (.seq .o (.cond (.seq .o .o) .o)) (.seq .o (.seq (.seq .o (.cond (.seq .o .o) .o)) (.seq .o (.seq (.draw [] [.pure, .pure, .big, .pure, .pure, .big, .quiet, .pure, .pure, .pure, .big, .pure, .pure, .big, .quiet, .pure, .pure, .pure, .pure, .pure, .big, .pure, .pure, .pure, .quiet, .pure, .pure, .pure, .pure, .pure, .pure, .big, .pure, .pure, .pure, .big, .quiet, .pure, .pure, .loc, .big, .rd, .quiet, .pure, .pure, .pure, .big, .pure, .pure] [0, 1, 3, 4, 2, 5, 6, 7, 8, 9, 11, 12, 10, 13, 14, 15, 16, 17, 18, 19, 21, 22, 23, 20, 24, 25, 26, 27, 28, 29, 30, 32, 33, 34, 31, 35, 36, 37, 38, 39, 41, 40, 42, 43, 44, 45, 46, 47, 48]) .o))))))
theorem sh_postroadlaw07_DistAll.is (CV : CVT) (m0_N : Int) (m0_Arcs : SV) (s0 : Int) (t0 : Int) (most0 : Int) (w : World) (R : Value → World → Prop) : sh_postroadlaw07_DistAll CV m0_N m0_Arcs s0 t0 most0 (fun r0 w' => R (.bool r0) w') w = denF (cx_postroadref07_Total.with CV) Try.f9 sh_postroadlaw07_DistAll.plan [.v (.agg #[(.int .i64 m0_N), (.slice m0_Arcs.a m0_Arcs.len m0_Arcs.cap)]), .v (.int .i64 s0), .v (.int .i64 t0), .v (.int .i64 most0)] w R := by kernel_rfl
theorem sh_postroadlaw07_DistAll.calls (CV : CVT) (m0_N : Int) (m0_Arcs : SV) (s0 : Int) (t0 : Int) (most0 : Int) (hcv : CVOk Try.prog CV) {w : World} {R : Ending → World → Prop} (h : sh_postroadlaw07_DistAll CV m0_N m0_Arcs s0 t0 most0 (fun r0 w' => R (.returned (.bool r0)) w') w) : Calls Try.prog 9 #[(.agg #[(.int .i64 m0_N), (.slice m0_Arcs.a m0_Arcs.len m0_Arcs.cap)]), (.int .i64 s0), (.int .i64 t0), (.int .i64 most0)] w R :=
  calls_is (cx := cx_postroadref07_Total.with CV) mixed_Try (cx_postroadref07_Total.ok.with CV) hcv Try.func9 sh_postroadlaw07_DistAll.plan (xs := [.v (.agg #[(.int .i64 m0_N), (.slice m0_Arcs.a m0_Arcs.len m0_Arcs.cap)]), .v (.int .i64 s0), .v (.int .i64 t0), .v (.int .i64 most0)]) ((args_cons _ (args_cons _ (args_cons _ (args_cons _ args_nil))))) (by kernel_rfl) (sh_postroadlaw07_DistAll.is CV m0_N m0_Arcs s0 t0 most0 w (fun v w' => R (.returned v) w')) h
def sh_postroadlaw07_DistAll.o : CVT → List X → (Value → World → Prop) → World → Prop
  | CV, [.v (.agg ⟨[.int .i64 m0_N, .slice m0_Arcs_a m0_Arcs_l m0_Arcs_c]⟩), .v (.int .i64 s0), .v (.int .i64 t0), .v (.int .i64 most0)], K, w => sh_postroadlaw07_DistAll CV m0_N ⟨m0_Arcs_a, m0_Arcs_l, m0_Arcs_c⟩ s0 t0 most0 (fun r0 w' => K (.bool r0) w') w
  | _, _, _, _ => False
def sh_postroadlaw07_DistAll.q : CVT → List X → World → (Value → Prop) → Prop
  | CV, [.v (.agg ⟨[.int .i64 m0_N, .slice m0_Arcs_a m0_Arcs_l m0_Arcs_c]⟩), .v (.int .i64 s0), .v (.int .i64 t0), .v (.int .i64 most0)], w, K => Quiet (Bool) (fun r => (.bool r)) (fun K1 w' => sh_postroadlaw07_DistAll CV m0_N ⟨m0_Arcs_a, m0_Arcs_l, m0_Arcs_c⟩ s0 t0 most0 (fun r0 w'' => K1 r0 w'') w') w (fun r => K (.bool r))
  | _, _, _, _ => False
noncomputable def cx_postroadlaw07_DistAll : Cx := Cx.add Try.prog cx_postroadref07_Total 9 sh_postroadlaw07_DistAll.o sh_postroadlaw07_DistAll.q
theorem cx_postroadlaw07_DistAll.ok : CxOk cx_postroadlaw07_DistAll := by
  refine CxOk.add cx_postroadref07_Total.ok rfl (fun CV hcv xs K w hx h => ?_) (fun CV hcv xs K w hx h => ?_)
  · unfold sh_postroadlaw07_DistAll.o at h; split at h
    · rename_i m0_N m0_Arcs_a m0_Arcs_l m0_Arcs_c s0 t0 most0; exact sh_postroadlaw07_DistAll.calls CV m0_N ⟨m0_Arcs_a, m0_Arcs_l, m0_Arcs_c⟩ s0 t0 most0 hcv h
    · exact h.elim
  · unfold sh_postroadlaw07_DistAll.q at h; split at h
    · rename_i m0_N m0_Arcs_a m0_Arcs_l m0_Arcs_c s0 t0 most0; obtain ⟨r, h1, h2⟩ := h; exact ⟨_, h2, fun w' e => sh_postroadlaw07_DistAll.calls CV m0_N ⟨m0_Arcs_a, m0_Arcs_l, m0_Arcs_c⟩ s0 t0 most0 hcv (h1 w' e)⟩
    · exact h.elim
noncomputable def cxAll : Cx := cx_postroadlaw07_DistAll
theorem cxAll.ok : CxOk cxAll := cx_postroadlaw07_DistAll.ok
end Go.Sh
