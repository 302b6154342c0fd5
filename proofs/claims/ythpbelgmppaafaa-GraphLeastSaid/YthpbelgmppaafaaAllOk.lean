/- The shallow definitions are what the code asks; printed by gen.py of these sessions. -/
import Derived.Test.YthpbelgmppaafaaAllDef
import Derived.Test.YthpbelgmppaafaaSnd8
import Derived.Test.YthpbelgmppaafaaProg
import Derived.KernelRfl
set_option maxRecDepth 100000
set_option linter.unusedVariables false
namespace Go.Sh
open Go.Proofs
theorem mixed_Try : Try.prog.follows .mixedOrders = true := by kernel_rfl
noncomputable def cx_0 : Cx := Cx.none Try.prog
theorem cx_0.ok : CxOk cx_0 := CxOk.none _
def sh_postroadref06_part.plan : Plan := (.seq .o (.seq .o (.seq (.seq .o (.cond (.seq .o .o) .o)) (.seq .o .o))))
theorem sh_postroadref06_part.is (CV : CVT) (x0 : Int) (n0 : Int) (w : World) (R : Value → World → Prop) : sh_postroadref06_part x0 n0 (fun r0 w' => R (.int .i64 r0) w') w = denF (cx_0.with CV) Try.f43 sh_postroadref06_part.plan [.v (.int .i64 x0), .v (.int .i64 n0)] w R := by kernel_rfl
theorem sh_postroadref06_part.calls (CV : CVT) (x0 : Int) (n0 : Int) (hcv : CVOk Try.prog CV) {w : World} {R : Ending → World → Prop} (h : sh_postroadref06_part x0 n0 (fun r0 w' => R (.returned (.int .i64 r0)) w') w) : Calls Try.prog 43 #[(.int .i64 x0), (.int .i64 n0)] w R :=
  calls_is (cx := cx_0.with CV) mixed_Try (cx_0.ok.with CV) hcv Try.func43 sh_postroadref06_part.plan (xs := [.v (.int .i64 x0), .v (.int .i64 n0)]) ((args_cons _ (args_cons _ args_nil))) (by kernel_rfl) (sh_postroadref06_part.is CV x0 n0 w (fun v w' => R (.returned v) w')) h
def sh_postroadref06_part.o : CVT → List X → (Value → World → Prop) → World → Prop
  | CV, [.v (.int .i64 x0), .v (.int .i64 n0)], K, w => sh_postroadref06_part x0 n0 (fun r0 w' => K (.int .i64 r0) w') w
  | _, _, _, _ => False
def sh_postroadref06_part.q : CVT → List X → World → (Value → Prop) → Prop
  | CV, [.v (.int .i64 x0), .v (.int .i64 n0)], w, K => Quiet (Int) (fun r => (.int .i64 r)) (fun K1 w' => sh_postroadref06_part x0 n0 (fun r0 w'' => K1 r0 w'') w') w (fun r => K (.int .i64 r))
  | _, _, _, _ => False
noncomputable def cx_postroadref06_part : Cx := Cx.add Try.prog cx_0 43 sh_postroadref06_part.o sh_postroadref06_part.q
theorem cx_postroadref06_part.ok : CxOk cx_postroadref06_part := by
  refine CxOk.add cx_0.ok rfl (fun CV hcv xs K w hx h => ?_) (fun CV hcv xs K w hx h => ?_)
  · unfold sh_postroadref06_part.o at h; split at h
    · rename_i x0 n0; exact sh_postroadref06_part.calls CV x0 n0 hcv h
    · exact h.elim
  · unfold sh_postroadref06_part.q at h; split at h
    · rename_i x0 n0; obtain ⟨r, h1, h2⟩ := h; exact ⟨_, h2, fun w' e => sh_postroadref06_part.calls CV x0 n0 hcv (h1 w' e)⟩
    · exact h.elim
def sh_postroadref06_Of.plan : Plan := (.seq .o (.seq .o (.seq .o (.join [.box 5 [(.int .i64), .slice]] [] (.seq .o (.block (.loop [.slot 6 (.int .i64), .box 5 [(.int .i64), .slice]] [] (.seq (.seq .o (.cond .o .o)) (.seq (.block (.seq .o (.draw [] [.pure, .loc, .pure, .loc, .pure, .quiet, .pure, .loc, .pure, .quiet, .pure, .loc, .quiet, .pure, .new, .big, .pure, .big] [0, 1, 2, 3, 4, 5, 6, 7, 8, 9, 10, 11, 12, 13, 14, 15, 16, 17]))) .o))))) (.seq .o .o)))))
theorem sh_postroadref06_Of.is (CV : CVT) (n0 : Int) (arcs0 : SV) (w : World) (R : Value → World → Prop) : sh_postroadref06_Of n0 arcs0 (fun r0 r1 w' => R (.agg #[(.int .i64 r0), (.slice r1.a r1.len r1.cap)]) w') w = denF (cx_postroadref06_part.with CV) Try.f15 sh_postroadref06_Of.plan [.v (.int .i64 n0), .v (.slice arcs0.a arcs0.len arcs0.cap)] w R := by kernel_rfl
theorem sh_postroadref06_Of.calls (CV : CVT) (n0 : Int) (arcs0 : SV) (hcv : CVOk Try.prog CV) {w : World} {R : Ending → World → Prop} (h : sh_postroadref06_Of n0 arcs0 (fun r0 r1 w' => R (.returned (.agg #[(.int .i64 r0), (.slice r1.a r1.len r1.cap)])) w') w) : Calls Try.prog 15 #[(.int .i64 n0), (.slice arcs0.a arcs0.len arcs0.cap)] w R :=
  calls_is (cx := cx_postroadref06_part.with CV) mixed_Try (cx_postroadref06_part.ok.with CV) hcv Try.func15 sh_postroadref06_Of.plan (xs := [.v (.int .i64 n0), .v (.slice arcs0.a arcs0.len arcs0.cap)]) ((args_cons _ (args_cons _ args_nil))) (by kernel_rfl) (sh_postroadref06_Of.is CV n0 arcs0 w (fun v w' => R (.returned v) w')) h
def sh_postroadref06_Of.o : CVT → List X → (Value → World → Prop) → World → Prop
  | CV, [.v (.int .i64 n0), .v (.slice arcs0_a arcs0_l arcs0_c)], K, w => sh_postroadref06_Of n0 ⟨arcs0_a, arcs0_l, arcs0_c⟩ (fun r0 r1 w' => K (.agg #[(.int .i64 r0), (.slice r1.a r1.len r1.cap)]) w') w
  | _, _, _, _ => False
def sh_postroadref06_Of.q : CVT → List X → World → (Value → Prop) → Prop
  | CV, [.v (.int .i64 n0), .v (.slice arcs0_a arcs0_l arcs0_c)], w, K => Quiet (Int × SV) (fun r => (.agg #[(.int .i64 r.1), (.slice r.2.a r.2.len r.2.cap)])) (fun K1 w' => sh_postroadref06_Of n0 ⟨arcs0_a, arcs0_l, arcs0_c⟩ (fun r0 r1 w'' => K1 (r0, r1) w'') w') w (fun r => K (.agg #[(.int .i64 r.1), (.slice r.2.a r.2.len r.2.cap)]))
  | _, _, _, _ => False
noncomputable def cx_postroadref06_Of : Cx := Cx.add Try.prog cx_postroadref06_part 15 sh_postroadref06_Of.o sh_postroadref06_Of.q
theorem cx_postroadref06_Of.ok : CxOk cx_postroadref06_Of := by
  refine CxOk.add cx_postroadref06_part.ok rfl (fun CV hcv xs K w hx h => ?_) (fun CV hcv xs K w hx h => ?_)
  · unfold sh_postroadref06_Of.o at h; split at h
    · rename_i n0 arcs0_a arcs0_l arcs0_c; exact sh_postroadref06_Of.calls CV n0 ⟨arcs0_a, arcs0_l, arcs0_c⟩ hcv h
    · exact h.elim
  · unfold sh_postroadref06_Of.q at h; split at h
    · rename_i n0 arcs0_a arcs0_l arcs0_c; obtain ⟨r, h1, h2⟩ := h; exact ⟨_, h2, fun w' e => sh_postroadref06_Of.calls CV n0 ⟨arcs0_a, arcs0_l, arcs0_c⟩ hcv (h1 w' e)⟩
    · exact h.elim
def sh_gr_Check.plan : Plan := (.seq .o (.seq (.seq .o (.cond (.seq .o .o) .o)) (.seq (.seq .o (.cond (.seq .o .o) .o)) (.seq (.seq .o (.block (.loop [.slot 20 (.int .i64)] [] (.seq .o (.seq (.cond .o .o) (.seq (.block (.seq .o (.seq .o (.cond (.seq .o .o) .o)))) .o)))))) (.seq .o .o)))))
theorem sh_gr_Check.is (CV : CVT) (m0_N : Int) (m0_Arcs : SV) (w : World) (R : Value → World → Prop) : sh_gr_Check m0_N m0_Arcs (fun r0 w' => R (.int .i64 r0) w') w = denF (cx_postroadref06_Of.with CV) Try.f44 sh_gr_Check.plan [.v (.agg #[(.int .i64 m0_N), (.slice m0_Arcs.a m0_Arcs.len m0_Arcs.cap)])] w R := by kernel_rfl
theorem sh_gr_Check.calls (CV : CVT) (m0_N : Int) (m0_Arcs : SV) (hcv : CVOk Try.prog CV) {w : World} {R : Ending → World → Prop} (h : sh_gr_Check m0_N m0_Arcs (fun r0 w' => R (.returned (.int .i64 r0)) w') w) : Calls Try.prog 44 #[(.agg #[(.int .i64 m0_N), (.slice m0_Arcs.a m0_Arcs.len m0_Arcs.cap)])] w R :=
  calls_is (cx := cx_postroadref06_Of.with CV) mixed_Try (cx_postroadref06_Of.ok.with CV) hcv Try.func44 sh_gr_Check.plan (xs := [.v (.agg #[(.int .i64 m0_N), (.slice m0_Arcs.a m0_Arcs.len m0_Arcs.cap)])]) ((args_cons _ args_nil)) (by kernel_rfl) (sh_gr_Check.is CV m0_N m0_Arcs w (fun v w' => R (.returned v) w')) h
def sh_gr_Check.o : CVT → List X → (Value → World → Prop) → World → Prop
  | CV, [.v (.agg ⟨[.int .i64 m0_N, .slice m0_Arcs_a m0_Arcs_l m0_Arcs_c]⟩)], K, w => sh_gr_Check m0_N ⟨m0_Arcs_a, m0_Arcs_l, m0_Arcs_c⟩ (fun r0 w' => K (.int .i64 r0) w') w
  | _, _, _, _ => False
def sh_gr_Check.q : CVT → List X → World → (Value → Prop) → Prop
  | CV, [.v (.agg ⟨[.int .i64 m0_N, .slice m0_Arcs_a m0_Arcs_l m0_Arcs_c]⟩)], w, K => Quiet (Int) (fun r => (.int .i64 r)) (fun K1 w' => sh_gr_Check m0_N ⟨m0_Arcs_a, m0_Arcs_l, m0_Arcs_c⟩ (fun r0 w'' => K1 r0 w'') w') w (fun r => K (.int .i64 r))
  | _, _, _, _ => False
noncomputable def cx_gr_Check : Cx := Cx.add Try.prog cx_postroadref06_Of 44 sh_gr_Check.o sh_gr_Check.q
theorem cx_gr_Check.ok : CxOk cx_gr_Check := by
  refine CxOk.add cx_postroadref06_Of.ok rfl (fun CV hcv xs K w hx h => ?_) (fun CV hcv xs K w hx h => ?_)
  · unfold sh_gr_Check.o at h; split at h
    · rename_i m0_N m0_Arcs_a m0_Arcs_l m0_Arcs_c; exact sh_gr_Check.calls CV m0_N ⟨m0_Arcs_a, m0_Arcs_l, m0_Arcs_c⟩ hcv h
    · exact h.elim
  · unfold sh_gr_Check.q at h; split at h
    · rename_i m0_N m0_Arcs_a m0_Arcs_l m0_Arcs_c; obtain ⟨r, h1, h2⟩ := h; exact ⟨_, h2, fun w' e => sh_gr_Check.calls CV m0_N ⟨m0_Arcs_a, m0_Arcs_l, m0_Arcs_c⟩ hcv (h1 w' e)⟩
    · exact h.elim
def sh_graph_New_c1.plan : Plan := (.seq .o (.seq .o .o))
theorem sh_graph_New_c1.is (CV : CVT) (k0 : Int) (free1 : Addr) (w : World) (R : Value → World → Prop) : sh_graph_New_c1 k0 free1 (fun r0 w' => R (.int .i64 r0) w') w = denF (cx_gr_Check.with CV) Try.f45 sh_graph_New_c1.plan [.v (.int .i64 k0), .v (.pointer (some free1))] w R := by kernel_rfl
theorem sh_graph_New_c1.calls (CV : CVT) (k0 : Int) (free1 : Addr) (hcv : CVOk Try.prog CV) {w : World} {R : Ending → World → Prop} (h : sh_graph_New_c1 k0 free1 (fun r0 w' => R (.returned (.int .i64 r0)) w') w) : Calls Try.prog 45 #[(.int .i64 k0), (.pointer (some free1))] w R :=
  calls_is (cx := cx_gr_Check.with CV) mixed_Try (cx_gr_Check.ok.with CV) hcv Try.func45 sh_graph_New_c1.plan (xs := [.v (.int .i64 k0), .v (.pointer (some free1))]) ((args_cons _ (args_cons _ args_nil))) (by kernel_rfl) (sh_graph_New_c1.is CV k0 free1 w (fun v w' => R (.returned v) w')) h
def sh_graph_New_c1.o : CVT → List X → (Value → World → Prop) → World → Prop
  | CV, [.v (.int .i64 k0), .v (.pointer (some free1))], K, w => sh_graph_New_c1 k0 free1 (fun r0 w' => K (.int .i64 r0) w') w
  | _, _, _, _ => False
def sh_graph_New_c1.q : CVT → List X → World → (Value → Prop) → Prop
  | CV, [.v (.int .i64 k0), .v (.pointer (some free1))], w, K => Quiet (Int) (fun r => (.int .i64 r)) (fun K1 w' => sh_graph_New_c1 k0 free1 (fun r0 w'' => K1 r0 w'') w') w (fun r => K (.int .i64 r))
  | _, _, _, _ => False
noncomputable def cx_graph_New_c1 : Cx := Cx.add Try.prog cx_gr_Check 45 sh_graph_New_c1.o sh_graph_New_c1.q
theorem cx_graph_New_c1.ok : CxOk cx_graph_New_c1 := by
  refine CxOk.add cx_gr_Check.ok rfl (fun CV hcv xs K w hx h => ?_) (fun CV hcv xs K w hx h => ?_)
  · unfold sh_graph_New_c1.o at h; split at h
    · rename_i k0 free1; exact sh_graph_New_c1.calls CV k0 free1 hcv h
    · exact h.elim
  · unfold sh_graph_New_c1.q at h; split at h
    · rename_i k0 free1; obtain ⟨r, h1, h2⟩ := h; exact ⟨_, h2, fun w' e => sh_graph_New_c1.calls CV k0 free1 hcv (h1 w' e)⟩
    · exact h.elim
def sh_graph_New_c2.plan : Plan := (.seq .o (.seq .o .o))
theorem sh_graph_New_c2.is (CV : CVT) (k0 : Int) (free1 : Addr) (w : World) (R : Value → World → Prop) : sh_graph_New_c2 k0 free1 (fun r0 w' => R (.int .i64 r0) w') w = denF (cx_graph_New_c1.with CV) Try.f46 sh_graph_New_c2.plan [.v (.int .i64 k0), .v (.pointer (some free1))] w R := by kernel_rfl
theorem sh_graph_New_c2.calls (CV : CVT) (k0 : Int) (free1 : Addr) (hcv : CVOk Try.prog CV) {w : World} {R : Ending → World → Prop} (h : sh_graph_New_c2 k0 free1 (fun r0 w' => R (.returned (.int .i64 r0)) w') w) : Calls Try.prog 46 #[(.int .i64 k0), (.pointer (some free1))] w R :=
  calls_is (cx := cx_graph_New_c1.with CV) mixed_Try (cx_graph_New_c1.ok.with CV) hcv Try.func46 sh_graph_New_c2.plan (xs := [.v (.int .i64 k0), .v (.pointer (some free1))]) ((args_cons _ (args_cons _ args_nil))) (by kernel_rfl) (sh_graph_New_c2.is CV k0 free1 w (fun v w' => R (.returned v) w')) h
def sh_graph_New_c2.o : CVT → List X → (Value → World → Prop) → World → Prop
  | CV, [.v (.int .i64 k0), .v (.pointer (some free1))], K, w => sh_graph_New_c2 k0 free1 (fun r0 w' => K (.int .i64 r0) w') w
  | _, _, _, _ => False
def sh_graph_New_c2.q : CVT → List X → World → (Value → Prop) → Prop
  | CV, [.v (.int .i64 k0), .v (.pointer (some free1))], w, K => Quiet (Int) (fun r => (.int .i64 r)) (fun K1 w' => sh_graph_New_c2 k0 free1 (fun r0 w'' => K1 r0 w'') w') w (fun r => K (.int .i64 r))
  | _, _, _, _ => False
noncomputable def cx_graph_New_c2 : Cx := Cx.add Try.prog cx_graph_New_c1 46 sh_graph_New_c2.o sh_graph_New_c2.q
theorem cx_graph_New_c2.ok : CxOk cx_graph_New_c2 := by
  refine CxOk.add cx_graph_New_c1.ok rfl (fun CV hcv xs K w hx h => ?_) (fun CV hcv xs K w hx h => ?_)
  · unfold sh_graph_New_c2.o at h; split at h
    · rename_i k0 free1; exact sh_graph_New_c2.calls CV k0 free1 hcv h
    · exact h.elim
  · unfold sh_graph_New_c2.q at h; split at h
    · rename_i k0 free1; obtain ⟨r, h1, h2⟩ := h; exact ⟨_, h2, fun w' e => sh_graph_New_c2.calls CV k0 free1 hcv (h1 w' e)⟩
    · exact h.elim
def sh_graph_numbers_Arc_c1.plan : Plan := (.seq .o (.block (.loop [.slot 8 (.int .i64)] [] (.seq .o (.seq (.cond .o .o) (.seq (.block (.seq .o (.seq .o (.cond .o .o)))) .o))))))
theorem sh_graph_numbers_Arc_c1.is (CV : CVT) (v0 : Value) (E0 : List Value → (Bool → World → Prop) → World → Prop) (free1 : Addr) (free2 : Addr) (w : World) (R : Value → World → Prop) : sh_graph_numbers_Arc_c1 CV (fun a0 Ky wy => E0 [(.int .i64 a0)] Ky wy) free1 free2 (fun w' => R (.tuple #[]) w') w = denF (cx_graph_New_c2.with CV) Try.f65 sh_graph_numbers_Arc_c1.plan [.yl v0 E0, .v (.pointer (some free1)), .v (.pointer (some free2))] w R := by kernel_rfl
theorem sh_graph_numbers_Arc_c1.calls (CV : CVT) (v0 : Value) (E0 : List Value → (Bool → World → Prop) → World → Prop) (free1 : Addr) (free2 : Addr) (hx : ∀ x ∈ [.yl v0 E0, .v (.pointer (some free1)), .v (.pointer (some free2))], ArgOk Try.prog x) (hcv : CVOk Try.prog CV) {w : World} {R : Ending → World → Prop} (h : sh_graph_numbers_Arc_c1 CV (fun a0 Ky wy => E0 [(.int .i64 a0)] Ky wy) free1 free2 (fun w' => R (.returned (.tuple #[])) w') w) : Calls Try.prog 65 #[v0, (.pointer (some free1)), (.pointer (some free2))] w R :=
  calls_is (cx := cx_graph_New_c2.with CV) mixed_Try (cx_graph_New_c2.ok.with CV) hcv Try.func65 sh_graph_numbers_Arc_c1.plan (xs := [.yl v0 E0, .v (.pointer (some free1)), .v (.pointer (some free2))]) hx (by kernel_rfl) (sh_graph_numbers_Arc_c1.is CV v0 E0 free1 free2 w (fun v w' => R (.returned v) w')) h
def sh_graph_numbers_Arc_c1.o : CVT → List X → (Value → World → Prop) → World → Prop
  | CV, [.yl v0 E0, .v (.pointer (some free1)), .v (.pointer (some free2))], K, w => sh_graph_numbers_Arc_c1 CV (fun a0 Ky wy => E0 [(.int .i64 a0)] Ky wy) free1 free2 (fun w' => K (.tuple #[]) w') w
  | _, _, _, _ => False
def sh_graph_numbers_Arc_c1.q : CVT → List X → World → (Value → Prop) → Prop := fun _ _ _ _ => False
noncomputable def cx_graph_numbers_Arc_c1 : Cx := Cx.add Try.prog cx_graph_New_c2 65 sh_graph_numbers_Arc_c1.o sh_graph_numbers_Arc_c1.q
theorem cx_graph_numbers_Arc_c1.ok : CxOk cx_graph_numbers_Arc_c1 := by
  refine CxOk.add cx_graph_New_c2.ok rfl (fun CV hcv xs K w hx h => ?_) (fun CV hcv xs K w hx h => ?_)
  · unfold sh_graph_numbers_Arc_c1.o at h; split at h
    · rename_i v0 E0 free1 free2; exact sh_graph_numbers_Arc_c1.calls CV v0 E0 free1 free2 hx hcv h
    · exact h.elim
  · unfold sh_graph_numbers_Arc_c1.q at h; exact h.elim
def sh_graph_numbers_Arc.plan : Plan := (.seq .o (.seq .o .o))
noncomputable def sh_graph_numbers_Arc.o (CV : CVT) (xs : List X) (K : Value → World → Prop) (w : World) : Prop := match Nat.ble xs.length Try.f47.ntmps with | true => denF (cx_graph_numbers_Arc_c1.with CV) Try.f47 sh_graph_numbers_Arc.plan xs w K | false => False
noncomputable def cx_graph_numbers_Arc : Cx := Cx.add Try.prog cx_graph_numbers_Arc_c1 47 sh_graph_numbers_Arc.o (fun _ _ _ _ => False)
theorem cx_graph_numbers_Arc.ok : CxOk cx_graph_numbers_Arc := by
  refine CxOk.add cx_graph_numbers_Arc_c1.ok rfl (fun CV hcv xs K w hx h => ?_) (fun CV hcv xs K w hx h => h.elim)
  unfold sh_graph_numbers_Arc.o at h; split at h
  · rename_i hb; exact calls_den (cx := cx_graph_numbers_Arc_c1.with CV) mixed_Try (cx_graph_numbers_Arc_c1.ok.with CV) hcv Try.func47 sh_graph_numbers_Arc.plan hx (Nat.le_of_ble_eq_true hb) h
  · exact h.elim
def sh_graph_New_c3.plan : Plan := (.seq .o (.seq .o .o))
theorem sh_graph_New_c3.is (CV : CVT) (arg0_0 : Int) (a0_From : Int) (a0_To : Int) (a0_W : Int) (w : World) (R : Value → World → Prop) : sh_graph_New_c3 arg0_0 a0_From a0_To a0_W (fun r0 w' => R (.bool r0) w') w = denF (cx_graph_numbers_Arc.with CV) Try.f48 sh_graph_New_c3.plan [.v (.int .i64 arg0_0), .v (.agg #[(.int .i64 a0_From), (.int .i64 a0_To), (.int .i64 a0_W)])] w R := by kernel_rfl
theorem sh_graph_New_c3.calls (CV : CVT) (arg0_0 : Int) (a0_From : Int) (a0_To : Int) (a0_W : Int) (hcv : CVOk Try.prog CV) {w : World} {R : Ending → World → Prop} (h : sh_graph_New_c3 arg0_0 a0_From a0_To a0_W (fun r0 w' => R (.returned (.bool r0)) w') w) : Calls Try.prog 48 #[(.int .i64 arg0_0), (.agg #[(.int .i64 a0_From), (.int .i64 a0_To), (.int .i64 a0_W)])] w R :=
  calls_is (cx := cx_graph_numbers_Arc.with CV) mixed_Try (cx_graph_numbers_Arc.ok.with CV) hcv Try.func48 sh_graph_New_c3.plan (xs := [.v (.int .i64 arg0_0), .v (.agg #[(.int .i64 a0_From), (.int .i64 a0_To), (.int .i64 a0_W)])]) ((args_cons _ (args_cons _ args_nil))) (by kernel_rfl) (sh_graph_New_c3.is CV arg0_0 a0_From a0_To a0_W w (fun v w' => R (.returned v) w')) h
def sh_graph_New_c3.o : CVT → List X → (Value → World → Prop) → World → Prop
  | CV, [.v (.int .i64 arg0_0), .v (.agg ⟨[.int .i64 a0_From, .int .i64 a0_To, .int .i64 a0_W]⟩)], K, w => sh_graph_New_c3 arg0_0 a0_From a0_To a0_W (fun r0 w' => K (.bool r0) w') w
  | _, _, _, _ => False
def sh_graph_New_c3.q : CVT → List X → World → (Value → Prop) → Prop
  | CV, [.v (.int .i64 arg0_0), .v (.agg ⟨[.int .i64 a0_From, .int .i64 a0_To, .int .i64 a0_W]⟩)], w, K => Quiet (Bool) (fun r => (.bool r)) (fun K1 w' => sh_graph_New_c3 arg0_0 a0_From a0_To a0_W (fun r0 w'' => K1 r0 w'') w') w (fun r => K (.bool r))
  | _, _, _, _ => False
noncomputable def cx_graph_New_c3 : Cx := Cx.add Try.prog cx_graph_numbers_Arc 48 sh_graph_New_c3.o sh_graph_New_c3.q
theorem cx_graph_New_c3.ok : CxOk cx_graph_New_c3 := by
  refine CxOk.add cx_graph_numbers_Arc.ok rfl (fun CV hcv xs K w hx h => ?_) (fun CV hcv xs K w hx h => ?_)
  · unfold sh_graph_New_c3.o at h; split at h
    · rename_i arg0_0 a0_From a0_To a0_W; exact sh_graph_New_c3.calls CV arg0_0 a0_From a0_To a0_W hcv h
    · exact h.elim
  · unfold sh_graph_New_c3.q at h; split at h
    · rename_i arg0_0 a0_From a0_To a0_W; obtain ⟨r, h1, h2⟩ := h; exact ⟨_, h2, fun w' e => sh_graph_New_c3.calls CV arg0_0 a0_From a0_To a0_W hcv (h1 w' e)⟩
    · exact h.elim
def sh_graph_sorted.plan : Plan := (.seq .o (.seq .o (.join [] [] (.seq .o (.block (.loop [.slot 19 (.int .i64)] [] (.seq .o (.seq (.cond .o .o) (.seq (.block (.seq .o .o)) .o)))))) (.join [] [] (.seq .o (.block (.loop [.slot 34 (.int .i64)] [] (.seq .o (.seq (.cond .o .o) (.seq (.block (.seq .o (.draw [] [.pure, .pure, .pure, .pure, .quiet, .pure, .pure, .pure, .quiet, .pure, .pure, .big] [0, 1, 2, 3, 4, 5, 6, 7, 8, 9, 10, 11]))) .o)))))) (.seq .o (.seq (.seq .o (.block (.loop [.slot 54 (.int .i64)] [] (.seq .o (.seq (.cond .o .o) (.seq (.block (.seq .o (.seq .o .o))) .o)))))) (.seq .o .o)))))))
theorem sh_graph_sorted.is (CV : CVT) (n0 : Int) (l0 : SV) (end_0 : Value) (w : World) (R : Value → World → Prop) : sh_graph_sorted CV n0 l0 end_0 (fun r0 w' => R (.slice r0.a r0.len r0.cap) w') w = denF (cx_graph_New_c3.with CV) Try.f49 sh_graph_sorted.plan [.v (.int .i64 n0), .v (.slice l0.a l0.len l0.cap), .v end_0] w R := by kernel_rfl
theorem sh_graph_sorted.calls (CV : CVT) (n0 : Int) (l0 : SV) (end_0 : Value) (hcv : CVOk Try.prog CV) {w : World} {R : Ending → World → Prop} (h : sh_graph_sorted CV n0 l0 end_0 (fun r0 w' => R (.returned (.slice r0.a r0.len r0.cap)) w') w) : Calls Try.prog 49 #[(.int .i64 n0), (.slice l0.a l0.len l0.cap), end_0] w R :=
  calls_is (cx := cx_graph_New_c3.with CV) mixed_Try (cx_graph_New_c3.ok.with CV) hcv Try.func49 sh_graph_sorted.plan (xs := [.v (.int .i64 n0), .v (.slice l0.a l0.len l0.cap), .v end_0]) ((args_cons _ (args_cons _ (args_cons _ args_nil)))) (by kernel_rfl) (sh_graph_sorted.is CV n0 l0 end_0 w (fun v w' => R (.returned v) w')) h
def sh_graph_sorted.o : CVT → List X → (Value → World → Prop) → World → Prop
  | CV, [.v (.int .i64 n0), .v (.slice l0_a l0_l l0_c), .v (end_0)], K, w => sh_graph_sorted CV n0 ⟨l0_a, l0_l, l0_c⟩ end_0 (fun r0 w' => K (.slice r0.a r0.len r0.cap) w') w
  | _, _, _, _ => False
def sh_graph_sorted.q : CVT → List X → World → (Value → Prop) → Prop
  | CV, [.v (.int .i64 n0), .v (.slice l0_a l0_l l0_c), .v (end_0)], w, K => Quiet (SV) (fun r => (.slice r.a r.len r.cap)) (fun K1 w' => sh_graph_sorted CV n0 ⟨l0_a, l0_l, l0_c⟩ end_0 (fun r0 w'' => K1 r0 w'') w') w (fun r => K (.slice r.a r.len r.cap))
  | _, _, _, _ => False
noncomputable def cx_graph_sorted : Cx := Cx.add Try.prog cx_graph_New_c3 49 sh_graph_sorted.o sh_graph_sorted.q
theorem cx_graph_sorted.ok : CxOk cx_graph_sorted := by
  refine CxOk.add cx_graph_New_c3.ok rfl (fun CV hcv xs K w hx h => ?_) (fun CV hcv xs K w hx h => ?_)
  · unfold sh_graph_sorted.o at h; split at h
    · rename_i n0 l0_a l0_l l0_c end_0; exact sh_graph_sorted.calls CV n0 ⟨l0_a, l0_l, l0_c⟩ end_0 hcv h
    · exact h.elim
  · unfold sh_graph_sorted.q at h; split at h
    · rename_i n0 l0_a l0_l l0_c end_0; obtain ⟨r, h1, h2⟩ := h; exact ⟨_, h2, fun w' e => sh_graph_sorted.calls CV n0 ⟨l0_a, l0_l, l0_c⟩ end_0 hcv (h1 w' e)⟩
    · exact h.elim
def sh_graph_better.plan : Plan := (.seq .o (.seq (.draw [] [.pure, .loc, .pure, .pure, .pure, .quiet, .pure, .loc, .pure, .pure, .pure, .quiet, .pure, .pure] [0, 1, 2, 3, 4, 5, 6, 7, 8, 9, 10, 11, 12, 13]) .o))
theorem sh_graph_better.is (CV : CVT) (m0_N : Int) (m0_Arcs : SV) (a0 : Int) (b0 : Int) (w : World) (R : Value → World → Prop) : sh_graph_better m0_N m0_Arcs a0 b0 (fun r0 w' => R (.bool r0) w') w = denF (cx_graph_sorted.with CV) Try.f50 sh_graph_better.plan [.v (.agg #[(.int .i64 m0_N), (.slice m0_Arcs.a m0_Arcs.len m0_Arcs.cap)]), .v (.int .i64 a0), .v (.int .i64 b0)] w R := by kernel_rfl
theorem sh_graph_better.calls (CV : CVT) (m0_N : Int) (m0_Arcs : SV) (a0 : Int) (b0 : Int) (hcv : CVOk Try.prog CV) {w : World} {R : Ending → World → Prop} (h : sh_graph_better m0_N m0_Arcs a0 b0 (fun r0 w' => R (.returned (.bool r0)) w') w) : Calls Try.prog 50 #[(.agg #[(.int .i64 m0_N), (.slice m0_Arcs.a m0_Arcs.len m0_Arcs.cap)]), (.int .i64 a0), (.int .i64 b0)] w R :=
  calls_is (cx := cx_graph_sorted.with CV) mixed_Try (cx_graph_sorted.ok.with CV) hcv Try.func50 sh_graph_better.plan (xs := [.v (.agg #[(.int .i64 m0_N), (.slice m0_Arcs.a m0_Arcs.len m0_Arcs.cap)]), .v (.int .i64 a0), .v (.int .i64 b0)]) ((args_cons _ (args_cons _ (args_cons _ args_nil)))) (by kernel_rfl) (sh_graph_better.is CV m0_N m0_Arcs a0 b0 w (fun v w' => R (.returned v) w')) h
def sh_graph_better.o : CVT → List X → (Value → World → Prop) → World → Prop
  | CV, [.v (.agg ⟨[.int .i64 m0_N, .slice m0_Arcs_a m0_Arcs_l m0_Arcs_c]⟩), .v (.int .i64 a0), .v (.int .i64 b0)], K, w => sh_graph_better m0_N ⟨m0_Arcs_a, m0_Arcs_l, m0_Arcs_c⟩ a0 b0 (fun r0 w' => K (.bool r0) w') w
  | _, _, _, _ => False
def sh_graph_better.q : CVT → List X → World → (Value → Prop) → Prop
  | CV, [.v (.agg ⟨[.int .i64 m0_N, .slice m0_Arcs_a m0_Arcs_l m0_Arcs_c]⟩), .v (.int .i64 a0), .v (.int .i64 b0)], w, K => Quiet (Bool) (fun r => (.bool r)) (fun K1 w' => sh_graph_better m0_N ⟨m0_Arcs_a, m0_Arcs_l, m0_Arcs_c⟩ a0 b0 (fun r0 w'' => K1 r0 w'') w') w (fun r => K (.bool r))
  | _, _, _, _ => False
noncomputable def cx_graph_better : Cx := Cx.add Try.prog cx_graph_sorted 50 sh_graph_better.o sh_graph_better.q
theorem cx_graph_better.ok : CxOk cx_graph_better := by
  refine CxOk.add cx_graph_sorted.ok rfl (fun CV hcv xs K w hx h => ?_) (fun CV hcv xs K w hx h => ?_)
  · unfold sh_graph_better.o at h; split at h
    · rename_i m0_N m0_Arcs_a m0_Arcs_l m0_Arcs_c a0 b0; exact sh_graph_better.calls CV m0_N ⟨m0_Arcs_a, m0_Arcs_l, m0_Arcs_c⟩ a0 b0 hcv h
    · exact h.elim
  · unfold sh_graph_better.q at h; split at h
    · rename_i m0_N m0_Arcs_a m0_Arcs_l m0_Arcs_c a0 b0; obtain ⟨r, h1, h2⟩ := h; exact ⟨_, h2, fun w' e => sh_graph_better.calls CV m0_N ⟨m0_Arcs_a, m0_Arcs_l, m0_Arcs_c⟩ a0 b0 hcv (h1 w' e)⟩
    · exact h.elim
def sh_graph_numbers_bool_c1.plan : Plan := (.seq .o (.block (.loop [.slot 8 (.int .i64)] [] (.seq .o (.seq (.cond .o .o) (.seq (.block (.seq .o (.seq .o (.cond .o .o)))) .o))))))
theorem sh_graph_numbers_bool_c1.is (CV : CVT) (v0 : Value) (E0 : List Value → (Bool → World → Prop) → World → Prop) (free1 : Addr) (free2 : Addr) (w : World) (R : Value → World → Prop) : sh_graph_numbers_bool_c1 CV (fun a0 Ky wy => E0 [(.int .i64 a0)] Ky wy) free1 free2 (fun w' => R (.tuple #[]) w') w = denF (cx_graph_better.with CV) Try.f66 sh_graph_numbers_bool_c1.plan [.yl v0 E0, .v (.pointer (some free1)), .v (.pointer (some free2))] w R := by kernel_rfl
theorem sh_graph_numbers_bool_c1.calls (CV : CVT) (v0 : Value) (E0 : List Value → (Bool → World → Prop) → World → Prop) (free1 : Addr) (free2 : Addr) (hx : ∀ x ∈ [.yl v0 E0, .v (.pointer (some free1)), .v (.pointer (some free2))], ArgOk Try.prog x) (hcv : CVOk Try.prog CV) {w : World} {R : Ending → World → Prop} (h : sh_graph_numbers_bool_c1 CV (fun a0 Ky wy => E0 [(.int .i64 a0)] Ky wy) free1 free2 (fun w' => R (.returned (.tuple #[])) w') w) : Calls Try.prog 66 #[v0, (.pointer (some free1)), (.pointer (some free2))] w R :=
  calls_is (cx := cx_graph_better.with CV) mixed_Try (cx_graph_better.ok.with CV) hcv Try.func66 sh_graph_numbers_bool_c1.plan (xs := [.yl v0 E0, .v (.pointer (some free1)), .v (.pointer (some free2))]) hx (by kernel_rfl) (sh_graph_numbers_bool_c1.is CV v0 E0 free1 free2 w (fun v w' => R (.returned v) w')) h
def sh_graph_numbers_bool_c1.o : CVT → List X → (Value → World → Prop) → World → Prop
  | CV, [.yl v0 E0, .v (.pointer (some free1)), .v (.pointer (some free2))], K, w => sh_graph_numbers_bool_c1 CV (fun a0 Ky wy => E0 [(.int .i64 a0)] Ky wy) free1 free2 (fun w' => K (.tuple #[]) w') w
  | _, _, _, _ => False
def sh_graph_numbers_bool_c1.q : CVT → List X → World → (Value → Prop) → Prop := fun _ _ _ _ => False
noncomputable def cx_graph_numbers_bool_c1 : Cx := Cx.add Try.prog cx_graph_better 66 sh_graph_numbers_bool_c1.o sh_graph_numbers_bool_c1.q
theorem cx_graph_numbers_bool_c1.ok : CxOk cx_graph_numbers_bool_c1 := by
  refine CxOk.add cx_graph_better.ok rfl (fun CV hcv xs K w hx h => ?_) (fun CV hcv xs K w hx h => ?_)
  · unfold sh_graph_numbers_bool_c1.o at h; split at h
    · rename_i v0 E0 free1 free2; exact sh_graph_numbers_bool_c1.calls CV v0 E0 free1 free2 hx hcv h
    · exact h.elim
  · unfold sh_graph_numbers_bool_c1.q at h; exact h.elim
def sh_graph_numbers_bool.plan : Plan := (.seq .o (.seq .o .o))
noncomputable def sh_graph_numbers_bool.o (CV : CVT) (xs : List X) (K : Value → World → Prop) (w : World) : Prop := match Nat.ble xs.length Try.f54.ntmps with | true => denF (cx_graph_numbers_bool_c1.with CV) Try.f54 sh_graph_numbers_bool.plan xs w K | false => False
noncomputable def cx_graph_numbers_bool : Cx := Cx.add Try.prog cx_graph_numbers_bool_c1 54 sh_graph_numbers_bool.o (fun _ _ _ _ => False)
theorem cx_graph_numbers_bool.ok : CxOk cx_graph_numbers_bool := by
  refine CxOk.add cx_graph_numbers_bool_c1.ok rfl (fun CV hcv xs K w hx h => ?_) (fun CV hcv xs K w hx h => h.elim)
  unfold sh_graph_numbers_bool.o at h; split at h
  · rename_i hb; exact calls_den (cx := cx_graph_numbers_bool_c1.with CV) mixed_Try (cx_graph_numbers_bool_c1.ok.with CV) hcv Try.func54 sh_graph_numbers_bool.plan hx (Nat.le_of_ble_eq_true hb) h
  · exact h.elim
def sh_graph_Graph_Kept_c1.plan : Plan := (.seq .o (.seq .o .o))
theorem sh_graph_Graph_Kept_c1.is (CV : CVT) (arg0_0 : Int) (is0 : Bool) (w : World) (R : Value → World → Prop) : sh_graph_Graph_Kept_c1 arg0_0 is0 (fun r0 w' => R (.bool r0) w') w = denF (cx_graph_numbers_bool.with CV) Try.f55 sh_graph_Graph_Kept_c1.plan [.v (.int .i64 arg0_0), .v (.bool is0)] w R := by kernel_rfl
theorem sh_graph_Graph_Kept_c1.calls (CV : CVT) (arg0_0 : Int) (is0 : Bool) (hcv : CVOk Try.prog CV) {w : World} {R : Ending → World → Prop} (h : sh_graph_Graph_Kept_c1 arg0_0 is0 (fun r0 w' => R (.returned (.bool r0)) w') w) : Calls Try.prog 55 #[(.int .i64 arg0_0), (.bool is0)] w R :=
  calls_is (cx := cx_graph_numbers_bool.with CV) mixed_Try (cx_graph_numbers_bool.ok.with CV) hcv Try.func55 sh_graph_Graph_Kept_c1.plan (xs := [.v (.int .i64 arg0_0), .v (.bool is0)]) ((args_cons _ (args_cons _ args_nil))) (by kernel_rfl) (sh_graph_Graph_Kept_c1.is CV arg0_0 is0 w (fun v w' => R (.returned v) w')) h
def sh_graph_Graph_Kept_c1.o : CVT → List X → (Value → World → Prop) → World → Prop
  | CV, [.v (.int .i64 arg0_0), .v (.bool is0)], K, w => sh_graph_Graph_Kept_c1 arg0_0 is0 (fun r0 w' => K (.bool r0) w') w
  | _, _, _, _ => False
def sh_graph_Graph_Kept_c1.q : CVT → List X → World → (Value → Prop) → Prop
  | CV, [.v (.int .i64 arg0_0), .v (.bool is0)], w, K => Quiet (Bool) (fun r => (.bool r)) (fun K1 w' => sh_graph_Graph_Kept_c1 arg0_0 is0 (fun r0 w'' => K1 r0 w'') w') w (fun r => K (.bool r))
  | _, _, _, _ => False
noncomputable def cx_graph_Graph_Kept_c1 : Cx := Cx.add Try.prog cx_graph_numbers_bool 55 sh_graph_Graph_Kept_c1.o sh_graph_Graph_Kept_c1.q
theorem cx_graph_Graph_Kept_c1.ok : CxOk cx_graph_Graph_Kept_c1 := by
  refine CxOk.add cx_graph_numbers_bool.ok rfl (fun CV hcv xs K w hx h => ?_) (fun CV hcv xs K w hx h => ?_)
  · unfold sh_graph_Graph_Kept_c1.o at h; split at h
    · rename_i arg0_0 is0; exact sh_graph_Graph_Kept_c1.calls CV arg0_0 is0 hcv h
    · exact h.elim
  · unfold sh_graph_Graph_Kept_c1.q at h; split at h
    · rename_i arg0_0 is0; obtain ⟨r, h1, h2⟩ := h; exact ⟨_, h2, fun w' e => sh_graph_Graph_Kept_c1.calls CV arg0_0 is0 hcv (h1 w' e)⟩
    · exact h.elim
def sh_graph_Graph_Kept.plan : Plan := (.seq .o (.seq .o (.seq (.seq .o (.cond (.seq .o .o) .o)) (.seq (.seq .o (.block (.rng [3] [] .o (.block .o)))) (.seq .o .o)))))
theorem sh_graph_Graph_Kept.is (CV : CVT) (g0 : Option Addr) (w : World) (R : Value → World → Prop) : sh_graph_Graph_Kept CV g0 (fun r0 w' => R (.slice r0.a r0.len r0.cap) w') w = denF (cx_graph_Graph_Kept_c1.with CV) Try.f22 sh_graph_Graph_Kept.plan [.v (.pointer g0)] w R := by kernel_rfl
theorem sh_graph_Graph_Kept.calls (CV : CVT) (g0 : Option Addr) (hcv : CVOk Try.prog CV) {w : World} {R : Ending → World → Prop} (h : sh_graph_Graph_Kept CV g0 (fun r0 w' => R (.returned (.slice r0.a r0.len r0.cap)) w') w) : Calls Try.prog 22 #[(.pointer g0)] w R :=
  calls_is (cx := cx_graph_Graph_Kept_c1.with CV) mixed_Try (cx_graph_Graph_Kept_c1.ok.with CV) hcv Try.func22 sh_graph_Graph_Kept.plan (xs := [.v (.pointer g0)]) ((args_cons _ args_nil)) (by kernel_rfl) (sh_graph_Graph_Kept.is CV g0 w (fun v w' => R (.returned v) w')) h
def sh_graph_Graph_Kept.o : CVT → List X → (Value → World → Prop) → World → Prop
  | CV, [.v (.pointer g0)], K, w => sh_graph_Graph_Kept CV g0 (fun r0 w' => K (.slice r0.a r0.len r0.cap) w') w
  | _, _, _, _ => False
def sh_graph_Graph_Kept.q : CVT → List X → World → (Value → Prop) → Prop
  | CV, [.v (.pointer g0)], w, K => Quiet (SV) (fun r => (.slice r.a r.len r.cap)) (fun K1 w' => sh_graph_Graph_Kept CV g0 (fun r0 w'' => K1 r0 w'') w') w (fun r => K (.slice r.a r.len r.cap))
  | _, _, _, _ => False
noncomputable def cx_graph_Graph_Kept : Cx := Cx.add Try.prog cx_graph_Graph_Kept_c1 22 sh_graph_Graph_Kept.o sh_graph_Graph_Kept.q
theorem cx_graph_Graph_Kept.ok : CxOk cx_graph_Graph_Kept := by
  refine CxOk.add cx_graph_Graph_Kept_c1.ok rfl (fun CV hcv xs K w hx h => ?_) (fun CV hcv xs K w hx h => ?_)
  · unfold sh_graph_Graph_Kept.o at h; split at h
    · rename_i g0; exact sh_graph_Graph_Kept.calls CV g0 hcv h
    · exact h.elim
  · unfold sh_graph_Graph_Kept.q at h; split at h
    · rename_i g0; obtain ⟨r, h1, h2⟩ := h; exact ⟨_, h2, fun w' e => sh_graph_Graph_Kept.calls CV g0 hcv (h1 w' e)⟩
    · exact h.elim
def sh_graph_lay.plan : Plan := (.seq .o (.seq .o (.join [.box 9 [.slice, .slice]] [] (.seq (.draw [] [.pure, .rd, .pure, .loc, .pure, .pure, .big, .pure, .big, .pure, .pure] [0, 1, 2, 3, 4, 5, 7, 10, 6, 8, 9]) (.block (.loop [.slot 28 (.int .i64), .box 9 [.slice, .slice]] [] (.seq .o (.seq (.cond .o .o) (.seq (.block (.seq .o (.seq (.draw [] [.pure, .rd, .pure, .pure, .big, .pure, .rd, .pure, .pure, .pure, .rd, .pure, .pure, .new, .big, .pure, .big] [0, 1, 2, 3, 5, 6, 7, 8, 9, 10, 11, 4, 12, 13, 14, 15, 16]) (.draw [] [.pure, .rd, .pure, .pure, .big, .pure, .pure, .quiet, .pure, .pure, .big] [0, 1, 2, 3, 4, 5, 6, 7, 8, 9, 10])))) .o)))))) (.join [] [] (.seq .o (.block (.loop [.slot 61 (.int .i64)] [] (.seq .o (.seq (.cond .o .o) (.seq (.block (.seq .o (.draw [] [.pure, .loc, .pure, .pure, .pure, .quiet, .pure, .loc, .pure, .pure, .quiet, .pure, .pure, .big] [0, 1, 2, 3, 4, 5, 6, 7, 8, 9, 10, 11, 12, 13]))) .o)))))) (.seq .o .o)))))
theorem sh_graph_lay.is (CV : CVT) (m0_N : Int) (m0_Arcs : SV) (l0 : SV) (from_0 : Value) (to_0 : Value) (w : World) (R : Value → World → Prop) : sh_graph_lay CV m0_N m0_Arcs l0 from_0 to_0 (fun r0 r1 w' => R (.agg #[(.slice r0.a r0.len r0.cap), (.slice r1.a r1.len r1.cap)]) w') w = denF (cx_graph_Graph_Kept.with CV) Try.f51 sh_graph_lay.plan [.v (.agg #[(.int .i64 m0_N), (.slice m0_Arcs.a m0_Arcs.len m0_Arcs.cap)]), .v (.slice l0.a l0.len l0.cap), .v from_0, .v to_0] w R := by kernel_rfl
theorem sh_graph_lay.calls (CV : CVT) (m0_N : Int) (m0_Arcs : SV) (l0 : SV) (from_0 : Value) (to_0 : Value) (hcv : CVOk Try.prog CV) {w : World} {R : Ending → World → Prop} (h : sh_graph_lay CV m0_N m0_Arcs l0 from_0 to_0 (fun r0 r1 w' => R (.returned (.agg #[(.slice r0.a r0.len r0.cap), (.slice r1.a r1.len r1.cap)])) w') w) : Calls Try.prog 51 #[(.agg #[(.int .i64 m0_N), (.slice m0_Arcs.a m0_Arcs.len m0_Arcs.cap)]), (.slice l0.a l0.len l0.cap), from_0, to_0] w R :=
  calls_is (cx := cx_graph_Graph_Kept.with CV) mixed_Try (cx_graph_Graph_Kept.ok.with CV) hcv Try.func51 sh_graph_lay.plan (xs := [.v (.agg #[(.int .i64 m0_N), (.slice m0_Arcs.a m0_Arcs.len m0_Arcs.cap)]), .v (.slice l0.a l0.len l0.cap), .v from_0, .v to_0]) ((args_cons _ (args_cons _ (args_cons _ (args_cons _ args_nil))))) (by kernel_rfl) (sh_graph_lay.is CV m0_N m0_Arcs l0 from_0 to_0 w (fun v w' => R (.returned v) w')) h
def sh_graph_lay.o : CVT → List X → (Value → World → Prop) → World → Prop
  | CV, [.v (.agg ⟨[.int .i64 m0_N, .slice m0_Arcs_a m0_Arcs_l m0_Arcs_c]⟩), .v (.slice l0_a l0_l l0_c), .v (from_0), .v (to_0)], K, w => sh_graph_lay CV m0_N ⟨m0_Arcs_a, m0_Arcs_l, m0_Arcs_c⟩ ⟨l0_a, l0_l, l0_c⟩ from_0 to_0 (fun r0 r1 w' => K (.agg #[(.slice r0.a r0.len r0.cap), (.slice r1.a r1.len r1.cap)]) w') w
  | _, _, _, _ => False
def sh_graph_lay.q : CVT → List X → World → (Value → Prop) → Prop
  | CV, [.v (.agg ⟨[.int .i64 m0_N, .slice m0_Arcs_a m0_Arcs_l m0_Arcs_c]⟩), .v (.slice l0_a l0_l l0_c), .v (from_0), .v (to_0)], w, K => Quiet (SV × SV) (fun r => (.agg #[(.slice r.1.a r.1.len r.1.cap), (.slice r.2.a r.2.len r.2.cap)])) (fun K1 w' => sh_graph_lay CV m0_N ⟨m0_Arcs_a, m0_Arcs_l, m0_Arcs_c⟩ ⟨l0_a, l0_l, l0_c⟩ from_0 to_0 (fun r0 r1 w'' => K1 (r0, r1) w'') w') w (fun r => K (.agg #[(.slice r.1.a r.1.len r.1.cap), (.slice r.2.a r.2.len r.2.cap)]))
  | _, _, _, _ => False
noncomputable def cx_graph_lay : Cx := Cx.add Try.prog cx_graph_Graph_Kept 51 sh_graph_lay.o sh_graph_lay.q
theorem cx_graph_lay.ok : CxOk cx_graph_lay := by
  refine CxOk.add cx_graph_Graph_Kept.ok rfl (fun CV hcv xs K w hx h => ?_) (fun CV hcv xs K w hx h => ?_)
  · unfold sh_graph_lay.o at h; split at h
    · rename_i m0_N m0_Arcs_a m0_Arcs_l m0_Arcs_c l0_a l0_l l0_c from_0 to_0; exact sh_graph_lay.calls CV m0_N ⟨m0_Arcs_a, m0_Arcs_l, m0_Arcs_c⟩ ⟨l0_a, l0_l, l0_c⟩ from_0 to_0 hcv h
    · exact h.elim
  · unfold sh_graph_lay.q at h; split at h
    · rename_i m0_N m0_Arcs_a m0_Arcs_l m0_Arcs_c l0_a l0_l l0_c from_0 to_0; obtain ⟨r, h1, h2⟩ := h; exact ⟨_, h2, fun w' e => sh_graph_lay.calls CV m0_N ⟨m0_Arcs_a, m0_Arcs_l, m0_Arcs_c⟩ ⟨l0_a, l0_l, l0_c⟩ from_0 to_0 hcv (h1 w' e)⟩
    · exact h.elim
def sh_graph_New.plan : Plan := (.seq .o (.scope (.seq (.seq .o (.cond (.seq .o .o) .o)) (.seq .o (.seq (.draw [] [.loc, .pure, .loc, .pure, .new, .pure, .new, .pure] [0, 1, 2, 3, 4, 5, 6, 7]) (.seq .o (.seq .o (.seq .o (.seq (.seq .o (.block (.rng [25, 6] [] .o (.block .o)))) (.seq .o (.seq .o (.join [] [] (.seq (.draw [] [.pure, .rd, .pure, .quiet, .quiet, .pure, .big, .pure, .big, .pure, .pure] [0, 1, 2, 3, 4, 5, 7, 10, 6, 8, 9]) (.block (.loop [.slot 8 (.int .i64), .slot 46 (.int .i64)] [] (.seq .o (.seq (.cond .o .o) (.seq (.block (.seq .o (.join [] [] (.seq .o (.cond (.seq (.seq .o (.cond .o .o)) .o) .o)) .o))) .o)))))) (.seq .o (.seq (.draw [] [.pure, .pure, .quiet, .pure, .pure, .pure, .big, .rd, .pure, .pure, .pure, .big, .pure, .pure, .big, .pure, .pure, .big] [0, 1, 2, 3, 4, 5, 7, 8, 9, 10, 6, 11, 12, 13, 14, 15, 16, 17]) (.seq .o .o)))))))))))))))
theorem sh_graph_New.is (CV : CVT) (m0_N : Int) (m0_Arcs : SV) (w : World) (R : Value → World → Prop) : sh_graph_New CV m0_N m0_Arcs (fun r0 w' => R (.pointer r0) w') w = denF (cx_graph_lay.with CV) Try.f16 sh_graph_New.plan [.v (.agg #[(.int .i64 m0_N), (.slice m0_Arcs.a m0_Arcs.len m0_Arcs.cap)])] w R := by kernel_rfl
theorem sh_graph_New.calls (CV : CVT) (m0_N : Int) (m0_Arcs : SV) (hcv : CVOk Try.prog CV) {w : World} {R : Ending → World → Prop} (h : sh_graph_New CV m0_N m0_Arcs (fun r0 w' => R (.returned (.pointer r0)) w') w) : Calls Try.prog 16 #[(.agg #[(.int .i64 m0_N), (.slice m0_Arcs.a m0_Arcs.len m0_Arcs.cap)])] w R :=
  calls_is (cx := cx_graph_lay.with CV) mixed_Try (cx_graph_lay.ok.with CV) hcv Try.func16 sh_graph_New.plan (xs := [.v (.agg #[(.int .i64 m0_N), (.slice m0_Arcs.a m0_Arcs.len m0_Arcs.cap)])]) ((args_cons _ args_nil)) (by kernel_rfl) (sh_graph_New.is CV m0_N m0_Arcs w (fun v w' => R (.returned v) w')) h
def sh_graph_New.o : CVT → List X → (Value → World → Prop) → World → Prop
  | CV, [.v (.agg ⟨[.int .i64 m0_N, .slice m0_Arcs_a m0_Arcs_l m0_Arcs_c]⟩)], K, w => sh_graph_New CV m0_N ⟨m0_Arcs_a, m0_Arcs_l, m0_Arcs_c⟩ (fun r0 w' => K (.pointer r0) w') w
  | _, _, _, _ => False
def sh_graph_New.q : CVT → List X → World → (Value → Prop) → Prop
  | CV, [.v (.agg ⟨[.int .i64 m0_N, .slice m0_Arcs_a m0_Arcs_l m0_Arcs_c]⟩)], w, K => Quiet ((Option Addr)) (fun r => (.pointer r)) (fun K1 w' => sh_graph_New CV m0_N ⟨m0_Arcs_a, m0_Arcs_l, m0_Arcs_c⟩ (fun r0 w'' => K1 r0 w'') w') w (fun r => K (.pointer r))
  | _, _, _, _ => False
noncomputable def cx_graph_New : Cx := Cx.add Try.prog cx_graph_lay 16 sh_graph_New.o sh_graph_New.q
theorem cx_graph_New.ok : CxOk cx_graph_New := by
  refine CxOk.add cx_graph_lay.ok rfl (fun CV hcv xs K w hx h => ?_) (fun CV hcv xs K w hx h => ?_)
  · unfold sh_graph_New.o at h; split at h
    · rename_i m0_N m0_Arcs_a m0_Arcs_l m0_Arcs_c; exact sh_graph_New.calls CV m0_N ⟨m0_Arcs_a, m0_Arcs_l, m0_Arcs_c⟩ hcv h
    · exact h.elim
  · unfold sh_graph_New.q at h; split at h
    · rename_i m0_N m0_Arcs_a m0_Arcs_l m0_Arcs_c; obtain ⟨r, h1, h2⟩ := h; exact ⟨_, h2, fun w' e => sh_graph_New.calls CV m0_N ⟨m0_Arcs_a, m0_Arcs_l, m0_Arcs_c⟩ hcv (h1 w' e)⟩
    · exact h.elim
def sh_graph_Graph_N.plan : Plan := (.seq .o (.seq (.seq .o (.cond (.seq .o .o) .o)) (.seq .o .o)))
theorem sh_graph_Graph_N.is (CV : CVT) (g0 : Option Addr) (w : World) (R : Value → World → Prop) : sh_graph_Graph_N g0 (fun r0 w' => R (.int .i64 r0) w') w = denF (cx_graph_New.with CV) Try.f20 sh_graph_Graph_N.plan [.v (.pointer g0)] w R := by kernel_rfl
theorem sh_graph_Graph_N.calls (CV : CVT) (g0 : Option Addr) (hcv : CVOk Try.prog CV) {w : World} {R : Ending → World → Prop} (h : sh_graph_Graph_N g0 (fun r0 w' => R (.returned (.int .i64 r0)) w') w) : Calls Try.prog 20 #[(.pointer g0)] w R :=
  calls_is (cx := cx_graph_New.with CV) mixed_Try (cx_graph_New.ok.with CV) hcv Try.func20 sh_graph_Graph_N.plan (xs := [.v (.pointer g0)]) ((args_cons _ args_nil)) (by kernel_rfl) (sh_graph_Graph_N.is CV g0 w (fun v w' => R (.returned v) w')) h
def sh_graph_Graph_N.o : CVT → List X → (Value → World → Prop) → World → Prop
  | CV, [.v (.pointer g0)], K, w => sh_graph_Graph_N g0 (fun r0 w' => K (.int .i64 r0) w') w
  | _, _, _, _ => False
def sh_graph_Graph_N.q : CVT → List X → World → (Value → Prop) → Prop
  | CV, [.v (.pointer g0)], w, K => Quiet (Int) (fun r => (.int .i64 r)) (fun K1 w' => sh_graph_Graph_N g0 (fun r0 w'' => K1 r0 w'') w') w (fun r => K (.int .i64 r))
  | _, _, _, _ => False
noncomputable def cx_graph_Graph_N : Cx := Cx.add Try.prog cx_graph_New 20 sh_graph_Graph_N.o sh_graph_Graph_N.q
theorem cx_graph_Graph_N.ok : CxOk cx_graph_Graph_N := by
  refine CxOk.add cx_graph_New.ok rfl (fun CV hcv xs K w hx h => ?_) (fun CV hcv xs K w hx h => ?_)
  · unfold sh_graph_Graph_N.o at h; split at h
    · rename_i g0; exact sh_graph_Graph_N.calls CV g0 hcv h
    · exact h.elim
  · unfold sh_graph_Graph_N.q at h; split at h
    · rename_i g0; obtain ⟨r, h1, h2⟩ := h; exact ⟨_, h2, fun w' e => sh_graph_Graph_N.calls CV g0 hcv (h1 w' e)⟩
    · exact h.elim
def sh_graph_Graph_is.plan : Plan := (.seq .o (.seq .o .o))
theorem sh_graph_Graph_is.is (CV : CVT) (g0 : Option Addr) (v0 : Int) (w : World) (R : Value → World → Prop) : sh_graph_Graph_is g0 v0 (fun r0 w' => R (.bool r0) w') w = denF (cx_graph_Graph_N.with CV) Try.f52 sh_graph_Graph_is.plan [.v (.pointer g0), .v (.int .i64 v0)] w R := by kernel_rfl
theorem sh_graph_Graph_is.calls (CV : CVT) (g0 : Option Addr) (v0 : Int) (hcv : CVOk Try.prog CV) {w : World} {R : Ending → World → Prop} (h : sh_graph_Graph_is g0 v0 (fun r0 w' => R (.returned (.bool r0)) w') w) : Calls Try.prog 52 #[(.pointer g0), (.int .i64 v0)] w R :=
  calls_is (cx := cx_graph_Graph_N.with CV) mixed_Try (cx_graph_Graph_N.ok.with CV) hcv Try.func52 sh_graph_Graph_is.plan (xs := [.v (.pointer g0), .v (.int .i64 v0)]) ((args_cons _ (args_cons _ args_nil))) (by kernel_rfl) (sh_graph_Graph_is.is CV g0 v0 w (fun v w' => R (.returned v) w')) h
def sh_graph_Graph_is.o : CVT → List X → (Value → World → Prop) → World → Prop
  | CV, [.v (.pointer g0), .v (.int .i64 v0)], K, w => sh_graph_Graph_is g0 v0 (fun r0 w' => K (.bool r0) w') w
  | _, _, _, _ => False
def sh_graph_Graph_is.q : CVT → List X → World → (Value → Prop) → Prop
  | CV, [.v (.pointer g0), .v (.int .i64 v0)], w, K => Quiet (Bool) (fun r => (.bool r)) (fun K1 w' => sh_graph_Graph_is g0 v0 (fun r0 w'' => K1 r0 w'') w') w (fun r => K (.bool r))
  | _, _, _, _ => False
noncomputable def cx_graph_Graph_is : Cx := Cx.add Try.prog cx_graph_Graph_N 52 sh_graph_Graph_is.o sh_graph_Graph_is.q
theorem cx_graph_Graph_is.ok : CxOk cx_graph_Graph_is := by
  refine CxOk.add cx_graph_Graph_N.ok rfl (fun CV hcv xs K w hx h => ?_) (fun CV hcv xs K w hx h => ?_)
  · unfold sh_graph_Graph_is.o at h; split at h
    · rename_i g0 v0; exact sh_graph_Graph_is.calls CV g0 v0 hcv h
    · exact h.elim
  · unfold sh_graph_Graph_is.q at h; split at h
    · rename_i g0 v0; obtain ⟨r, h1, h2⟩ := h; exact ⟨_, h2, fun w' e => sh_graph_Graph_is.calls CV g0 v0 hcv (h1 w' e)⟩
    · exact h.elim
def sh_graph_side_all.plan : Plan := (.seq .o (.seq (.draw [] [.pure, .pure, .pure, .quiet, .pure, .pure, .pure, .quiet, .pure, .pure, .quiet, .pure, .pure, .pure, .quiet, .pure, .pure, .pure, .quiet, .pure, .big, .pure] [0, 1, 2, 3, 4, 5, 6, 7, 8, 9, 10, 11, 12, 13, 14, 15, 16, 17, 18, 19, 20, 21]) .o))
theorem sh_graph_side_all.is (CV : CVT) (s0 : Option Addr) (v0 : Int) (w : World) (R : Value → World → Prop) : sh_graph_side_all s0 v0 (fun r0 w' => R (.slice r0.a r0.len r0.cap) w') w = denF (cx_graph_Graph_is.with CV) Try.f53 sh_graph_side_all.plan [.v (.pointer s0), .v (.int .i64 v0)] w R := by kernel_rfl
theorem sh_graph_side_all.calls (CV : CVT) (s0 : Option Addr) (v0 : Int) (hcv : CVOk Try.prog CV) {w : World} {R : Ending → World → Prop} (h : sh_graph_side_all s0 v0 (fun r0 w' => R (.returned (.slice r0.a r0.len r0.cap)) w') w) : Calls Try.prog 53 #[(.pointer s0), (.int .i64 v0)] w R :=
  calls_is (cx := cx_graph_Graph_is.with CV) mixed_Try (cx_graph_Graph_is.ok.with CV) hcv Try.func53 sh_graph_side_all.plan (xs := [.v (.pointer s0), .v (.int .i64 v0)]) ((args_cons _ (args_cons _ args_nil))) (by kernel_rfl) (sh_graph_side_all.is CV s0 v0 w (fun v w' => R (.returned v) w')) h
def sh_graph_side_all.o : CVT → List X → (Value → World → Prop) → World → Prop
  | CV, [.v (.pointer s0), .v (.int .i64 v0)], K, w => sh_graph_side_all s0 v0 (fun r0 w' => K (.slice r0.a r0.len r0.cap) w') w
  | _, _, _, _ => False
def sh_graph_side_all.q : CVT → List X → World → (Value → Prop) → Prop
  | CV, [.v (.pointer s0), .v (.int .i64 v0)], w, K => Quiet (SV) (fun r => (.slice r.a r.len r.cap)) (fun K1 w' => sh_graph_side_all s0 v0 (fun r0 w'' => K1 r0 w'') w') w (fun r => K (.slice r.a r.len r.cap))
  | _, _, _, _ => False
noncomputable def cx_graph_side_all : Cx := Cx.add Try.prog cx_graph_Graph_is 53 sh_graph_side_all.o sh_graph_side_all.q
theorem cx_graph_side_all.ok : CxOk cx_graph_side_all := by
  refine CxOk.add cx_graph_Graph_is.ok rfl (fun CV hcv xs K w hx h => ?_) (fun CV hcv xs K w hx h => ?_)
  · unfold sh_graph_side_all.o at h; split at h
    · rename_i s0 v0; exact sh_graph_side_all.calls CV s0 v0 hcv h
    · exact h.elim
  · unfold sh_graph_side_all.q at h; split at h
    · rename_i s0 v0; obtain ⟨r, h1, h2⟩ := h; exact ⟨_, h2, fun w' e => sh_graph_side_all.calls CV s0 v0 hcv (h1 w' e)⟩
    · exact h.elim
def sh_graph_Graph_Out.plan : Plan := (.seq .o (.seq (.seq .o (.cond (.seq .o .o) .o)) (.seq .o .o)))
theorem sh_graph_Graph_Out.is (CV : CVT) (g0 : Option Addr) (v0 : Int) (w : World) (R : Value → World → Prop) : sh_graph_Graph_Out g0 v0 (fun r0 w' => R (.slice r0.a r0.len r0.cap) w') w = denF (cx_graph_side_all.with CV) Try.f18 sh_graph_Graph_Out.plan [.v (.pointer g0), .v (.int .i64 v0)] w R := by kernel_rfl
theorem sh_graph_Graph_Out.calls (CV : CVT) (g0 : Option Addr) (v0 : Int) (hcv : CVOk Try.prog CV) {w : World} {R : Ending → World → Prop} (h : sh_graph_Graph_Out g0 v0 (fun r0 w' => R (.returned (.slice r0.a r0.len r0.cap)) w') w) : Calls Try.prog 18 #[(.pointer g0), (.int .i64 v0)] w R :=
  calls_is (cx := cx_graph_side_all.with CV) mixed_Try (cx_graph_side_all.ok.with CV) hcv Try.func18 sh_graph_Graph_Out.plan (xs := [.v (.pointer g0), .v (.int .i64 v0)]) ((args_cons _ (args_cons _ args_nil))) (by kernel_rfl) (sh_graph_Graph_Out.is CV g0 v0 w (fun v w' => R (.returned v) w')) h
def sh_graph_Graph_Out.o : CVT → List X → (Value → World → Prop) → World → Prop
  | CV, [.v (.pointer g0), .v (.int .i64 v0)], K, w => sh_graph_Graph_Out g0 v0 (fun r0 w' => K (.slice r0.a r0.len r0.cap) w') w
  | _, _, _, _ => False
def sh_graph_Graph_Out.q : CVT → List X → World → (Value → Prop) → Prop
  | CV, [.v (.pointer g0), .v (.int .i64 v0)], w, K => Quiet (SV) (fun r => (.slice r.a r.len r.cap)) (fun K1 w' => sh_graph_Graph_Out g0 v0 (fun r0 w'' => K1 r0 w'') w') w (fun r => K (.slice r.a r.len r.cap))
  | _, _, _, _ => False
noncomputable def cx_graph_Graph_Out : Cx := Cx.add Try.prog cx_graph_side_all 18 sh_graph_Graph_Out.o sh_graph_Graph_Out.q
theorem cx_graph_Graph_Out.ok : CxOk cx_graph_Graph_Out := by
  refine CxOk.add cx_graph_side_all.ok rfl (fun CV hcv xs K w hx h => ?_) (fun CV hcv xs K w hx h => ?_)
  · unfold sh_graph_Graph_Out.o at h; split at h
    · rename_i g0 v0; exact sh_graph_Graph_Out.calls CV g0 v0 hcv h
    · exact h.elim
  · unfold sh_graph_Graph_Out.q at h; split at h
    · rename_i g0 v0; obtain ⟨r, h1, h2⟩ := h; exact ⟨_, h2, fun w' e => sh_graph_Graph_Out.calls CV g0 v0 hcv (h1 w' e)⟩
    · exact h.elim
def sh_graph_Graph_In.plan : Plan := (.seq .o (.seq (.seq .o (.cond (.seq .o .o) .o)) (.seq .o .o)))
theorem sh_graph_Graph_In.is (CV : CVT) (g0 : Option Addr) (v0 : Int) (w : World) (R : Value → World → Prop) : sh_graph_Graph_In g0 v0 (fun r0 w' => R (.slice r0.a r0.len r0.cap) w') w = denF (cx_graph_Graph_Out.with CV) Try.f19 sh_graph_Graph_In.plan [.v (.pointer g0), .v (.int .i64 v0)] w R := by kernel_rfl
theorem sh_graph_Graph_In.calls (CV : CVT) (g0 : Option Addr) (v0 : Int) (hcv : CVOk Try.prog CV) {w : World} {R : Ending → World → Prop} (h : sh_graph_Graph_In g0 v0 (fun r0 w' => R (.returned (.slice r0.a r0.len r0.cap)) w') w) : Calls Try.prog 19 #[(.pointer g0), (.int .i64 v0)] w R :=
  calls_is (cx := cx_graph_Graph_Out.with CV) mixed_Try (cx_graph_Graph_Out.ok.with CV) hcv Try.func19 sh_graph_Graph_In.plan (xs := [.v (.pointer g0), .v (.int .i64 v0)]) ((args_cons _ (args_cons _ args_nil))) (by kernel_rfl) (sh_graph_Graph_In.is CV g0 v0 w (fun v w' => R (.returned v) w')) h
def sh_graph_Graph_In.o : CVT → List X → (Value → World → Prop) → World → Prop
  | CV, [.v (.pointer g0), .v (.int .i64 v0)], K, w => sh_graph_Graph_In g0 v0 (fun r0 w' => K (.slice r0.a r0.len r0.cap) w') w
  | _, _, _, _ => False
def sh_graph_Graph_In.q : CVT → List X → World → (Value → Prop) → Prop
  | CV, [.v (.pointer g0), .v (.int .i64 v0)], w, K => Quiet (SV) (fun r => (.slice r.a r.len r.cap)) (fun K1 w' => sh_graph_Graph_In g0 v0 (fun r0 w'' => K1 r0 w'') w') w (fun r => K (.slice r.a r.len r.cap))
  | _, _, _, _ => False
noncomputable def cx_graph_Graph_In : Cx := Cx.add Try.prog cx_graph_Graph_Out 19 sh_graph_Graph_In.o sh_graph_Graph_In.q
theorem cx_graph_Graph_In.ok : CxOk cx_graph_Graph_In := by
  refine CxOk.add cx_graph_Graph_Out.ok rfl (fun CV hcv xs K w hx h => ?_) (fun CV hcv xs K w hx h => ?_)
  · unfold sh_graph_Graph_In.o at h; split at h
    · rename_i g0 v0; exact sh_graph_Graph_In.calls CV g0 v0 hcv h
    · exact h.elim
  · unfold sh_graph_Graph_In.q at h; split at h
    · rename_i g0 v0; obtain ⟨r, h1, h2⟩ := h; exact ⟨_, h2, fun w' e => sh_graph_Graph_In.calls CV g0 v0 hcv (h1 w' e)⟩
    · exact h.elim
def sh_postroadref06_SameEdges.plan : Plan := (.seq .o (.seq (.seq .o (.cond (.seq .o .o) .o)) (.seq (.seq .o (.block (.loop [.slot 5 (.int .i64)] [] (.seq (.seq .o (.cond .o .o)) (.seq (.block (.seq (.draw [] [.pure, .pure, .pure, .quiet, .pure, .pure, .pure, .quiet, .pure] [0, 1, 2, 3, 4, 5, 6, 7, 8]) (.cond (.seq .o .o) .o))) .o))))) (.seq .o .o))))
theorem sh_postroadref06_SameEdges.is (CV : CVT) (a0 : SV) (b0 : SV) (w : World) (R : Value → World → Prop) : sh_postroadref06_SameEdges a0 b0 (fun r0 w' => R (.bool r0) w') w = denF (cx_graph_Graph_In.with CV) Try.f17 sh_postroadref06_SameEdges.plan [.v (.slice a0.a a0.len a0.cap), .v (.slice b0.a b0.len b0.cap)] w R := by kernel_rfl
theorem sh_postroadref06_SameEdges.calls (CV : CVT) (a0 : SV) (b0 : SV) (hcv : CVOk Try.prog CV) {w : World} {R : Ending → World → Prop} (h : sh_postroadref06_SameEdges a0 b0 (fun r0 w' => R (.returned (.bool r0)) w') w) : Calls Try.prog 17 #[(.slice a0.a a0.len a0.cap), (.slice b0.a b0.len b0.cap)] w R :=
  calls_is (cx := cx_graph_Graph_In.with CV) mixed_Try (cx_graph_Graph_In.ok.with CV) hcv Try.func17 sh_postroadref06_SameEdges.plan (xs := [.v (.slice a0.a a0.len a0.cap), .v (.slice b0.a b0.len b0.cap)]) ((args_cons _ (args_cons _ args_nil))) (by kernel_rfl) (sh_postroadref06_SameEdges.is CV a0 b0 w (fun v w' => R (.returned v) w')) h
def sh_postroadref06_SameEdges.o : CVT → List X → (Value → World → Prop) → World → Prop
  | CV, [.v (.slice a0_a a0_l a0_c), .v (.slice b0_a b0_l b0_c)], K, w => sh_postroadref06_SameEdges ⟨a0_a, a0_l, a0_c⟩ ⟨b0_a, b0_l, b0_c⟩ (fun r0 w' => K (.bool r0) w') w
  | _, _, _, _ => False
def sh_postroadref06_SameEdges.q : CVT → List X → World → (Value → Prop) → Prop
  | CV, [.v (.slice a0_a a0_l a0_c), .v (.slice b0_a b0_l b0_c)], w, K => Quiet (Bool) (fun r => (.bool r)) (fun K1 w' => sh_postroadref06_SameEdges ⟨a0_a, a0_l, a0_c⟩ ⟨b0_a, b0_l, b0_c⟩ (fun r0 w'' => K1 r0 w'') w') w (fun r => K (.bool r))
  | _, _, _, _ => False
noncomputable def cx_postroadref06_SameEdges : Cx := Cx.add Try.prog cx_graph_Graph_In 17 sh_postroadref06_SameEdges.o sh_postroadref06_SameEdges.q
theorem cx_postroadref06_SameEdges.ok : CxOk cx_postroadref06_SameEdges := by
  refine CxOk.add cx_graph_Graph_In.ok rfl (fun CV hcv xs K w hx h => ?_) (fun CV hcv xs K w hx h => ?_)
  · unfold sh_postroadref06_SameEdges.o at h; split at h
    · rename_i a0_a a0_l a0_c b0_a b0_l b0_c; exact sh_postroadref06_SameEdges.calls CV ⟨a0_a, a0_l, a0_c⟩ ⟨b0_a, b0_l, b0_c⟩ hcv h
    · exact h.elim
  · unfold sh_postroadref06_SameEdges.q at h; split at h
    · rename_i a0_a a0_l a0_c b0_a b0_l b0_c; obtain ⟨r, h1, h2⟩ := h; exact ⟨_, h2, fun w' e => sh_postroadref06_SameEdges.calls CV ⟨a0_a, a0_l, a0_c⟩ ⟨b0_a, b0_l, b0_c⟩ hcv (h1 w' e)⟩
    · exact h.elim
def sh_postroadref00_SameInts.plan : Plan := (.seq .o (.seq (.seq .o (.cond (.seq .o .o) .o)) (.seq (.seq .o (.block (.loop [.slot 5 (.int .i64)] [] (.seq (.seq .o (.cond .o .o)) (.seq (.block (.seq (.draw [] [.pure, .pure, .pure, .quiet, .pure, .pure, .pure, .quiet, .pure] [0, 1, 2, 3, 4, 5, 6, 7, 8]) (.cond (.seq .o .o) .o))) .o))))) (.seq .o .o))))
theorem sh_postroadref00_SameInts.is (CV : CVT) (a0 : SV) (b0 : SV) (w : World) (R : Value → World → Prop) : sh_postroadref00_SameInts a0 b0 (fun r0 w' => R (.bool r0) w') w = denF (cx_postroadref06_SameEdges.with CV) Try.f21 sh_postroadref00_SameInts.plan [.v (.slice a0.a a0.len a0.cap), .v (.slice b0.a b0.len b0.cap)] w R := by kernel_rfl
theorem sh_postroadref00_SameInts.calls (CV : CVT) (a0 : SV) (b0 : SV) (hcv : CVOk Try.prog CV) {w : World} {R : Ending → World → Prop} (h : sh_postroadref00_SameInts a0 b0 (fun r0 w' => R (.returned (.bool r0)) w') w) : Calls Try.prog 21 #[(.slice a0.a a0.len a0.cap), (.slice b0.a b0.len b0.cap)] w R :=
  calls_is (cx := cx_postroadref06_SameEdges.with CV) mixed_Try (cx_postroadref06_SameEdges.ok.with CV) hcv Try.func21 sh_postroadref00_SameInts.plan (xs := [.v (.slice a0.a a0.len a0.cap), .v (.slice b0.a b0.len b0.cap)]) ((args_cons _ (args_cons _ args_nil))) (by kernel_rfl) (sh_postroadref00_SameInts.is CV a0 b0 w (fun v w' => R (.returned v) w')) h
def sh_postroadref00_SameInts.o : CVT → List X → (Value → World → Prop) → World → Prop
  | CV, [.v (.slice a0_a a0_l a0_c), .v (.slice b0_a b0_l b0_c)], K, w => sh_postroadref00_SameInts ⟨a0_a, a0_l, a0_c⟩ ⟨b0_a, b0_l, b0_c⟩ (fun r0 w' => K (.bool r0) w') w
  | _, _, _, _ => False
def sh_postroadref00_SameInts.q : CVT → List X → World → (Value → Prop) → Prop
  | CV, [.v (.slice a0_a a0_l a0_c), .v (.slice b0_a b0_l b0_c)], w, K => Quiet (Bool) (fun r => (.bool r)) (fun K1 w' => sh_postroadref00_SameInts ⟨a0_a, a0_l, a0_c⟩ ⟨b0_a, b0_l, b0_c⟩ (fun r0 w'' => K1 r0 w'') w') w (fun r => K (.bool r))
  | _, _, _, _ => False
noncomputable def cx_postroadref00_SameInts : Cx := Cx.add Try.prog cx_postroadref06_SameEdges 21 sh_postroadref00_SameInts.o sh_postroadref00_SameInts.q
theorem cx_postroadref00_SameInts.ok : CxOk cx_postroadref00_SameInts := by
  refine CxOk.add cx_postroadref06_SameEdges.ok rfl (fun CV hcv xs K w hx h => ?_) (fun CV hcv xs K w hx h => ?_)
  · unfold sh_postroadref00_SameInts.o at h; split at h
    · rename_i a0_a a0_l a0_c b0_a b0_l b0_c; exact sh_postroadref00_SameInts.calls CV ⟨a0_a, a0_l, a0_c⟩ ⟨b0_a, b0_l, b0_c⟩ hcv h
    · exact h.elim
  · unfold sh_postroadref00_SameInts.q at h; split at h
    · rename_i a0_a a0_l a0_c b0_a b0_l b0_c; obtain ⟨r, h1, h2⟩ := h; exact ⟨_, h2, fun w' e => sh_postroadref00_SameInts.calls CV ⟨a0_a, a0_l, a0_c⟩ ⟨b0_a, b0_l, b0_c⟩ hcv (h1 w' e)⟩
    · exact h.elim
def sh_postroadlaw06_known.plan : Plan := (.seq .o (.seq .o (.seq .o (.seq .o .o))))
theorem sh_postroadlaw06_known.is (CV : CVT) (w : World) (R : Value → World → Prop) : sh_postroadlaw06_known CV (fun r0 w' => R (.bool r0) w') w = denF (cx_postroadref00_SameInts.with CV) Try.f23 sh_postroadlaw06_known.plan [] w R := by kernel_rfl
theorem sh_postroadlaw06_known.calls (CV : CVT) (hcv : CVOk Try.prog CV) {w : World} {R : Ending → World → Prop} (h : sh_postroadlaw06_known CV (fun r0 w' => R (.returned (.bool r0)) w') w) : Calls Try.prog 23 #[] w R :=
  calls_is (cx := cx_postroadref00_SameInts.with CV) mixed_Try (cx_postroadref00_SameInts.ok.with CV) hcv Try.func23 sh_postroadlaw06_known.plan (xs := []) (args_nil) (by kernel_rfl) (sh_postroadlaw06_known.is CV w (fun v w' => R (.returned v) w')) h
def sh_postroadlaw06_known.o : CVT → List X → (Value → World → Prop) → World → Prop
  | CV, [], K, w => sh_postroadlaw06_known CV (fun r0 w' => K (.bool r0) w') w
  | _, _, _, _ => False
def sh_postroadlaw06_known.q : CVT → List X → World → (Value → Prop) → Prop
  | CV, [], w, K => Quiet (Bool) (fun r => (.bool r)) (fun K1 w' => sh_postroadlaw06_known CV (fun r0 w'' => K1 r0 w'') w') w (fun r => K (.bool r))
  | _, _, _, _ => False
noncomputable def cx_postroadlaw06_known : Cx := Cx.add Try.prog cx_postroadref00_SameInts 23 sh_postroadlaw06_known.o sh_postroadlaw06_known.q
theorem cx_postroadlaw06_known.ok : CxOk cx_postroadlaw06_known := by
  refine CxOk.add cx_postroadref00_SameInts.ok rfl (fun CV hcv xs K w hx h => ?_) (fun CV hcv xs K w hx h => ?_)
  · unfold sh_postroadlaw06_known.o at h; split at h
    · exact sh_postroadlaw06_known.calls CV hcv h
    · exact h.elim
  · unfold sh_postroadlaw06_known.q at h; split at h
    · obtain ⟨r, h1, h2⟩ := h; exact ⟨_, h2, fun w' e => sh_postroadlaw06_known.calls CV hcv (h1 w' e)⟩
    · exact h.elim
def sh_postroadlaw06_GraphTurned.plan : Plan := (.seq .o (.seq .o (.seq .o (.join [.box 6 [(.int .i64), .slice]] [] (.seq .o (.block (.loop [.slot 7 (.int .i64), .box 6 [(.int .i64), .slice]] [] (.seq (.seq .o (.cond .o .o)) (.seq (.block (.seq .o .o)) .o))))) (.seq .o (.seq .o (.join [] [] (.seq .o (.block (.loop [.slot 11 (.int .i64)] [] (.seq (.seq .o (.cond .o .o)) (.seq (.block (.seq .o (.cond (.seq .o .o) .o))) .o))))) (.seq (.draw [] [.pure, .quiet, .pure, .loc, .pure, .pure, .pure, .big, .pure, .big, .quiet, .pure, .pure, .big, .pure, .pure] [0, 1, 2, 3, 4, 5, 6, 8, 7, 9, 10, 11, 12, 13, 14, 15]) .o))))))))
theorem sh_postroadlaw06_GraphTurned.is (CV : CVT) (n0 : Int) (arcs0 : SV) (w : World) (R : Value → World → Prop) : sh_postroadlaw06_GraphTurned CV n0 arcs0 (fun r0 w' => R (.bool r0) w') w = denF (cx_postroadlaw06_known.with CV) Try.f3 sh_postroadlaw06_GraphTurned.plan [.v (.int .i64 n0), .v (.slice arcs0.a arcs0.len arcs0.cap)] w R := by kernel_rfl
theorem sh_postroadlaw06_GraphTurned.calls (CV : CVT) (n0 : Int) (arcs0 : SV) (hcv : CVOk Try.prog CV) {w : World} {R : Ending → World → Prop} (h : sh_postroadlaw06_GraphTurned CV n0 arcs0 (fun r0 w' => R (.returned (.bool r0)) w') w) : Calls Try.prog 3 #[(.int .i64 n0), (.slice arcs0.a arcs0.len arcs0.cap)] w R :=
  calls_is (cx := cx_postroadlaw06_known.with CV) mixed_Try (cx_postroadlaw06_known.ok.with CV) hcv Try.func3 sh_postroadlaw06_GraphTurned.plan (xs := [.v (.int .i64 n0), .v (.slice arcs0.a arcs0.len arcs0.cap)]) ((args_cons _ (args_cons _ args_nil))) (by kernel_rfl) (sh_postroadlaw06_GraphTurned.is CV n0 arcs0 w (fun v w' => R (.returned v) w')) h
def sh_postroadlaw06_GraphTurned.o : CVT → List X → (Value → World → Prop) → World → Prop
  | CV, [.v (.int .i64 n0), .v (.slice arcs0_a arcs0_l arcs0_c)], K, w => sh_postroadlaw06_GraphTurned CV n0 ⟨arcs0_a, arcs0_l, arcs0_c⟩ (fun r0 w' => K (.bool r0) w') w
  | _, _, _, _ => False
def sh_postroadlaw06_GraphTurned.q : CVT → List X → World → (Value → Prop) → Prop
  | CV, [.v (.int .i64 n0), .v (.slice arcs0_a arcs0_l arcs0_c)], w, K => Quiet (Bool) (fun r => (.bool r)) (fun K1 w' => sh_postroadlaw06_GraphTurned CV n0 ⟨arcs0_a, arcs0_l, arcs0_c⟩ (fun r0 w'' => K1 r0 w'') w') w (fun r => K (.bool r))
  | _, _, _, _ => False
noncomputable def cx_postroadlaw06_GraphTurned : Cx := Cx.add Try.prog cx_postroadlaw06_known 3 sh_postroadlaw06_GraphTurned.o sh_postroadlaw06_GraphTurned.q
theorem cx_postroadlaw06_GraphTurned.ok : CxOk cx_postroadlaw06_GraphTurned := by
  refine CxOk.add cx_postroadlaw06_known.ok rfl (fun CV hcv xs K w hx h => ?_) (fun CV hcv xs K w hx h => ?_)
  · unfold sh_postroadlaw06_GraphTurned.o at h; split at h
    · rename_i n0 arcs0_a arcs0_l arcs0_c; exact sh_postroadlaw06_GraphTurned.calls CV n0 ⟨arcs0_a, arcs0_l, arcs0_c⟩ hcv h
    · exact h.elim
  · unfold sh_postroadlaw06_GraphTurned.q at h; split at h
    · rename_i n0 arcs0_a arcs0_l arcs0_c; obtain ⟨r, h1, h2⟩ := h; exact ⟨_, h2, fun w' e => sh_postroadlaw06_GraphTurned.calls CV n0 ⟨arcs0_a, arcs0_l, arcs0_c⟩ hcv (h1 w' e)⟩
    · exact h.elim
def sh_postroadlaw06_GraphLoops.plan : Plan := (.seq .o (.seq .o (.seq (.seq .o (.cond (.seq .o .o) .o)) (.seq .o (.seq .o (.join [.box 8 [(.int .i64), .slice]] [] (.seq .o (.block (.loop [.slot 9 (.int .i64), .box 8 [(.int .i64), .slice]] [] (.seq (.seq .o (.cond .o .o)) (.seq (.block (.seq (.draw [] [.pure, .pure, .pure, .quiet, .pure, .pure, .loc, .pure, .pure] [0, 1, 2, 3, 4, 5, 6, 7, 8]) .o)) .o))))) (.seq .o (.seq .o (.seq .o (.join [] [] (.seq .o (.block (.loop [.slot 14 (.int .i64)] [] (.seq (.seq .o (.cond .o .o)) (.seq (.block (.seq .o (.cond (.seq .o .o) .o))) .o))))) (.seq (.draw [] [.pure, .quiet, .pure, .loc, .pure, .pure, .pure, .big, .pure, .pure, .pure, .pure, .pure, .big, .pure, .big, .quiet, .pure, .pure, .big, .pure, .pure] [0, 1, 2, 3, 4, 5, 6, 7, 8, 9, 10, 11, 12, 14, 13, 15, 16, 17, 18, 19, 20, 21]) .o)))))))))))
theorem sh_postroadlaw06_GraphLoops.is (CV : CVT) (n0 : Int) (arcs0 : SV) (loops0 : SV) (w : World) (R : Value → World → Prop) : sh_postroadlaw06_GraphLoops CV n0 arcs0 loops0 (fun r0 w' => R (.bool r0) w') w = denF (cx_postroadlaw06_GraphTurned.with CV) Try.f4 sh_postroadlaw06_GraphLoops.plan [.v (.int .i64 n0), .v (.slice arcs0.a arcs0.len arcs0.cap), .v (.slice loops0.a loops0.len loops0.cap)] w R := by kernel_rfl
theorem sh_postroadlaw06_GraphLoops.calls (CV : CVT) (n0 : Int) (arcs0 : SV) (loops0 : SV) (hcv : CVOk Try.prog CV) {w : World} {R : Ending → World → Prop} (h : sh_postroadlaw06_GraphLoops CV n0 arcs0 loops0 (fun r0 w' => R (.returned (.bool r0)) w') w) : Calls Try.prog 4 #[(.int .i64 n0), (.slice arcs0.a arcs0.len arcs0.cap), (.slice loops0.a loops0.len loops0.cap)] w R :=
  calls_is (cx := cx_postroadlaw06_GraphTurned.with CV) mixed_Try (cx_postroadlaw06_GraphTurned.ok.with CV) hcv Try.func4 sh_postroadlaw06_GraphLoops.plan (xs := [.v (.int .i64 n0), .v (.slice arcs0.a arcs0.len arcs0.cap), .v (.slice loops0.a loops0.len loops0.cap)]) ((args_cons _ (args_cons _ (args_cons _ args_nil)))) (by kernel_rfl) (sh_postroadlaw06_GraphLoops.is CV n0 arcs0 loops0 w (fun v w' => R (.returned v) w')) h
def sh_postroadlaw06_GraphLoops.o : CVT → List X → (Value → World → Prop) → World → Prop
  | CV, [.v (.int .i64 n0), .v (.slice arcs0_a arcs0_l arcs0_c), .v (.slice loops0_a loops0_l loops0_c)], K, w => sh_postroadlaw06_GraphLoops CV n0 ⟨arcs0_a, arcs0_l, arcs0_c⟩ ⟨loops0_a, loops0_l, loops0_c⟩ (fun r0 w' => K (.bool r0) w') w
  | _, _, _, _ => False
def sh_postroadlaw06_GraphLoops.q : CVT → List X → World → (Value → Prop) → Prop
  | CV, [.v (.int .i64 n0), .v (.slice arcs0_a arcs0_l arcs0_c), .v (.slice loops0_a loops0_l loops0_c)], w, K => Quiet (Bool) (fun r => (.bool r)) (fun K1 w' => sh_postroadlaw06_GraphLoops CV n0 ⟨arcs0_a, arcs0_l, arcs0_c⟩ ⟨loops0_a, loops0_l, loops0_c⟩ (fun r0 w'' => K1 r0 w'') w') w (fun r => K (.bool r))
  | _, _, _, _ => False
noncomputable def cx_postroadlaw06_GraphLoops : Cx := Cx.add Try.prog cx_postroadlaw06_GraphTurned 4 sh_postroadlaw06_GraphLoops.o sh_postroadlaw06_GraphLoops.q
theorem cx_postroadlaw06_GraphLoops.ok : CxOk cx_postroadlaw06_GraphLoops := by
  refine CxOk.add cx_postroadlaw06_GraphTurned.ok rfl (fun CV hcv xs K w hx h => ?_) (fun CV hcv xs K w hx h => ?_)
  · unfold sh_postroadlaw06_GraphLoops.o at h; split at h
    · rename_i n0 arcs0_a arcs0_l arcs0_c loops0_a loops0_l loops0_c; exact sh_postroadlaw06_GraphLoops.calls CV n0 ⟨arcs0_a, arcs0_l, arcs0_c⟩ ⟨loops0_a, loops0_l, loops0_c⟩ hcv h
    · exact h.elim
  · unfold sh_postroadlaw06_GraphLoops.q at h; split at h
    · rename_i n0 arcs0_a arcs0_l arcs0_c loops0_a loops0_l loops0_c; obtain ⟨r, h1, h2⟩ := h; exact ⟨_, h2, fun w' e => sh_postroadlaw06_GraphLoops.calls CV n0 ⟨arcs0_a, arcs0_l, arcs0_c⟩ ⟨loops0_a, loops0_l, loops0_c⟩ hcv (h1 w' e)⟩
    · exact h.elim
def sh_postroadref06_Small.plan : Plan := (.seq .o (.seq .o .o))
theorem sh_postroadref06_Small.is (CV : CVT) (m0_N : Int) (m0_Arcs : SV) (n0 : Int) (arcs0 : Int) (w : World) (R : Value → World → Prop) : sh_postroadref06_Small m0_N m0_Arcs n0 arcs0 (fun r0 w' => R (.bool r0) w') w = denF (cx_postroadlaw06_GraphLoops.with CV) Try.f24 sh_postroadref06_Small.plan [.v (.agg #[(.int .i64 m0_N), (.slice m0_Arcs.a m0_Arcs.len m0_Arcs.cap)]), .v (.int .i64 n0), .v (.int .i64 arcs0)] w R := by kernel_rfl
theorem sh_postroadref06_Small.calls (CV : CVT) (m0_N : Int) (m0_Arcs : SV) (n0 : Int) (arcs0 : Int) (hcv : CVOk Try.prog CV) {w : World} {R : Ending → World → Prop} (h : sh_postroadref06_Small m0_N m0_Arcs n0 arcs0 (fun r0 w' => R (.returned (.bool r0)) w') w) : Calls Try.prog 24 #[(.agg #[(.int .i64 m0_N), (.slice m0_Arcs.a m0_Arcs.len m0_Arcs.cap)]), (.int .i64 n0), (.int .i64 arcs0)] w R :=
  calls_is (cx := cx_postroadlaw06_GraphLoops.with CV) mixed_Try (cx_postroadlaw06_GraphLoops.ok.with CV) hcv Try.func24 sh_postroadref06_Small.plan (xs := [.v (.agg #[(.int .i64 m0_N), (.slice m0_Arcs.a m0_Arcs.len m0_Arcs.cap)]), .v (.int .i64 n0), .v (.int .i64 arcs0)]) ((args_cons _ (args_cons _ (args_cons _ args_nil)))) (by kernel_rfl) (sh_postroadref06_Small.is CV m0_N m0_Arcs n0 arcs0 w (fun v w' => R (.returned v) w')) h
def sh_postroadref06_Small.o : CVT → List X → (Value → World → Prop) → World → Prop
  | CV, [.v (.agg ⟨[.int .i64 m0_N, .slice m0_Arcs_a m0_Arcs_l m0_Arcs_c]⟩), .v (.int .i64 n0), .v (.int .i64 arcs0)], K, w => sh_postroadref06_Small m0_N ⟨m0_Arcs_a, m0_Arcs_l, m0_Arcs_c⟩ n0 arcs0 (fun r0 w' => K (.bool r0) w') w
  | _, _, _, _ => False
def sh_postroadref06_Small.q : CVT → List X → World → (Value → Prop) → Prop
  | CV, [.v (.agg ⟨[.int .i64 m0_N, .slice m0_Arcs_a m0_Arcs_l m0_Arcs_c]⟩), .v (.int .i64 n0), .v (.int .i64 arcs0)], w, K => Quiet (Bool) (fun r => (.bool r)) (fun K1 w' => sh_postroadref06_Small m0_N ⟨m0_Arcs_a, m0_Arcs_l, m0_Arcs_c⟩ n0 arcs0 (fun r0 w'' => K1 r0 w'') w') w (fun r => K (.bool r))
  | _, _, _, _ => False
noncomputable def cx_postroadref06_Small : Cx := Cx.add Try.prog cx_postroadlaw06_GraphLoops 24 sh_postroadref06_Small.o sh_postroadref06_Small.q
theorem cx_postroadref06_Small.ok : CxOk cx_postroadref06_Small := by
  refine CxOk.add cx_postroadlaw06_GraphLoops.ok rfl (fun CV hcv xs K w hx h => ?_) (fun CV hcv xs K w hx h => ?_)
  · unfold sh_postroadref06_Small.o at h; split at h
    · rename_i m0_N m0_Arcs_a m0_Arcs_l m0_Arcs_c n0 arcs0; exact sh_postroadref06_Small.calls CV m0_N ⟨m0_Arcs_a, m0_Arcs_l, m0_Arcs_c⟩ n0 arcs0 hcv h
    · exact h.elim
  · unfold sh_postroadref06_Small.q at h; split at h
    · rename_i m0_N m0_Arcs_a m0_Arcs_l m0_Arcs_c n0 arcs0; obtain ⟨r, h1, h2⟩ := h; exact ⟨_, h2, fun w' e => sh_postroadref06_Small.calls CV m0_N ⟨m0_Arcs_a, m0_Arcs_l, m0_Arcs_c⟩ n0 arcs0 hcv (h1 w' e)⟩
    · exact h.elim
def sh_graph_Graph_Best_c1.plan : Plan := (.seq .o (.seq .o .o))
theorem sh_graph_Graph_Best_c1.is (CV : CVT) (arg0_0 : Int) (e0_V : Int) (e0_W : Int) (e0_Arc : Int) (free2 : Addr) (w : World) (R : Value → World → Prop) : sh_graph_Graph_Best_c1 arg0_0 e0_V e0_W e0_Arc free2 (fun r0 w' => R (.bool r0) w') w = denF (cx_postroadref06_Small.with CV) Try.f57 sh_graph_Graph_Best_c1.plan [.v (.int .i64 arg0_0), .v (.agg #[(.int .i64 e0_V), (.int .i64 e0_W), (.int .i64 e0_Arc)]), .v (.pointer (some free2))] w R := by kernel_rfl
theorem sh_graph_Graph_Best_c1.calls (CV : CVT) (arg0_0 : Int) (e0_V : Int) (e0_W : Int) (e0_Arc : Int) (free2 : Addr) (hcv : CVOk Try.prog CV) {w : World} {R : Ending → World → Prop} (h : sh_graph_Graph_Best_c1 arg0_0 e0_V e0_W e0_Arc free2 (fun r0 w' => R (.returned (.bool r0)) w') w) : Calls Try.prog 57 #[(.int .i64 arg0_0), (.agg #[(.int .i64 e0_V), (.int .i64 e0_W), (.int .i64 e0_Arc)]), (.pointer (some free2))] w R :=
  calls_is (cx := cx_postroadref06_Small.with CV) mixed_Try (cx_postroadref06_Small.ok.with CV) hcv Try.func57 sh_graph_Graph_Best_c1.plan (xs := [.v (.int .i64 arg0_0), .v (.agg #[(.int .i64 e0_V), (.int .i64 e0_W), (.int .i64 e0_Arc)]), .v (.pointer (some free2))]) ((args_cons _ (args_cons _ (args_cons _ args_nil)))) (by kernel_rfl) (sh_graph_Graph_Best_c1.is CV arg0_0 e0_V e0_W e0_Arc free2 w (fun v w' => R (.returned v) w')) h
def sh_graph_Graph_Best_c1.o : CVT → List X → (Value → World → Prop) → World → Prop
  | CV, [.v (.int .i64 arg0_0), .v (.agg ⟨[.int .i64 e0_V, .int .i64 e0_W, .int .i64 e0_Arc]⟩), .v (.pointer (some free2))], K, w => sh_graph_Graph_Best_c1 arg0_0 e0_V e0_W e0_Arc free2 (fun r0 w' => K (.bool r0) w') w
  | _, _, _, _ => False
def sh_graph_Graph_Best_c1.q : CVT → List X → World → (Value → Prop) → Prop
  | CV, [.v (.int .i64 arg0_0), .v (.agg ⟨[.int .i64 e0_V, .int .i64 e0_W, .int .i64 e0_Arc]⟩), .v (.pointer (some free2))], w, K => Quiet (Bool) (fun r => (.bool r)) (fun K1 w' => sh_graph_Graph_Best_c1 arg0_0 e0_V e0_W e0_Arc free2 (fun r0 w'' => K1 r0 w'') w') w (fun r => K (.bool r))
  | _, _, _, _ => False
noncomputable def cx_graph_Graph_Best_c1 : Cx := Cx.add Try.prog cx_postroadref06_Small 57 sh_graph_Graph_Best_c1.o sh_graph_Graph_Best_c1.q
theorem cx_graph_Graph_Best_c1.ok : CxOk cx_graph_Graph_Best_c1 := by
  refine CxOk.add cx_postroadref06_Small.ok rfl (fun CV hcv xs K w hx h => ?_) (fun CV hcv xs K w hx h => ?_)
  · unfold sh_graph_Graph_Best_c1.o at h; split at h
    · rename_i arg0_0 e0_V e0_W e0_Arc free2; exact sh_graph_Graph_Best_c1.calls CV arg0_0 e0_V e0_W e0_Arc free2 hcv h
    · exact h.elim
  · unfold sh_graph_Graph_Best_c1.q at h; split at h
    · rename_i arg0_0 e0_V e0_W e0_Arc free2; obtain ⟨r, h1, h2⟩ := h; exact ⟨_, h2, fun w' e => sh_graph_Graph_Best_c1.calls CV arg0_0 e0_V e0_W e0_Arc free2 hcv (h1 w' e)⟩
    · exact h.elim
def sh_graph_numbers_Edge_c1.plan : Plan := (.seq .o (.block (.loop [.slot 8 (.int .i64)] [] (.seq .o (.seq (.cond .o .o) (.seq (.block (.seq .o (.seq .o (.cond .o .o)))) .o))))))
theorem sh_graph_numbers_Edge_c1.is (CV : CVT) (v0 : Value) (E0 : List Value → (Bool → World → Prop) → World → Prop) (free1 : Addr) (free2 : Addr) (w : World) (R : Value → World → Prop) : sh_graph_numbers_Edge_c1 CV (fun a0 Ky wy => E0 [(.int .i64 a0)] Ky wy) free1 free2 (fun w' => R (.tuple #[]) w') w = denF (cx_graph_Graph_Best_c1.with CV) Try.f67 sh_graph_numbers_Edge_c1.plan [.yl v0 E0, .v (.pointer (some free1)), .v (.pointer (some free2))] w R := by kernel_rfl
theorem sh_graph_numbers_Edge_c1.calls (CV : CVT) (v0 : Value) (E0 : List Value → (Bool → World → Prop) → World → Prop) (free1 : Addr) (free2 : Addr) (hx : ∀ x ∈ [.yl v0 E0, .v (.pointer (some free1)), .v (.pointer (some free2))], ArgOk Try.prog x) (hcv : CVOk Try.prog CV) {w : World} {R : Ending → World → Prop} (h : sh_graph_numbers_Edge_c1 CV (fun a0 Ky wy => E0 [(.int .i64 a0)] Ky wy) free1 free2 (fun w' => R (.returned (.tuple #[])) w') w) : Calls Try.prog 67 #[v0, (.pointer (some free1)), (.pointer (some free2))] w R :=
  calls_is (cx := cx_graph_Graph_Best_c1.with CV) mixed_Try (cx_graph_Graph_Best_c1.ok.with CV) hcv Try.func67 sh_graph_numbers_Edge_c1.plan (xs := [.yl v0 E0, .v (.pointer (some free1)), .v (.pointer (some free2))]) hx (by kernel_rfl) (sh_graph_numbers_Edge_c1.is CV v0 E0 free1 free2 w (fun v w' => R (.returned v) w')) h
def sh_graph_numbers_Edge_c1.o : CVT → List X → (Value → World → Prop) → World → Prop
  | CV, [.yl v0 E0, .v (.pointer (some free1)), .v (.pointer (some free2))], K, w => sh_graph_numbers_Edge_c1 CV (fun a0 Ky wy => E0 [(.int .i64 a0)] Ky wy) free1 free2 (fun w' => K (.tuple #[]) w') w
  | _, _, _, _ => False
def sh_graph_numbers_Edge_c1.q : CVT → List X → World → (Value → Prop) → Prop := fun _ _ _ _ => False
noncomputable def cx_graph_numbers_Edge_c1 : Cx := Cx.add Try.prog cx_graph_Graph_Best_c1 67 sh_graph_numbers_Edge_c1.o sh_graph_numbers_Edge_c1.q
theorem cx_graph_numbers_Edge_c1.ok : CxOk cx_graph_numbers_Edge_c1 := by
  refine CxOk.add cx_graph_Graph_Best_c1.ok rfl (fun CV hcv xs K w hx h => ?_) (fun CV hcv xs K w hx h => ?_)
  · unfold sh_graph_numbers_Edge_c1.o at h; split at h
    · rename_i v0 E0 free1 free2; exact sh_graph_numbers_Edge_c1.calls CV v0 E0 free1 free2 hx hcv h
    · exact h.elim
  · unfold sh_graph_numbers_Edge_c1.q at h; exact h.elim
def sh_graph_numbers_Edge.plan : Plan := (.seq .o (.seq .o .o))
noncomputable def sh_graph_numbers_Edge.o (CV : CVT) (xs : List X) (K : Value → World → Prop) (w : World) : Prop := match Nat.ble xs.length Try.f56.ntmps with | true => denF (cx_graph_numbers_Edge_c1.with CV) Try.f56 sh_graph_numbers_Edge.plan xs w K | false => False
noncomputable def cx_graph_numbers_Edge : Cx := Cx.add Try.prog cx_graph_numbers_Edge_c1 56 sh_graph_numbers_Edge.o (fun _ _ _ _ => False)
theorem cx_graph_numbers_Edge.ok : CxOk cx_graph_numbers_Edge := by
  refine CxOk.add cx_graph_numbers_Edge_c1.ok rfl (fun CV hcv xs K w hx h => ?_) (fun CV hcv xs K w hx h => h.elim)
  unfold sh_graph_numbers_Edge.o at h; split at h
  · rename_i hb; exact calls_den (cx := cx_graph_numbers_Edge_c1.with CV) mixed_Try (cx_graph_numbers_Edge_c1.ok.with CV) hcv Try.func56 sh_graph_numbers_Edge.plan hx (Nat.le_of_ble_eq_true hb) h
  · exact h.elim
def sh_graph_Graph_Best.plan : Plan := (.seq .o (.seq .o (.seq (.seq .o (.block (.rng [6, 7, 8] [.ret, .exit 0] .o (.block (.seq (.seq (.draw [] [.quiet, .pure, .pure, .pure, .quiet, .quiet, .pure] [0, 1, 2, 3, 4, 5, 6]) (.cond (.seq .o .o) .o)) .o))))) (.seq .o .o))))
theorem sh_graph_Graph_Best.is (CV : CVT) (g0 : Option Addr) (u0 : Int) (v0 : Int) (w : World) (R : Value → World → Prop) : sh_graph_Graph_Best CV g0 u0 v0 (fun r0 r1 r2 r3 w' => R (.tuple #[(.agg #[(.int .i64 r0), (.int .i64 r1), (.int .i64 r2)]), (.bool r3)]) w') w = denF (cx_graph_numbers_Edge.with CV) Try.f25 sh_graph_Graph_Best.plan [.v (.pointer g0), .v (.int .i64 u0), .v (.int .i64 v0)] w R := by kernel_rfl
theorem sh_graph_Graph_Best.calls (CV : CVT) (g0 : Option Addr) (u0 : Int) (v0 : Int) (hcv : CVOk Try.prog CV) {w : World} {R : Ending → World → Prop} (h : sh_graph_Graph_Best CV g0 u0 v0 (fun r0 r1 r2 r3 w' => R (.returned (.tuple #[(.agg #[(.int .i64 r0), (.int .i64 r1), (.int .i64 r2)]), (.bool r3)])) w') w) : Calls Try.prog 25 #[(.pointer g0), (.int .i64 u0), (.int .i64 v0)] w R :=
  calls_is (cx := cx_graph_numbers_Edge.with CV) mixed_Try (cx_graph_numbers_Edge.ok.with CV) hcv Try.func25 sh_graph_Graph_Best.plan (xs := [.v (.pointer g0), .v (.int .i64 u0), .v (.int .i64 v0)]) ((args_cons _ (args_cons _ (args_cons _ args_nil)))) (by kernel_rfl) (sh_graph_Graph_Best.is CV g0 u0 v0 w (fun v w' => R (.returned v) w')) h
def sh_graph_Graph_Best.o : CVT → List X → (Value → World → Prop) → World → Prop
  | CV, [.v (.pointer g0), .v (.int .i64 u0), .v (.int .i64 v0)], K, w => sh_graph_Graph_Best CV g0 u0 v0 (fun r0 r1 r2 r3 w' => K (.tuple #[(.agg #[(.int .i64 r0), (.int .i64 r1), (.int .i64 r2)]), (.bool r3)]) w') w
  | _, _, _, _ => False
def sh_graph_Graph_Best.q : CVT → List X → World → (Value → Prop) → Prop
  | CV, [.v (.pointer g0), .v (.int .i64 u0), .v (.int .i64 v0)], w, K => Quiet (Int × Int × Int × Bool) (fun r => (.tuple #[(.agg #[(.int .i64 r.1), (.int .i64 r.2.1), (.int .i64 r.2.2.1)]), (.bool r.2.2.2)])) (fun K1 w' => sh_graph_Graph_Best CV g0 u0 v0 (fun r0 r1 r2 r3 w'' => K1 (r0, r1, r2, r3) w'') w') w (fun r => K (.tuple #[(.agg #[(.int .i64 r.1), (.int .i64 r.2.1), (.int .i64 r.2.2.1)]), (.bool r.2.2.2)]))
  | _, _, _, _ => False
noncomputable def cx_graph_Graph_Best : Cx := Cx.add Try.prog cx_graph_numbers_Edge 25 sh_graph_Graph_Best.o sh_graph_Graph_Best.q
theorem cx_graph_Graph_Best.ok : CxOk cx_graph_Graph_Best := by
  refine CxOk.add cx_graph_numbers_Edge.ok rfl (fun CV hcv xs K w hx h => ?_) (fun CV hcv xs K w hx h => ?_)
  · unfold sh_graph_Graph_Best.o at h; split at h
    · rename_i g0 u0 v0; exact sh_graph_Graph_Best.calls CV g0 u0 v0 hcv h
    · exact h.elim
  · unfold sh_graph_Graph_Best.q at h; split at h
    · rename_i g0 u0 v0; obtain ⟨r, h1, h2⟩ := h; exact ⟨_, h2, fun w' e => sh_graph_Graph_Best.calls CV g0 u0 v0 hcv (h1 w' e)⟩
    · exact h.elim
def sh_postroadlaw06_GraphLeast.plan : Plan := (.seq .o (.seq (.seq .o (.cond (.seq .o .o) .o)) (.seq .o (.join [] [] (.seq .o (.block (.loop [.slot 8 (.int .i64)] [] (.seq (.seq .o (.cond .o .o)) (.join [] [] (.block (.seq .o (.seq .o (.seq .o (.cond (.seq .o .o) .o))))) .o))))) (.seq (.draw [] [.pure, .loc, .pure, .pure, .pure, .loc, .pure, .pure, .pure, .quiet, .new, .big] [0, 1, 2, 3, 4, 5, 6, 7, 8, 9, 10, 11]) (.seq .o (.seq .o (.seq .o (.seq .o (.seq .o (.seq (.seq .o (.cond (.seq .o .o) .o)) (.seq .o .o))))))))))))
theorem sh_postroadlaw06_GraphLeast.is (CV : CVT) (m0_N : Int) (m0_Arcs : SV) (at_0 : Int) (more0 : Int) (w : World) (R : Value → World → Prop) : sh_postroadlaw06_GraphLeast CV m0_N m0_Arcs at_0 more0 (fun r0 w' => R (.bool r0) w') w = denF (cx_graph_Graph_Best.with CV) Try.f5 sh_postroadlaw06_GraphLeast.plan [.v (.agg #[(.int .i64 m0_N), (.slice m0_Arcs.a m0_Arcs.len m0_Arcs.cap)]), .v (.int .u8 at_0), .v (.int .u32 more0)] w R := by kernel_rfl
theorem sh_postroadlaw06_GraphLeast.calls (CV : CVT) (m0_N : Int) (m0_Arcs : SV) (at_0 : Int) (more0 : Int) (hcv : CVOk Try.prog CV) {w : World} {R : Ending → World → Prop} (h : sh_postroadlaw06_GraphLeast CV m0_N m0_Arcs at_0 more0 (fun r0 w' => R (.returned (.bool r0)) w') w) : Calls Try.prog 5 #[(.agg #[(.int .i64 m0_N), (.slice m0_Arcs.a m0_Arcs.len m0_Arcs.cap)]), (.int .u8 at_0), (.int .u32 more0)] w R :=
  calls_is (cx := cx_graph_Graph_Best.with CV) mixed_Try (cx_graph_Graph_Best.ok.with CV) hcv Try.func5 sh_postroadlaw06_GraphLeast.plan (xs := [.v (.agg #[(.int .i64 m0_N), (.slice m0_Arcs.a m0_Arcs.len m0_Arcs.cap)]), .v (.int .u8 at_0), .v (.int .u32 more0)]) ((args_cons _ (args_cons _ (args_cons _ args_nil)))) (by kernel_rfl) (sh_postroadlaw06_GraphLeast.is CV m0_N m0_Arcs at_0 more0 w (fun v w' => R (.returned v) w')) h
def sh_postroadlaw06_GraphLeast.o : CVT → List X → (Value → World → Prop) → World → Prop
  | CV, [.v (.agg ⟨[.int .i64 m0_N, .slice m0_Arcs_a m0_Arcs_l m0_Arcs_c]⟩), .v (.int .u8 at_0), .v (.int .u32 more0)], K, w => sh_postroadlaw06_GraphLeast CV m0_N ⟨m0_Arcs_a, m0_Arcs_l, m0_Arcs_c⟩ at_0 more0 (fun r0 w' => K (.bool r0) w') w
  | _, _, _, _ => False
def sh_postroadlaw06_GraphLeast.q : CVT → List X → World → (Value → Prop) → Prop
  | CV, [.v (.agg ⟨[.int .i64 m0_N, .slice m0_Arcs_a m0_Arcs_l m0_Arcs_c]⟩), .v (.int .u8 at_0), .v (.int .u32 more0)], w, K => Quiet (Bool) (fun r => (.bool r)) (fun K1 w' => sh_postroadlaw06_GraphLeast CV m0_N ⟨m0_Arcs_a, m0_Arcs_l, m0_Arcs_c⟩ at_0 more0 (fun r0 w'' => K1 r0 w'') w') w (fun r => K (.bool r))
  | _, _, _, _ => False
noncomputable def cx_postroadlaw06_GraphLeast : Cx := Cx.add Try.prog cx_graph_Graph_Best 5 sh_postroadlaw06_GraphLeast.o sh_postroadlaw06_GraphLeast.q
theorem cx_postroadlaw06_GraphLeast.ok : CxOk cx_postroadlaw06_GraphLeast := by
  refine CxOk.add cx_graph_Graph_Best.ok rfl (fun CV hcv xs K w hx h => ?_) (fun CV hcv xs K w hx h => ?_)
  · unfold sh_postroadlaw06_GraphLeast.o at h; split at h
    · rename_i m0_N m0_Arcs_a m0_Arcs_l m0_Arcs_c at_0 more0; exact sh_postroadlaw06_GraphLeast.calls CV m0_N ⟨m0_Arcs_a, m0_Arcs_l, m0_Arcs_c⟩ at_0 more0 hcv h
    · exact h.elim
  · unfold sh_postroadlaw06_GraphLeast.q at h; split at h
    · rename_i m0_N m0_Arcs_a m0_Arcs_l m0_Arcs_c at_0 more0; obtain ⟨r, h1, h2⟩ := h; exact ⟨_, h2, fun w' e => sh_postroadlaw06_GraphLeast.calls CV m0_N ⟨m0_Arcs_a, m0_Arcs_l, m0_Arcs_c⟩ at_0 more0 hcv (h1 w' e)⟩
    · exact h.elim
def sh_graph_Graph_Arc.plan : Plan := (.seq .o (.seq (.seq .o (.cond (.seq .o .o) .o)) (.seq .o .o)))
theorem sh_graph_Graph_Arc.is (CV : CVT) (g0 : Option Addr) (k0 : Int) (w : World) (R : Value → World → Prop) : sh_graph_Graph_Arc g0 k0 (fun r0 r1 r2 r3 w' => R (.tuple #[(.agg #[(.int .i64 r0), (.int .i64 r1), (.int .i64 r2)]), (.bool r3)]) w') w = denF (cx_postroadlaw06_GraphLeast.with CV) Try.f26 sh_graph_Graph_Arc.plan [.v (.pointer g0), .v (.int .i64 k0)] w R := by kernel_rfl
theorem sh_graph_Graph_Arc.calls (CV : CVT) (g0 : Option Addr) (k0 : Int) (hcv : CVOk Try.prog CV) {w : World} {R : Ending → World → Prop} (h : sh_graph_Graph_Arc g0 k0 (fun r0 r1 r2 r3 w' => R (.returned (.tuple #[(.agg #[(.int .i64 r0), (.int .i64 r1), (.int .i64 r2)]), (.bool r3)])) w') w) : Calls Try.prog 26 #[(.pointer g0), (.int .i64 k0)] w R :=
  calls_is (cx := cx_postroadlaw06_GraphLeast.with CV) mixed_Try (cx_postroadlaw06_GraphLeast.ok.with CV) hcv Try.func26 sh_graph_Graph_Arc.plan (xs := [.v (.pointer g0), .v (.int .i64 k0)]) ((args_cons _ (args_cons _ args_nil))) (by kernel_rfl) (sh_graph_Graph_Arc.is CV g0 k0 w (fun v w' => R (.returned v) w')) h
def sh_graph_Graph_Arc.o : CVT → List X → (Value → World → Prop) → World → Prop
  | CV, [.v (.pointer g0), .v (.int .i64 k0)], K, w => sh_graph_Graph_Arc g0 k0 (fun r0 r1 r2 r3 w' => K (.tuple #[(.agg #[(.int .i64 r0), (.int .i64 r1), (.int .i64 r2)]), (.bool r3)]) w') w
  | _, _, _, _ => False
def sh_graph_Graph_Arc.q : CVT → List X → World → (Value → Prop) → Prop
  | CV, [.v (.pointer g0), .v (.int .i64 k0)], w, K => Quiet (Int × Int × Int × Bool) (fun r => (.tuple #[(.agg #[(.int .i64 r.1), (.int .i64 r.2.1), (.int .i64 r.2.2.1)]), (.bool r.2.2.2)])) (fun K1 w' => sh_graph_Graph_Arc g0 k0 (fun r0 r1 r2 r3 w'' => K1 (r0, r1, r2, r3) w'') w') w (fun r => K (.tuple #[(.agg #[(.int .i64 r.1), (.int .i64 r.2.1), (.int .i64 r.2.2.1)]), (.bool r.2.2.2)]))
  | _, _, _, _ => False
noncomputable def cx_graph_Graph_Arc : Cx := Cx.add Try.prog cx_postroadlaw06_GraphLeast 26 sh_graph_Graph_Arc.o sh_graph_Graph_Arc.q
theorem cx_graph_Graph_Arc.ok : CxOk cx_graph_Graph_Arc := by
  refine CxOk.add cx_postroadlaw06_GraphLeast.ok rfl (fun CV hcv xs K w hx h => ?_) (fun CV hcv xs K w hx h => ?_)
  · unfold sh_graph_Graph_Arc.o at h; split at h
    · rename_i g0 k0; exact sh_graph_Graph_Arc.calls CV g0 k0 hcv h
    · exact h.elim
  · unfold sh_graph_Graph_Arc.q at h; split at h
    · rename_i g0 k0; obtain ⟨r, h1, h2⟩ := h; exact ⟨_, h2, fun w' e => sh_graph_Graph_Arc.calls CV g0 k0 hcv (h1 w' e)⟩
    · exact h.elim
def sh_postroadlaw06_GraphSides.plan : Plan := (.seq .o (.seq (.seq .o (.cond (.seq .o .o) .o)) (.seq .o (.seq .o (.join [.slot 4 (.int .i64)] [] (.seq .o (.block (.loop [.slot 4 (.int .i64), .slot 5 (.int .i64)] [] (.seq (.seq .o (.cond .o .o)) (.join [.slot 4 (.int .i64)] [] (.block (.seq .o (.seq .o (.seq .o (.block (.loop [.slot 7 (.int .i64)] [] (.seq (.seq .o (.cond .o .o)) (.join [] [] (.block (.seq .o (.join [] [] (.seq (.draw [] [.pure, .pure, .pure, .pure, .loc, .pure, .pure, .pure, .pure, .pure, .loc, .pure, .pure, .pure, .pure, .quiet, .pure, .pure, .pure, .pure, .loc, .pure, .pure, .pure, .pure, .quiet, .pure, .pure, .pure, .pure, .pure, .pure, .pure, .quiet, .pure, .pure, .pure, .pure, .pure, .pure, .pure, .pure, .pure, .pure, .pure, .quiet, .pure, .pure, .pure, .pure, .pure, .quiet, .pure, .pure, .pure] [0, 1, 2, 3, 4, 5, 6, 7, 8, 9, 10, 11, 12, 13, 14, 15, 16, 17, 18, 19, 20, 21, 22, 23, 24, 25, 26, 27, 28, 29, 30, 31, 32, 33, 34, 35, 36, 37, 38, 39, 40, 41, 42, 43, 44, 45, 46, 47, 48, 49, 50, 51, 52, 53, 54]) (.cond (.seq .o .o) .o)) (.seq .o (.seq .o (.join [.slot 11 .bool] [] (.seq .o (.block (.loop [.slot 11 .bool, .slot 12 (.int .i64)] [] (.seq (.seq .o (.cond .o .o)) (.join [.slot 11 .bool] [] (.block (.draw [] [.pure, .pure, .pure, .pure, .pure, .quiet, .pure, .pure, .pure, .pure, .pure, .quiet, .pure, .pure, .pure, .pure, .quiet, .pure, .pure, .pure, .pure] [0, 1, 2, 3, 4, 5, 6, 7, 8, 9, 10, 11, 12, 13, 14, 15, 16, 17, 18, 19, 20])) .o))))) (.seq .o (.cond (.seq .o .o) .o)))))))) .o)))))))) .o))))) (.seq .o .o))))))
theorem sh_postroadlaw06_GraphSides.is (CV : CVT) (m0_N : Int) (m0_Arcs : SV) (w : World) (R : Value → World → Prop) : sh_postroadlaw06_GraphSides CV m0_N m0_Arcs (fun r0 w' => R (.bool r0) w') w = denF (cx_graph_Graph_Arc.with CV) Try.f6 sh_postroadlaw06_GraphSides.plan [.v (.agg #[(.int .i64 m0_N), (.slice m0_Arcs.a m0_Arcs.len m0_Arcs.cap)])] w R := by kernel_rfl
theorem sh_postroadlaw06_GraphSides.calls (CV : CVT) (m0_N : Int) (m0_Arcs : SV) (hcv : CVOk Try.prog CV) {w : World} {R : Ending → World → Prop} (h : sh_postroadlaw06_GraphSides CV m0_N m0_Arcs (fun r0 w' => R (.returned (.bool r0)) w') w) : Calls Try.prog 6 #[(.agg #[(.int .i64 m0_N), (.slice m0_Arcs.a m0_Arcs.len m0_Arcs.cap)])] w R :=
  calls_is (cx := cx_graph_Graph_Arc.with CV) mixed_Try (cx_graph_Graph_Arc.ok.with CV) hcv Try.func6 sh_postroadlaw06_GraphSides.plan (xs := [.v (.agg #[(.int .i64 m0_N), (.slice m0_Arcs.a m0_Arcs.len m0_Arcs.cap)])]) ((args_cons _ args_nil)) (by kernel_rfl) (sh_postroadlaw06_GraphSides.is CV m0_N m0_Arcs w (fun v w' => R (.returned v) w')) h
def sh_postroadlaw06_GraphSides.o : CVT → List X → (Value → World → Prop) → World → Prop
  | CV, [.v (.agg ⟨[.int .i64 m0_N, .slice m0_Arcs_a m0_Arcs_l m0_Arcs_c]⟩)], K, w => sh_postroadlaw06_GraphSides CV m0_N ⟨m0_Arcs_a, m0_Arcs_l, m0_Arcs_c⟩ (fun r0 w' => K (.bool r0) w') w
  | _, _, _, _ => False
def sh_postroadlaw06_GraphSides.q : CVT → List X → World → (Value → Prop) → Prop
  | CV, [.v (.agg ⟨[.int .i64 m0_N, .slice m0_Arcs_a m0_Arcs_l m0_Arcs_c]⟩)], w, K => Quiet (Bool) (fun r => (.bool r)) (fun K1 w' => sh_postroadlaw06_GraphSides CV m0_N ⟨m0_Arcs_a, m0_Arcs_l, m0_Arcs_c⟩ (fun r0 w'' => K1 r0 w'') w') w (fun r => K (.bool r))
  | _, _, _, _ => False
noncomputable def cx_postroadlaw06_GraphSides : Cx := Cx.add Try.prog cx_graph_Graph_Arc 6 sh_postroadlaw06_GraphSides.o sh_postroadlaw06_GraphSides.q
theorem cx_postroadlaw06_GraphSides.ok : CxOk cx_postroadlaw06_GraphSides := by
  refine CxOk.add cx_graph_Graph_Arc.ok rfl (fun CV hcv xs K w hx h => ?_) (fun CV hcv xs K w hx h => ?_)
  · unfold sh_postroadlaw06_GraphSides.o at h; split at h
    · rename_i m0_N m0_Arcs_a m0_Arcs_l m0_Arcs_c; exact sh_postroadlaw06_GraphSides.calls CV m0_N ⟨m0_Arcs_a, m0_Arcs_l, m0_Arcs_c⟩ hcv h
    · exact h.elim
  · unfold sh_postroadlaw06_GraphSides.q at h; split at h
    · rename_i m0_N m0_Arcs_a m0_Arcs_l m0_Arcs_c; obtain ⟨r, h1, h2⟩ := h; exact ⟨_, h2, fun w' e => sh_postroadlaw06_GraphSides.calls CV m0_N ⟨m0_Arcs_a, m0_Arcs_l, m0_Arcs_c⟩ hcv (h1 w' e)⟩
    · exact h.elim
def sh_heap_New.plan : Plan := (.seq .o (.seq (.seq .o (.cond (.seq .o .o) .o)) (.seq .o .o)))
theorem sh_heap_New.is (CV : CVT) (n0 : Int) (w : World) (R : Value → World → Prop) : sh_heap_New n0 (fun r0 w' => R (.pointer r0) w') w = denF (cx_postroadlaw06_GraphSides.with CV) Try.f28 sh_heap_New.plan [.v (.int .i64 n0)] w R := by kernel_rfl
theorem sh_heap_New.calls (CV : CVT) (n0 : Int) (hcv : CVOk Try.prog CV) {w : World} {R : Ending → World → Prop} (h : sh_heap_New n0 (fun r0 w' => R (.returned (.pointer r0)) w') w) : Calls Try.prog 28 #[(.int .i64 n0)] w R :=
  calls_is (cx := cx_postroadlaw06_GraphSides.with CV) mixed_Try (cx_postroadlaw06_GraphSides.ok.with CV) hcv Try.func28 sh_heap_New.plan (xs := [.v (.int .i64 n0)]) ((args_cons _ args_nil)) (by kernel_rfl) (sh_heap_New.is CV n0 w (fun v w' => R (.returned v) w')) h
def sh_heap_New.o : CVT → List X → (Value → World → Prop) → World → Prop
  | CV, [.v (.int .i64 n0)], K, w => sh_heap_New n0 (fun r0 w' => K (.pointer r0) w') w
  | _, _, _, _ => False
def sh_heap_New.q : CVT → List X → World → (Value → Prop) → Prop
  | CV, [.v (.int .i64 n0)], w, K => Quiet ((Option Addr)) (fun r => (.pointer r)) (fun K1 w' => sh_heap_New n0 (fun r0 w'' => K1 r0 w'') w') w (fun r => K (.pointer r))
  | _, _, _, _ => False
noncomputable def cx_heap_New : Cx := Cx.add Try.prog cx_postroadlaw06_GraphSides 28 sh_heap_New.o sh_heap_New.q
theorem cx_heap_New.ok : CxOk cx_heap_New := by
  refine CxOk.add cx_postroadlaw06_GraphSides.ok rfl (fun CV hcv xs K w hx h => ?_) (fun CV hcv xs K w hx h => ?_)
  · unfold sh_heap_New.o at h; split at h
    · rename_i n0; exact sh_heap_New.calls CV n0 hcv h
    · exact h.elim
  · unfold sh_heap_New.q at h; split at h
    · rename_i n0; obtain ⟨r, h1, h2⟩ := h; exact ⟨_, h2, fun w' e => sh_heap_New.calls CV n0 hcv (h1 w' e)⟩
    · exact h.elim
def sh_heap_Heap_may.plan : Plan := (.seq .o (.seq .o .o))
theorem sh_heap_Heap_may.is (CV : CVT) (h0 : Option Addr) (id0 : Int) (w : World) (R : Value → World → Prop) : sh_heap_Heap_may h0 id0 (fun r0 w' => R (.bool r0) w') w = denF (cx_heap_New.with CV) Try.f58 sh_heap_Heap_may.plan [.v (.pointer h0), .v (.int .i64 id0)] w R := by kernel_rfl
theorem sh_heap_Heap_may.calls (CV : CVT) (h0 : Option Addr) (id0 : Int) (hcv : CVOk Try.prog CV) {w : World} {R : Ending → World → Prop} (h : sh_heap_Heap_may h0 id0 (fun r0 w' => R (.returned (.bool r0)) w') w) : Calls Try.prog 58 #[(.pointer h0), (.int .i64 id0)] w R :=
  calls_is (cx := cx_heap_New.with CV) mixed_Try (cx_heap_New.ok.with CV) hcv Try.func58 sh_heap_Heap_may.plan (xs := [.v (.pointer h0), .v (.int .i64 id0)]) ((args_cons _ (args_cons _ args_nil))) (by kernel_rfl) (sh_heap_Heap_may.is CV h0 id0 w (fun v w' => R (.returned v) w')) h
def sh_heap_Heap_may.o : CVT → List X → (Value → World → Prop) → World → Prop
  | CV, [.v (.pointer h0), .v (.int .i64 id0)], K, w => sh_heap_Heap_may h0 id0 (fun r0 w' => K (.bool r0) w') w
  | _, _, _, _ => False
def sh_heap_Heap_may.q : CVT → List X → World → (Value → Prop) → Prop
  | CV, [.v (.pointer h0), .v (.int .i64 id0)], w, K => Quiet (Bool) (fun r => (.bool r)) (fun K1 w' => sh_heap_Heap_may h0 id0 (fun r0 w'' => K1 r0 w'') w') w (fun r => K (.bool r))
  | _, _, _, _ => False
noncomputable def cx_heap_Heap_may : Cx := Cx.add Try.prog cx_heap_New 58 sh_heap_Heap_may.o sh_heap_Heap_may.q
theorem cx_heap_Heap_may.ok : CxOk cx_heap_Heap_may := by
  refine CxOk.add cx_heap_New.ok rfl (fun CV hcv xs K w hx h => ?_) (fun CV hcv xs K w hx h => ?_)
  · unfold sh_heap_Heap_may.o at h; split at h
    · rename_i h0 id0; exact sh_heap_Heap_may.calls CV h0 id0 hcv h
    · exact h.elim
  · unfold sh_heap_Heap_may.q at h; split at h
    · rename_i h0 id0; obtain ⟨r, h1, h2⟩ := h; exact ⟨_, h2, fun w' e => sh_heap_Heap_may.calls CV h0 id0 hcv (h1 w' e)⟩
    · exact h.elim
def sh_heap_queue_lay.plan : Plan := (.seq .o (.seq (.draw [] [.pure, .pure, .pure, .quiet, .pure, .loc, .pure, .big] [0, 1, 2, 3, 4, 5, 6, 7]) (.draw [] [.pure, .pure, .pure, .quiet, .pure, .loc, .pure, .pure, .pure, .big] [0, 1, 2, 3, 4, 5, 6, 7, 8, 9])))
theorem sh_heap_queue_lay.is (CV : CVT) (q0 : Option Addr) (i0 : Int) (e0_id : Int) (e0_key : Int) (w : World) (R : Value → World → Prop) : sh_heap_queue_lay q0 i0 e0_id e0_key (fun w' => R (.tuple #[]) w') w = denF (cx_heap_Heap_may.with CV) Try.f68 sh_heap_queue_lay.plan [.v (.pointer q0), .v (.int .i64 i0), .v (.agg #[(.int .i64 e0_id), (.int .i64 e0_key)])] w R := by kernel_rfl
theorem sh_heap_queue_lay.calls (CV : CVT) (q0 : Option Addr) (i0 : Int) (e0_id : Int) (e0_key : Int) (hcv : CVOk Try.prog CV) {w : World} {R : Ending → World → Prop} (h : sh_heap_queue_lay q0 i0 e0_id e0_key (fun w' => R (.returned (.tuple #[])) w') w) : Calls Try.prog 68 #[(.pointer q0), (.int .i64 i0), (.agg #[(.int .i64 e0_id), (.int .i64 e0_key)])] w R :=
  calls_is (cx := cx_heap_Heap_may.with CV) mixed_Try (cx_heap_Heap_may.ok.with CV) hcv Try.func68 sh_heap_queue_lay.plan (xs := [.v (.pointer q0), .v (.int .i64 i0), .v (.agg #[(.int .i64 e0_id), (.int .i64 e0_key)])]) ((args_cons _ (args_cons _ (args_cons _ args_nil)))) (by kernel_rfl) (sh_heap_queue_lay.is CV q0 i0 e0_id e0_key w (fun v w' => R (.returned v) w')) h
def sh_heap_queue_lay.o : CVT → List X → (Value → World → Prop) → World → Prop
  | CV, [.v (.pointer q0), .v (.int .i64 i0), .v (.agg ⟨[.int .i64 e0_id, .int .i64 e0_key]⟩)], K, w => sh_heap_queue_lay q0 i0 e0_id e0_key (fun w' => K (.tuple #[]) w') w
  | _, _, _, _ => False
def sh_heap_queue_lay.q : CVT → List X → World → (Value → Prop) → Prop
  | CV, [.v (.pointer q0), .v (.int .i64 i0), .v (.agg ⟨[.int .i64 e0_id, .int .i64 e0_key]⟩)], w, K => Quiet (Unit) (fun r => (.tuple #[])) (fun K1 w' => sh_heap_queue_lay q0 i0 e0_id e0_key (fun w'' => K1 () w'') w') w (fun r => K (.tuple #[]))
  | _, _, _, _ => False
noncomputable def cx_heap_queue_lay : Cx := Cx.add Try.prog cx_heap_Heap_may 68 sh_heap_queue_lay.o sh_heap_queue_lay.q
theorem cx_heap_queue_lay.ok : CxOk cx_heap_queue_lay := by
  refine CxOk.add cx_heap_Heap_may.ok rfl (fun CV hcv xs K w hx h => ?_) (fun CV hcv xs K w hx h => ?_)
  · unfold sh_heap_queue_lay.o at h; split at h
    · rename_i q0 i0 e0_id e0_key; exact sh_heap_queue_lay.calls CV q0 i0 e0_id e0_key hcv h
    · exact h.elim
  · unfold sh_heap_queue_lay.q at h; split at h
    · rename_i q0 i0 e0_id e0_key; obtain ⟨r, h1, h2⟩ := h; exact ⟨_, h2, fun w' e => sh_heap_queue_lay.calls CV q0 i0 e0_id e0_key hcv (h1 w' e)⟩
    · exact h.elim
def sh_cmp_isNaN_int.plan : Plan := (.seq .o (.seq .o .o))
theorem sh_cmp_isNaN_int.is (CV : CVT) (x0 : Int) (w : World) (R : Value → World → Prop) : sh_cmp_isNaN_int x0 (fun r0 w' => R (.bool r0) w') w = denF (cx_heap_queue_lay.with CV) Try.f74 sh_cmp_isNaN_int.plan [.v (.int .i64 x0)] w R := by kernel_rfl
theorem sh_cmp_isNaN_int.calls (CV : CVT) (x0 : Int) (hcv : CVOk Try.prog CV) {w : World} {R : Ending → World → Prop} (h : sh_cmp_isNaN_int x0 (fun r0 w' => R (.returned (.bool r0)) w') w) : Calls Try.prog 74 #[(.int .i64 x0)] w R :=
  calls_is (cx := cx_heap_queue_lay.with CV) mixed_Try (cx_heap_queue_lay.ok.with CV) hcv Try.func74 sh_cmp_isNaN_int.plan (xs := [.v (.int .i64 x0)]) ((args_cons _ args_nil)) (by kernel_rfl) (sh_cmp_isNaN_int.is CV x0 w (fun v w' => R (.returned v) w')) h
def sh_cmp_isNaN_int.o : CVT → List X → (Value → World → Prop) → World → Prop
  | CV, [.v (.int .i64 x0)], K, w => sh_cmp_isNaN_int x0 (fun r0 w' => K (.bool r0) w') w
  | _, _, _, _ => False
def sh_cmp_isNaN_int.q : CVT → List X → World → (Value → Prop) → Prop
  | CV, [.v (.int .i64 x0)], w, K => Quiet (Bool) (fun r => (.bool r)) (fun K1 w' => sh_cmp_isNaN_int x0 (fun r0 w'' => K1 r0 w'') w') w (fun r => K (.bool r))
  | _, _, _, _ => False
noncomputable def cx_cmp_isNaN_int : Cx := Cx.add Try.prog cx_heap_queue_lay 74 sh_cmp_isNaN_int.o sh_cmp_isNaN_int.q
theorem cx_cmp_isNaN_int.ok : CxOk cx_cmp_isNaN_int := by
  refine CxOk.add cx_heap_queue_lay.ok rfl (fun CV hcv xs K w hx h => ?_) (fun CV hcv xs K w hx h => ?_)
  · unfold sh_cmp_isNaN_int.o at h; split at h
    · rename_i x0; exact sh_cmp_isNaN_int.calls CV x0 hcv h
    · exact h.elim
  · unfold sh_cmp_isNaN_int.q at h; split at h
    · rename_i x0; obtain ⟨r, h1, h2⟩ := h; exact ⟨_, h2, fun w' e => sh_cmp_isNaN_int.calls CV x0 hcv (h1 w' e)⟩
    · exact h.elim
def sh_cmp_Compare_int.plan : Plan := (.seq .o (.seq .o (.seq .o (.seq (.seq .o (.cond (.seq (.seq .o (.cond (.seq .o .o) .o)) (.seq .o .o)) .o)) (.seq (.seq .o (.cond (.seq .o .o) .o)) (.seq (.seq .o (.cond (.seq .o .o) .o)) (.seq (.seq .o (.cond (.seq .o .o) .o)) (.seq .o .o))))))))
theorem sh_cmp_Compare_int.is (CV : CVT) (x0 : Int) (y0 : Int) (w : World) (R : Value → World → Prop) : sh_cmp_Compare_int x0 y0 (fun r0 w' => R (.int .i64 r0) w') w = denF (cx_cmp_isNaN_int.with CV) Try.f73 sh_cmp_Compare_int.plan [.v (.int .i64 x0), .v (.int .i64 y0)] w R := by kernel_rfl
theorem sh_cmp_Compare_int.calls (CV : CVT) (x0 : Int) (y0 : Int) (hcv : CVOk Try.prog CV) {w : World} {R : Ending → World → Prop} (h : sh_cmp_Compare_int x0 y0 (fun r0 w' => R (.returned (.int .i64 r0)) w') w) : Calls Try.prog 73 #[(.int .i64 x0), (.int .i64 y0)] w R :=
  calls_is (cx := cx_cmp_isNaN_int.with CV) mixed_Try (cx_cmp_isNaN_int.ok.with CV) hcv Try.func73 sh_cmp_Compare_int.plan (xs := [.v (.int .i64 x0), .v (.int .i64 y0)]) ((args_cons _ (args_cons _ args_nil))) (by kernel_rfl) (sh_cmp_Compare_int.is CV x0 y0 w (fun v w' => R (.returned v) w')) h
def sh_cmp_Compare_int.o : CVT → List X → (Value → World → Prop) → World → Prop
  | CV, [.v (.int .i64 x0), .v (.int .i64 y0)], K, w => sh_cmp_Compare_int x0 y0 (fun r0 w' => K (.int .i64 r0) w') w
  | _, _, _, _ => False
def sh_cmp_Compare_int.q : CVT → List X → World → (Value → Prop) → Prop
  | CV, [.v (.int .i64 x0), .v (.int .i64 y0)], w, K => Quiet (Int) (fun r => (.int .i64 r)) (fun K1 w' => sh_cmp_Compare_int x0 y0 (fun r0 w'' => K1 r0 w'') w') w (fun r => K (.int .i64 r))
  | _, _, _, _ => False
noncomputable def cx_cmp_Compare_int : Cx := Cx.add Try.prog cx_cmp_isNaN_int 73 sh_cmp_Compare_int.o sh_cmp_Compare_int.q
theorem cx_cmp_Compare_int.ok : CxOk cx_cmp_Compare_int := by
  refine CxOk.add cx_cmp_isNaN_int.ok rfl (fun CV hcv xs K w hx h => ?_) (fun CV hcv xs K w hx h => ?_)
  · unfold sh_cmp_Compare_int.o at h; split at h
    · rename_i x0 y0; exact sh_cmp_Compare_int.calls CV x0 y0 hcv h
    · exact h.elim
  · unfold sh_cmp_Compare_int.q at h; split at h
    · rename_i x0 y0; obtain ⟨r, h1, h2⟩ := h; exact ⟨_, h2, fun w' e => sh_cmp_Compare_int.calls CV x0 y0 hcv (h1 w' e)⟩
    · exact h.elim
def sh_cmp_Or_int.plan : Plan := (.seq .o (.seq .o (.seq (.seq .o (.block (.loop [.slot 8 (.int .i64)] [] (.seq .o (.seq (.cond .o .o) (.seq (.block (.seq .o (.seq .o (.cond (.seq .o .o) .o)))) .o)))))) (.seq .o .o))))
theorem sh_cmp_Or_int.is (CV : CVT) (vals0 : SV) (w : World) (R : Value → World → Prop) : sh_cmp_Or_int vals0 (fun r0 w' => R (.int .i64 r0) w') w = denF (cx_cmp_Compare_int.with CV) Try.f72 sh_cmp_Or_int.plan [.v (.slice vals0.a vals0.len vals0.cap)] w R := by kernel_rfl
theorem sh_cmp_Or_int.calls (CV : CVT) (vals0 : SV) (hcv : CVOk Try.prog CV) {w : World} {R : Ending → World → Prop} (h : sh_cmp_Or_int vals0 (fun r0 w' => R (.returned (.int .i64 r0)) w') w) : Calls Try.prog 72 #[(.slice vals0.a vals0.len vals0.cap)] w R :=
  calls_is (cx := cx_cmp_Compare_int.with CV) mixed_Try (cx_cmp_Compare_int.ok.with CV) hcv Try.func72 sh_cmp_Or_int.plan (xs := [.v (.slice vals0.a vals0.len vals0.cap)]) ((args_cons _ args_nil)) (by kernel_rfl) (sh_cmp_Or_int.is CV vals0 w (fun v w' => R (.returned v) w')) h
def sh_cmp_Or_int.o : CVT → List X → (Value → World → Prop) → World → Prop
  | CV, [.v (.slice vals0_a vals0_l vals0_c)], K, w => sh_cmp_Or_int ⟨vals0_a, vals0_l, vals0_c⟩ (fun r0 w' => K (.int .i64 r0) w') w
  | _, _, _, _ => False
def sh_cmp_Or_int.q : CVT → List X → World → (Value → Prop) → Prop
  | CV, [.v (.slice vals0_a vals0_l vals0_c)], w, K => Quiet (Int) (fun r => (.int .i64 r)) (fun K1 w' => sh_cmp_Or_int ⟨vals0_a, vals0_l, vals0_c⟩ (fun r0 w'' => K1 r0 w'') w') w (fun r => K (.int .i64 r))
  | _, _, _, _ => False
noncomputable def cx_cmp_Or_int : Cx := Cx.add Try.prog cx_cmp_Compare_int 72 sh_cmp_Or_int.o sh_cmp_Or_int.q
theorem cx_cmp_Or_int.ok : CxOk cx_cmp_Or_int := by
  refine CxOk.add cx_cmp_Compare_int.ok rfl (fun CV hcv xs K w hx h => ?_) (fun CV hcv xs K w hx h => ?_)
  · unfold sh_cmp_Or_int.o at h; split at h
    · rename_i vals0_a vals0_l vals0_c; exact sh_cmp_Or_int.calls CV ⟨vals0_a, vals0_l, vals0_c⟩ hcv h
    · exact h.elim
  · unfold sh_cmp_Or_int.q at h; split at h
    · rename_i vals0_a vals0_l vals0_c; obtain ⟨r, h1, h2⟩ := h; exact ⟨_, h2, fun w' e => sh_cmp_Or_int.calls CV ⟨vals0_a, vals0_l, vals0_c⟩ hcv (h1 w' e)⟩
    · exact h.elim
def sh_heap_entry_before.plan : Plan := (.seq .o (.seq (.draw [] [.pure, .loc, .pure, .loc, .quiet, .pure, .loc, .pure, .loc, .quiet, .new, .quiet, .pure, .pure] [0, 1, 2, 3, 4, 5, 6, 7, 8, 9, 10, 11, 12, 13]) .o))
theorem sh_heap_entry_before.is (CV : CVT) (e0_id : Int) (e0_key : Int) (f0_id : Int) (f0_key : Int) (w : World) (R : Value → World → Prop) : sh_heap_entry_before e0_id e0_key f0_id f0_key (fun r0 w' => R (.bool r0) w') w = denF (cx_cmp_Or_int.with CV) Try.f71 sh_heap_entry_before.plan [.v (.agg #[(.int .i64 e0_id), (.int .i64 e0_key)]), .v (.agg #[(.int .i64 f0_id), (.int .i64 f0_key)])] w R := by kernel_rfl
theorem sh_heap_entry_before.calls (CV : CVT) (e0_id : Int) (e0_key : Int) (f0_id : Int) (f0_key : Int) (hcv : CVOk Try.prog CV) {w : World} {R : Ending → World → Prop} (h : sh_heap_entry_before e0_id e0_key f0_id f0_key (fun r0 w' => R (.returned (.bool r0)) w') w) : Calls Try.prog 71 #[(.agg #[(.int .i64 e0_id), (.int .i64 e0_key)]), (.agg #[(.int .i64 f0_id), (.int .i64 f0_key)])] w R :=
  calls_is (cx := cx_cmp_Or_int.with CV) mixed_Try (cx_cmp_Or_int.ok.with CV) hcv Try.func71 sh_heap_entry_before.plan (xs := [.v (.agg #[(.int .i64 e0_id), (.int .i64 e0_key)]), .v (.agg #[(.int .i64 f0_id), (.int .i64 f0_key)])]) ((args_cons _ (args_cons _ args_nil))) (by kernel_rfl) (sh_heap_entry_before.is CV e0_id e0_key f0_id f0_key w (fun v w' => R (.returned v) w')) h
def sh_heap_entry_before.o : CVT → List X → (Value → World → Prop) → World → Prop
  | CV, [.v (.agg ⟨[.int .i64 e0_id, .int .i64 e0_key]⟩), .v (.agg ⟨[.int .i64 f0_id, .int .i64 f0_key]⟩)], K, w => sh_heap_entry_before e0_id e0_key f0_id f0_key (fun r0 w' => K (.bool r0) w') w
  | _, _, _, _ => False
def sh_heap_entry_before.q : CVT → List X → World → (Value → Prop) → Prop
  | CV, [.v (.agg ⟨[.int .i64 e0_id, .int .i64 e0_key]⟩), .v (.agg ⟨[.int .i64 f0_id, .int .i64 f0_key]⟩)], w, K => Quiet (Bool) (fun r => (.bool r)) (fun K1 w' => sh_heap_entry_before e0_id e0_key f0_id f0_key (fun r0 w'' => K1 r0 w'') w') w (fun r => K (.bool r))
  | _, _, _, _ => False
noncomputable def cx_heap_entry_before : Cx := Cx.add Try.prog cx_cmp_Or_int 71 sh_heap_entry_before.o sh_heap_entry_before.q
theorem cx_heap_entry_before.ok : CxOk cx_heap_entry_before := by
  refine CxOk.add cx_cmp_Or_int.ok rfl (fun CV hcv xs K w hx h => ?_) (fun CV hcv xs K w hx h => ?_)
  · unfold sh_heap_entry_before.o at h; split at h
    · rename_i e0_id e0_key f0_id f0_key; exact sh_heap_entry_before.calls CV e0_id e0_key f0_id f0_key hcv h
    · exact h.elim
  · unfold sh_heap_entry_before.q at h; split at h
    · rename_i e0_id e0_key f0_id f0_key; obtain ⟨r, h1, h2⟩ := h; exact ⟨_, h2, fun w' e => sh_heap_entry_before.calls CV e0_id e0_key f0_id f0_key hcv (h1 w' e)⟩
    · exact h.elim
def sh_heap_queue_sink.plan : Plan := (.scope (.seq .o (.seq .o (.join [.slot 1 (.int .i64)] [] (.block (.loop [.slot 1 (.int .i64)] [] (.block (.seq .o (.join [.slot 5 (.int .i64)] [] (.seq (.draw [] [.pure, .pure, .pure, .pure, .pure, .quiet, .pure, .pure, .pure, .pure, .pure, .pure, .quiet, .pure, .pure, .pure, .quiet, .pure, .pure, .pure, .quiet, .pure, .pure, .quiet, .quiet, .pure] [0, 1, 2, 3, 4, 5, 6, 7, 8, 9, 10, 11, 12, 13, 14, 15, 16, 17, 18, 19, 20, 21, 22, 23, 24, 25]) (.cond .o .o)) (.seq (.seq (.draw [] [.pure, .pure, .pure, .pure, .quiet, .pure, .pure, .pure, .loc, .pure, .pure, .pure, .quiet, .pure, .pure, .quiet, .quiet, .pure] [0, 1, 2, 3, 4, 5, 6, 7, 8, 9, 10, 11, 12, 13, 14, 15, 16, 17]) (.cond .o .o)) (.seq .o .o))))))) .o))))
theorem sh_heap_queue_sink.is (CV : CVT) (q0 : Option Addr) (i0 : Int) (w : World) (R : Value → World → Prop) : sh_heap_queue_sink q0 i0 (fun w' => R (.tuple #[]) w') w = denF (cx_heap_entry_before.with CV) Try.f69 sh_heap_queue_sink.plan [.v (.pointer q0), .v (.int .i64 i0)] w R := by kernel_rfl
theorem sh_heap_queue_sink.calls (CV : CVT) (q0 : Option Addr) (i0 : Int) (hcv : CVOk Try.prog CV) {w : World} {R : Ending → World → Prop} (h : sh_heap_queue_sink q0 i0 (fun w' => R (.returned (.tuple #[])) w') w) : Calls Try.prog 69 #[(.pointer q0), (.int .i64 i0)] w R :=
  calls_is (cx := cx_heap_entry_before.with CV) mixed_Try (cx_heap_entry_before.ok.with CV) hcv Try.func69 sh_heap_queue_sink.plan (xs := [.v (.pointer q0), .v (.int .i64 i0)]) ((args_cons _ (args_cons _ args_nil))) (by kernel_rfl) (sh_heap_queue_sink.is CV q0 i0 w (fun v w' => R (.returned v) w')) h
def sh_heap_queue_sink.o : CVT → List X → (Value → World → Prop) → World → Prop
  | CV, [.v (.pointer q0), .v (.int .i64 i0)], K, w => sh_heap_queue_sink q0 i0 (fun w' => K (.tuple #[]) w') w
  | _, _, _, _ => False
def sh_heap_queue_sink.q : CVT → List X → World → (Value → Prop) → Prop
  | CV, [.v (.pointer q0), .v (.int .i64 i0)], w, K => Quiet (Unit) (fun r => (.tuple #[])) (fun K1 w' => sh_heap_queue_sink q0 i0 (fun w'' => K1 () w'') w') w (fun r => K (.tuple #[]))
  | _, _, _, _ => False
noncomputable def cx_heap_queue_sink : Cx := Cx.add Try.prog cx_heap_entry_before 69 sh_heap_queue_sink.o sh_heap_queue_sink.q
theorem cx_heap_queue_sink.ok : CxOk cx_heap_queue_sink := by
  refine CxOk.add cx_heap_entry_before.ok rfl (fun CV hcv xs K w hx h => ?_) (fun CV hcv xs K w hx h => ?_)
  · unfold sh_heap_queue_sink.o at h; split at h
    · rename_i q0 i0; exact sh_heap_queue_sink.calls CV q0 i0 hcv h
    · exact h.elim
  · unfold sh_heap_queue_sink.q at h; split at h
    · rename_i q0 i0; obtain ⟨r, h1, h2⟩ := h; exact ⟨_, h2, fun w' e => sh_heap_queue_sink.calls CV q0 i0 hcv (h1 w' e)⟩
    · exact h.elim
def sh_heap_queue_rise.plan : Plan := (.seq .o (.join [.slot 1 (.int .i64)] [] (.block (.loop [.slot 1 (.int .i64)] [] (.seq (.seq (.draw [] [.pure, .pure, .pure, .loc, .pure, .pure, .pure, .quiet, .pure, .pure, .pure, .pure, .quiet, .quiet, .pure] [0, 1, 2, 3, 4, 5, 6, 7, 8, 9, 10, 11, 12, 13, 14]) (.cond .o .o)) (.block (.seq .o .o))))) .o))
theorem sh_heap_queue_rise.is (CV : CVT) (q0 : Option Addr) (i0 : Int) (w : World) (R : Value → World → Prop) : sh_heap_queue_rise q0 i0 (fun w' => R (.tuple #[]) w') w = denF (cx_heap_queue_sink.with CV) Try.f70 sh_heap_queue_rise.plan [.v (.pointer q0), .v (.int .i64 i0)] w R := by kernel_rfl
theorem sh_heap_queue_rise.calls (CV : CVT) (q0 : Option Addr) (i0 : Int) (hcv : CVOk Try.prog CV) {w : World} {R : Ending → World → Prop} (h : sh_heap_queue_rise q0 i0 (fun w' => R (.returned (.tuple #[])) w') w) : Calls Try.prog 70 #[(.pointer q0), (.int .i64 i0)] w R :=
  calls_is (cx := cx_heap_queue_sink.with CV) mixed_Try (cx_heap_queue_sink.ok.with CV) hcv Try.func70 sh_heap_queue_rise.plan (xs := [.v (.pointer q0), .v (.int .i64 i0)]) ((args_cons _ (args_cons _ args_nil))) (by kernel_rfl) (sh_heap_queue_rise.is CV q0 i0 w (fun v w' => R (.returned v) w')) h
def sh_heap_queue_rise.o : CVT → List X → (Value → World → Prop) → World → Prop
  | CV, [.v (.pointer q0), .v (.int .i64 i0)], K, w => sh_heap_queue_rise q0 i0 (fun w' => K (.tuple #[]) w') w
  | _, _, _, _ => False
def sh_heap_queue_rise.q : CVT → List X → World → (Value → Prop) → Prop
  | CV, [.v (.pointer q0), .v (.int .i64 i0)], w, K => Quiet (Unit) (fun r => (.tuple #[])) (fun K1 w' => sh_heap_queue_rise q0 i0 (fun w'' => K1 () w'') w') w (fun r => K (.tuple #[]))
  | _, _, _, _ => False
noncomputable def cx_heap_queue_rise : Cx := Cx.add Try.prog cx_heap_queue_sink 70 sh_heap_queue_rise.o sh_heap_queue_rise.q
theorem cx_heap_queue_rise.ok : CxOk cx_heap_queue_rise := by
  refine CxOk.add cx_heap_queue_sink.ok rfl (fun CV hcv xs K w hx h => ?_) (fun CV hcv xs K w hx h => ?_)
  · unfold sh_heap_queue_rise.o at h; split at h
    · rename_i q0 i0; exact sh_heap_queue_rise.calls CV q0 i0 hcv h
    · exact h.elim
  · unfold sh_heap_queue_rise.q at h; split at h
    · rename_i q0 i0; obtain ⟨r, h1, h2⟩ := h; exact ⟨_, h2, fun w' e => sh_heap_queue_rise.calls CV q0 i0 hcv (h1 w' e)⟩
    · exact h.elim
def sh_heap_queue_put.plan : Plan := (.seq .o (.join [.slot 6 (.int .i64)] [] (.seq .o (.cond (.seq .o .o) .o)) (.seq .o (.seq .o .o))))
theorem sh_heap_queue_put.is (CV : CVT) (q0 : Option Addr) (id0 : Int) (key0 : Int) (w : World) (R : Value → World → Prop) : sh_heap_queue_put q0 id0 key0 (fun w' => R (.tuple #[]) w') w = denF (cx_heap_queue_rise.with CV) Try.f59 sh_heap_queue_put.plan [.v (.pointer q0), .v (.int .i64 id0), .v (.int .i64 key0)] w R := by kernel_rfl
theorem sh_heap_queue_put.calls (CV : CVT) (q0 : Option Addr) (id0 : Int) (key0 : Int) (hcv : CVOk Try.prog CV) {w : World} {R : Ending → World → Prop} (h : sh_heap_queue_put q0 id0 key0 (fun w' => R (.returned (.tuple #[])) w') w) : Calls Try.prog 59 #[(.pointer q0), (.int .i64 id0), (.int .i64 key0)] w R :=
  calls_is (cx := cx_heap_queue_rise.with CV) mixed_Try (cx_heap_queue_rise.ok.with CV) hcv Try.func59 sh_heap_queue_put.plan (xs := [.v (.pointer q0), .v (.int .i64 id0), .v (.int .i64 key0)]) ((args_cons _ (args_cons _ (args_cons _ args_nil)))) (by kernel_rfl) (sh_heap_queue_put.is CV q0 id0 key0 w (fun v w' => R (.returned v) w')) h
def sh_heap_queue_put.o : CVT → List X → (Value → World → Prop) → World → Prop
  | CV, [.v (.pointer q0), .v (.int .i64 id0), .v (.int .i64 key0)], K, w => sh_heap_queue_put q0 id0 key0 (fun w' => K (.tuple #[]) w') w
  | _, _, _, _ => False
def sh_heap_queue_put.q : CVT → List X → World → (Value → Prop) → Prop
  | CV, [.v (.pointer q0), .v (.int .i64 id0), .v (.int .i64 key0)], w, K => Quiet (Unit) (fun r => (.tuple #[])) (fun K1 w' => sh_heap_queue_put q0 id0 key0 (fun w'' => K1 () w'') w') w (fun r => K (.tuple #[]))
  | _, _, _, _ => False
noncomputable def cx_heap_queue_put : Cx := Cx.add Try.prog cx_heap_queue_rise 59 sh_heap_queue_put.o sh_heap_queue_put.q
theorem cx_heap_queue_put.ok : CxOk cx_heap_queue_put := by
  refine CxOk.add cx_heap_queue_rise.ok rfl (fun CV hcv xs K w hx h => ?_) (fun CV hcv xs K w hx h => ?_)
  · unfold sh_heap_queue_put.o at h; split at h
    · rename_i q0 id0 key0; exact sh_heap_queue_put.calls CV q0 id0 key0 hcv h
    · exact h.elim
  · unfold sh_heap_queue_put.q at h; split at h
    · rename_i q0 id0 key0; obtain ⟨r, h1, h2⟩ := h; exact ⟨_, h2, fun w' e => sh_heap_queue_put.calls CV q0 id0 key0 hcv (h1 w' e)⟩
    · exact h.elim
def sh_heap_Heap_Set.plan : Plan := (.seq .o (.seq (.seq .o (.cond (.seq .o .o) .o)) (.seq .o (.seq .o .o))))
theorem sh_heap_Heap_Set.is (CV : CVT) (h0 : Option Addr) (id0 : Int) (key0 : Int) (w : World) (R : Value → World → Prop) : sh_heap_Heap_Set h0 id0 key0 (fun r0 w' => R (.bool r0) w') w = denF (cx_heap_queue_put.with CV) Try.f29 sh_heap_Heap_Set.plan [.v (.pointer h0), .v (.int .i64 id0), .v (.int .i64 key0)] w R := by kernel_rfl
theorem sh_heap_Heap_Set.calls (CV : CVT) (h0 : Option Addr) (id0 : Int) (key0 : Int) (hcv : CVOk Try.prog CV) {w : World} {R : Ending → World → Prop} (h : sh_heap_Heap_Set h0 id0 key0 (fun r0 w' => R (.returned (.bool r0)) w') w) : Calls Try.prog 29 #[(.pointer h0), (.int .i64 id0), (.int .i64 key0)] w R :=
  calls_is (cx := cx_heap_queue_put.with CV) mixed_Try (cx_heap_queue_put.ok.with CV) hcv Try.func29 sh_heap_Heap_Set.plan (xs := [.v (.pointer h0), .v (.int .i64 id0), .v (.int .i64 key0)]) ((args_cons _ (args_cons _ (args_cons _ args_nil)))) (by kernel_rfl) (sh_heap_Heap_Set.is CV h0 id0 key0 w (fun v w' => R (.returned v) w')) h
def sh_heap_Heap_Set.o : CVT → List X → (Value → World → Prop) → World → Prop
  | CV, [.v (.pointer h0), .v (.int .i64 id0), .v (.int .i64 key0)], K, w => sh_heap_Heap_Set h0 id0 key0 (fun r0 w' => K (.bool r0) w') w
  | _, _, _, _ => False
def sh_heap_Heap_Set.q : CVT → List X → World → (Value → Prop) → Prop
  | CV, [.v (.pointer h0), .v (.int .i64 id0), .v (.int .i64 key0)], w, K => Quiet (Bool) (fun r => (.bool r)) (fun K1 w' => sh_heap_Heap_Set h0 id0 key0 (fun r0 w'' => K1 r0 w'') w') w (fun r => K (.bool r))
  | _, _, _, _ => False
noncomputable def cx_heap_Heap_Set : Cx := Cx.add Try.prog cx_heap_queue_put 29 sh_heap_Heap_Set.o sh_heap_Heap_Set.q
theorem cx_heap_Heap_Set.ok : CxOk cx_heap_Heap_Set := by
  refine CxOk.add cx_heap_queue_put.ok rfl (fun CV hcv xs K w hx h => ?_) (fun CV hcv xs K w hx h => ?_)
  · unfold sh_heap_Heap_Set.o at h; split at h
    · rename_i h0 id0 key0; exact sh_heap_Heap_Set.calls CV h0 id0 key0 hcv h
    · exact h.elim
  · unfold sh_heap_Heap_Set.q at h; split at h
    · rename_i h0 id0 key0; obtain ⟨r, h1, h2⟩ := h; exact ⟨_, h2, fun w' e => sh_heap_Heap_Set.calls CV h0 id0 key0 hcv (h1 w' e)⟩
    · exact h.elim
def sh_heap_Heap_Len.plan : Plan := (.seq .o (.seq (.seq .o (.cond (.seq .o .o) .o)) (.seq .o .o)))
theorem sh_heap_Heap_Len.is (CV : CVT) (h0 : Option Addr) (w : World) (R : Value → World → Prop) : sh_heap_Heap_Len h0 (fun r0 w' => R (.int .i64 r0) w') w = denF (cx_heap_Heap_Set.with CV) Try.f31 sh_heap_Heap_Len.plan [.v (.pointer h0)] w R := by kernel_rfl
theorem sh_heap_Heap_Len.calls (CV : CVT) (h0 : Option Addr) (hcv : CVOk Try.prog CV) {w : World} {R : Ending → World → Prop} (h : sh_heap_Heap_Len h0 (fun r0 w' => R (.returned (.int .i64 r0)) w') w) : Calls Try.prog 31 #[(.pointer h0)] w R :=
  calls_is (cx := cx_heap_Heap_Set.with CV) mixed_Try (cx_heap_Heap_Set.ok.with CV) hcv Try.func31 sh_heap_Heap_Len.plan (xs := [.v (.pointer h0)]) ((args_cons _ args_nil)) (by kernel_rfl) (sh_heap_Heap_Len.is CV h0 w (fun v w' => R (.returned v) w')) h
def sh_heap_Heap_Len.o : CVT → List X → (Value → World → Prop) → World → Prop
  | CV, [.v (.pointer h0)], K, w => sh_heap_Heap_Len h0 (fun r0 w' => K (.int .i64 r0) w') w
  | _, _, _, _ => False
def sh_heap_Heap_Len.q : CVT → List X → World → (Value → Prop) → Prop
  | CV, [.v (.pointer h0)], w, K => Quiet (Int) (fun r => (.int .i64 r)) (fun K1 w' => sh_heap_Heap_Len h0 (fun r0 w'' => K1 r0 w'') w') w (fun r => K (.int .i64 r))
  | _, _, _, _ => False
noncomputable def cx_heap_Heap_Len : Cx := Cx.add Try.prog cx_heap_Heap_Set 31 sh_heap_Heap_Len.o sh_heap_Heap_Len.q
theorem cx_heap_Heap_Len.ok : CxOk cx_heap_Heap_Len := by
  refine CxOk.add cx_heap_Heap_Set.ok rfl (fun CV hcv xs K w hx h => ?_) (fun CV hcv xs K w hx h => ?_)
  · unfold sh_heap_Heap_Len.o at h; split at h
    · rename_i h0; exact sh_heap_Heap_Len.calls CV h0 hcv h
    · exact h.elim
  · unfold sh_heap_Heap_Len.q at h; split at h
    · rename_i h0; obtain ⟨r, h1, h2⟩ := h; exact ⟨_, h2, fun w' e => sh_heap_Heap_Len.calls CV h0 hcv (h1 w' e)⟩
    · exact h.elim
def sh_heap_Heap_First.plan : Plan := (.seq .o (.seq (.seq .o (.cond (.seq .o .o) .o)) (.seq (.draw [] [.pure, .pure, .pure, .pure, .quiet, .pure, .pure, .quiet, .pure, .pure, .pure, .pure, .quiet, .pure, .pure, .quiet, .pure, .pure, .pure] [0, 1, 2, 3, 4, 5, 6, 7, 8, 9, 10, 11, 12, 13, 14, 15, 16, 17, 18]) .o)))
theorem sh_heap_Heap_First.is (CV : CVT) (h0 : Option Addr) (w : World) (R : Value → World → Prop) : sh_heap_Heap_First h0 (fun r0 r1 r2 w' => R (.tuple #[(.int .i64 r0), (.int .i64 r1), (.bool r2)]) w') w = denF (cx_heap_Heap_Len.with CV) Try.f36 sh_heap_Heap_First.plan [.v (.pointer h0)] w R := by kernel_rfl
theorem sh_heap_Heap_First.calls (CV : CVT) (h0 : Option Addr) (hcv : CVOk Try.prog CV) {w : World} {R : Ending → World → Prop} (h : sh_heap_Heap_First h0 (fun r0 r1 r2 w' => R (.returned (.tuple #[(.int .i64 r0), (.int .i64 r1), (.bool r2)])) w') w) : Calls Try.prog 36 #[(.pointer h0)] w R :=
  calls_is (cx := cx_heap_Heap_Len.with CV) mixed_Try (cx_heap_Heap_Len.ok.with CV) hcv Try.func36 sh_heap_Heap_First.plan (xs := [.v (.pointer h0)]) ((args_cons _ args_nil)) (by kernel_rfl) (sh_heap_Heap_First.is CV h0 w (fun v w' => R (.returned v) w')) h
def sh_heap_Heap_First.o : CVT → List X → (Value → World → Prop) → World → Prop
  | CV, [.v (.pointer h0)], K, w => sh_heap_Heap_First h0 (fun r0 r1 r2 w' => K (.tuple #[(.int .i64 r0), (.int .i64 r1), (.bool r2)]) w') w
  | _, _, _, _ => False
def sh_heap_Heap_First.q : CVT → List X → World → (Value → Prop) → Prop
  | CV, [.v (.pointer h0)], w, K => Quiet (Int × Int × Bool) (fun r => (.tuple #[(.int .i64 r.1), (.int .i64 r.2.1), (.bool r.2.2)])) (fun K1 w' => sh_heap_Heap_First h0 (fun r0 r1 r2 w'' => K1 (r0, r1, r2) w'') w') w (fun r => K (.tuple #[(.int .i64 r.1), (.int .i64 r.2.1), (.bool r.2.2)]))
  | _, _, _, _ => False
noncomputable def cx_heap_Heap_First : Cx := Cx.add Try.prog cx_heap_Heap_Len 36 sh_heap_Heap_First.o sh_heap_Heap_First.q
theorem cx_heap_Heap_First.ok : CxOk cx_heap_Heap_First := by
  refine CxOk.add cx_heap_Heap_Len.ok rfl (fun CV hcv xs K w hx h => ?_) (fun CV hcv xs K w hx h => ?_)
  · unfold sh_heap_Heap_First.o at h; split at h
    · rename_i h0; exact sh_heap_Heap_First.calls CV h0 hcv h
    · exact h.elim
  · unfold sh_heap_Heap_First.q at h; split at h
    · rename_i h0; obtain ⟨r, h1, h2⟩ := h; exact ⟨_, h2, fun w' e => sh_heap_Heap_First.calls CV h0 hcv (h1 w' e)⟩
    · exact h.elim
def sh_heap_queue_drop.plan : Plan := (.seq (.draw [] [.pure, .pure, .pure, .quiet, .pure, .pure, .quiet, .pure, .pure, .pure, .pure, .quiet, .pure, .pure, .pure, .pure] [0, 1, 2, 3, 4, 5, 6, 7, 8, 9, 10, 11, 12, 13, 14, 15]) (.seq .o (.seq (.draw [] [.pure, .pure, .pure, .pure, .quiet, .pure, .pure, .pure, .pure, .quiet, .pure, .pure, .pure, .pure, .big, .pure, .big] [0, 1, 2, 3, 4, 5, 6, 7, 8, 9, 10, 11, 12, 13, 14, 15, 16]) (.seq (.seq .o (.cond .o .o)) (.seq .o (.seq .o (.draw [] [.pure, .pure, .pure, .pure, .quiet, .pure, .loc, .pure, .quiet, .pure, .big] [0, 1, 2, 3, 4, 5, 6, 7, 8, 9, 10])))))))
theorem sh_heap_queue_drop.is (CV : CVT) (q0 : Option Addr) (id0 : Int) (w : World) (R : Value → World → Prop) : sh_heap_queue_drop q0 id0 (fun w' => R (.tuple #[]) w') w = denF (cx_heap_Heap_First.with CV) Try.f60 sh_heap_queue_drop.plan [.v (.pointer q0), .v (.int .i64 id0)] w R := by kernel_rfl
theorem sh_heap_queue_drop.calls (CV : CVT) (q0 : Option Addr) (id0 : Int) (hcv : CVOk Try.prog CV) {w : World} {R : Ending → World → Prop} (h : sh_heap_queue_drop q0 id0 (fun w' => R (.returned (.tuple #[])) w') w) : Calls Try.prog 60 #[(.pointer q0), (.int .i64 id0)] w R :=
  calls_is (cx := cx_heap_Heap_First.with CV) mixed_Try (cx_heap_Heap_First.ok.with CV) hcv Try.func60 sh_heap_queue_drop.plan (xs := [.v (.pointer q0), .v (.int .i64 id0)]) ((args_cons _ (args_cons _ args_nil))) (by kernel_rfl) (sh_heap_queue_drop.is CV q0 id0 w (fun v w' => R (.returned v) w')) h
def sh_heap_queue_drop.o : CVT → List X → (Value → World → Prop) → World → Prop
  | CV, [.v (.pointer q0), .v (.int .i64 id0)], K, w => sh_heap_queue_drop q0 id0 (fun w' => K (.tuple #[]) w') w
  | _, _, _, _ => False
def sh_heap_queue_drop.q : CVT → List X → World → (Value → Prop) → Prop
  | CV, [.v (.pointer q0), .v (.int .i64 id0)], w, K => Quiet (Unit) (fun r => (.tuple #[])) (fun K1 w' => sh_heap_queue_drop q0 id0 (fun w'' => K1 () w'') w') w (fun r => K (.tuple #[]))
  | _, _, _, _ => False
noncomputable def cx_heap_queue_drop : Cx := Cx.add Try.prog cx_heap_Heap_First 60 sh_heap_queue_drop.o sh_heap_queue_drop.q
theorem cx_heap_queue_drop.ok : CxOk cx_heap_queue_drop := by
  refine CxOk.add cx_heap_Heap_First.ok rfl (fun CV hcv xs K w hx h => ?_) (fun CV hcv xs K w hx h => ?_)
  · unfold sh_heap_queue_drop.o at h; split at h
    · rename_i q0 id0; exact sh_heap_queue_drop.calls CV q0 id0 hcv h
    · exact h.elim
  · unfold sh_heap_queue_drop.q at h; split at h
    · rename_i q0 id0; obtain ⟨r, h1, h2⟩ := h; exact ⟨_, h2, fun w' e => sh_heap_queue_drop.calls CV q0 id0 hcv (h1 w' e)⟩
    · exact h.elim
def sh_heap_Heap_Pop.plan : Plan := (.seq .o (.seq .o (.join [] [] (.seq .o (.cond .o .o)) (.seq .o .o))))
theorem sh_heap_Heap_Pop.is (CV : CVT) (h0 : Option Addr) (w : World) (R : Value → World → Prop) : sh_heap_Heap_Pop h0 (fun r0 r1 r2 w' => R (.tuple #[(.int .i64 r0), (.int .i64 r1), (.bool r2)]) w') w = denF (cx_heap_queue_drop.with CV) Try.f30 sh_heap_Heap_Pop.plan [.v (.pointer h0)] w R := by kernel_rfl
theorem sh_heap_Heap_Pop.calls (CV : CVT) (h0 : Option Addr) (hcv : CVOk Try.prog CV) {w : World} {R : Ending → World → Prop} (h : sh_heap_Heap_Pop h0 (fun r0 r1 r2 w' => R (.returned (.tuple #[(.int .i64 r0), (.int .i64 r1), (.bool r2)])) w') w) : Calls Try.prog 30 #[(.pointer h0)] w R :=
  calls_is (cx := cx_heap_queue_drop.with CV) mixed_Try (cx_heap_queue_drop.ok.with CV) hcv Try.func30 sh_heap_Heap_Pop.plan (xs := [.v (.pointer h0)]) ((args_cons _ args_nil)) (by kernel_rfl) (sh_heap_Heap_Pop.is CV h0 w (fun v w' => R (.returned v) w')) h
def sh_heap_Heap_Pop.o : CVT → List X → (Value → World → Prop) → World → Prop
  | CV, [.v (.pointer h0)], K, w => sh_heap_Heap_Pop h0 (fun r0 r1 r2 w' => K (.tuple #[(.int .i64 r0), (.int .i64 r1), (.bool r2)]) w') w
  | _, _, _, _ => False
def sh_heap_Heap_Pop.q : CVT → List X → World → (Value → Prop) → Prop
  | CV, [.v (.pointer h0)], w, K => Quiet (Int × Int × Bool) (fun r => (.tuple #[(.int .i64 r.1), (.int .i64 r.2.1), (.bool r.2.2)])) (fun K1 w' => sh_heap_Heap_Pop h0 (fun r0 r1 r2 w'' => K1 (r0, r1, r2) w'') w') w (fun r => K (.tuple #[(.int .i64 r.1), (.int .i64 r.2.1), (.bool r.2.2)]))
  | _, _, _, _ => False
noncomputable def cx_heap_Heap_Pop : Cx := Cx.add Try.prog cx_heap_queue_drop 30 sh_heap_Heap_Pop.o sh_heap_Heap_Pop.q
theorem cx_heap_Heap_Pop.ok : CxOk cx_heap_Heap_Pop := by
  refine CxOk.add cx_heap_queue_drop.ok rfl (fun CV hcv xs K w hx h => ?_) (fun CV hcv xs K w hx h => ?_)
  · unfold sh_heap_Heap_Pop.o at h; split at h
    · rename_i h0; exact sh_heap_Heap_Pop.calls CV h0 hcv h
    · exact h.elim
  · unfold sh_heap_Heap_Pop.q at h; split at h
    · rename_i h0; obtain ⟨r, h1, h2⟩ := h; exact ⟨_, h2, fun w' e => sh_heap_Heap_Pop.calls CV h0 hcv (h1 w' e)⟩
    · exact h.elim
def sh_postroadlaw03_known.plan : Plan := (.seq .o (.seq .o (.seq .o (.seq .o (.seq .o (.seq .o (.seq .o (.seq .o .o))))))))
theorem sh_postroadlaw03_known.is (CV : CVT) (w : World) (R : Value → World → Prop) : sh_postroadlaw03_known  (fun r0 w' => R (.bool r0) w') w = denF (cx_heap_Heap_Pop.with CV) Try.f27 sh_postroadlaw03_known.plan [] w R := by kernel_rfl
theorem sh_postroadlaw03_known.calls (CV : CVT) (hcv : CVOk Try.prog CV) {w : World} {R : Ending → World → Prop} (h : sh_postroadlaw03_known  (fun r0 w' => R (.returned (.bool r0)) w') w) : Calls Try.prog 27 #[] w R :=
  calls_is (cx := cx_heap_Heap_Pop.with CV) mixed_Try (cx_heap_Heap_Pop.ok.with CV) hcv Try.func27 sh_postroadlaw03_known.plan (xs := []) (args_nil) (by kernel_rfl) (sh_postroadlaw03_known.is CV w (fun v w' => R (.returned v) w')) h
def sh_postroadlaw03_known.o : CVT → List X → (Value → World → Prop) → World → Prop
  | CV, [], K, w => sh_postroadlaw03_known  (fun r0 w' => K (.bool r0) w') w
  | _, _, _, _ => False
def sh_postroadlaw03_known.q : CVT → List X → World → (Value → Prop) → Prop
  | CV, [], w, K => Quiet (Bool) (fun r => (.bool r)) (fun K1 w' => sh_postroadlaw03_known  (fun r0 w'' => K1 r0 w'') w') w (fun r => K (.bool r))
  | _, _, _, _ => False
noncomputable def cx_postroadlaw03_known : Cx := Cx.add Try.prog cx_heap_Heap_Pop 27 sh_postroadlaw03_known.o sh_postroadlaw03_known.q
theorem cx_postroadlaw03_known.ok : CxOk cx_postroadlaw03_known := by
  refine CxOk.add cx_heap_Heap_Pop.ok rfl (fun CV hcv xs K w hx h => ?_) (fun CV hcv xs K w hx h => ?_)
  · unfold sh_postroadlaw03_known.o at h; split at h
    · exact sh_postroadlaw03_known.calls CV hcv h
    · exact h.elim
  · unfold sh_postroadlaw03_known.q at h; split at h
    · obtain ⟨r, h1, h2⟩ := h; exact ⟨_, h2, fun w' e => sh_postroadlaw03_known.calls CV hcv (h1 w' e)⟩
    · exact h.elim
def sh_postroadlaw03_HeapSorts.plan : Plan := (.seq .o (.seq .o (.seq (.seq .o (.cond (.seq .o .o) .o)) (.seq .o (.join [] [] (.seq .o (.block (.loop [.slot 5 (.int .i64)] [] (.seq (.seq .o (.cond .o .o)) (.seq (.block (.seq .o .o)) .o))))) (.seq .o (.seq .o (.join [] [] (.seq .o (.block (.loop [.slot 6 (.int .i64), .slot 8 (.int .i64)] [] (.seq (.seq .o (.cond .o .o)) (.seq (.block (.seq .o (.join [] [] (.seq .o (.cond (.seq .o .o) .o)) (.seq .o .o)))) .o))))) (.seq .o (.seq .o .o))))))))))
theorem sh_postroadlaw03_HeapSorts.is (CV : CVT) (keys0 : SV) (w : World) (R : Value → World → Prop) : sh_postroadlaw03_HeapSorts keys0 (fun r0 w' => R (.bool r0) w') w = denF (cx_postroadlaw03_known.with CV) Try.f7 sh_postroadlaw03_HeapSorts.plan [.v (.slice keys0.a keys0.len keys0.cap)] w R := by kernel_rfl
theorem sh_postroadlaw03_HeapSorts.calls (CV : CVT) (keys0 : SV) (hcv : CVOk Try.prog CV) {w : World} {R : Ending → World → Prop} (h : sh_postroadlaw03_HeapSorts keys0 (fun r0 w' => R (.returned (.bool r0)) w') w) : Calls Try.prog 7 #[(.slice keys0.a keys0.len keys0.cap)] w R :=
  calls_is (cx := cx_postroadlaw03_known.with CV) mixed_Try (cx_postroadlaw03_known.ok.with CV) hcv Try.func7 sh_postroadlaw03_HeapSorts.plan (xs := [.v (.slice keys0.a keys0.len keys0.cap)]) ((args_cons _ args_nil)) (by kernel_rfl) (sh_postroadlaw03_HeapSorts.is CV keys0 w (fun v w' => R (.returned v) w')) h
def sh_postroadlaw03_HeapSorts.o : CVT → List X → (Value → World → Prop) → World → Prop
  | CV, [.v (.slice keys0_a keys0_l keys0_c)], K, w => sh_postroadlaw03_HeapSorts ⟨keys0_a, keys0_l, keys0_c⟩ (fun r0 w' => K (.bool r0) w') w
  | _, _, _, _ => False
def sh_postroadlaw03_HeapSorts.q : CVT → List X → World → (Value → Prop) → Prop
  | CV, [.v (.slice keys0_a keys0_l keys0_c)], w, K => Quiet (Bool) (fun r => (.bool r)) (fun K1 w' => sh_postroadlaw03_HeapSorts ⟨keys0_a, keys0_l, keys0_c⟩ (fun r0 w'' => K1 r0 w'') w') w (fun r => K (.bool r))
  | _, _, _, _ => False
noncomputable def cx_postroadlaw03_HeapSorts : Cx := Cx.add Try.prog cx_postroadlaw03_known 7 sh_postroadlaw03_HeapSorts.o sh_postroadlaw03_HeapSorts.q
theorem cx_postroadlaw03_HeapSorts.ok : CxOk cx_postroadlaw03_HeapSorts := by
  refine CxOk.add cx_postroadlaw03_known.ok rfl (fun CV hcv xs K w hx h => ?_) (fun CV hcv xs K w hx h => ?_)
  · unfold sh_postroadlaw03_HeapSorts.o at h; split at h
    · rename_i keys0_a keys0_l keys0_c; exact sh_postroadlaw03_HeapSorts.calls CV ⟨keys0_a, keys0_l, keys0_c⟩ hcv h
    · exact h.elim
  · unfold sh_postroadlaw03_HeapSorts.q at h; split at h
    · rename_i keys0_a keys0_l keys0_c; obtain ⟨r, h1, h2⟩ := h; exact ⟨_, h2, fun w' e => sh_postroadlaw03_HeapSorts.calls CV ⟨keys0_a, keys0_l, keys0_c⟩ hcv (h1 w' e)⟩
    · exact h.elim
def sh_postroadref05_Check.plan : Plan := (.seq .o (.seq (.seq .o (.cond (.seq .o .o) .o)) (.seq (.seq .o (.cond (.seq .o .o) .o)) (.seq (.seq .o (.block (.loop [.slot 3 (.int .i64)] [] (.seq (.seq .o (.cond .o .o)) (.seq (.block (.seq .o (.seq .o (.cond (.seq .o .o) .o)))) .o))))) (.seq .o .o)))))
theorem sh_postroadref05_Check.is (CV : CVT) (m0_N : Int) (m0_Arcs : SV) (w : World) (R : Value → World → Prop) : sh_postroadref05_Check m0_N m0_Arcs (fun r0 w' => R (.int .i64 r0) w') w = denF (cx_postroadlaw03_HeapSorts.with CV) Try.f61 sh_postroadref05_Check.plan [.v (.agg #[(.int .i64 m0_N), (.slice m0_Arcs.a m0_Arcs.len m0_Arcs.cap)])] w R := by kernel_rfl
theorem sh_postroadref05_Check.calls (CV : CVT) (m0_N : Int) (m0_Arcs : SV) (hcv : CVOk Try.prog CV) {w : World} {R : Ending → World → Prop} (h : sh_postroadref05_Check m0_N m0_Arcs (fun r0 w' => R (.returned (.int .i64 r0)) w') w) : Calls Try.prog 61 #[(.agg #[(.int .i64 m0_N), (.slice m0_Arcs.a m0_Arcs.len m0_Arcs.cap)])] w R :=
  calls_is (cx := cx_postroadlaw03_HeapSorts.with CV) mixed_Try (cx_postroadlaw03_HeapSorts.ok.with CV) hcv Try.func61 sh_postroadref05_Check.plan (xs := [.v (.agg #[(.int .i64 m0_N), (.slice m0_Arcs.a m0_Arcs.len m0_Arcs.cap)])]) ((args_cons _ args_nil)) (by kernel_rfl) (sh_postroadref05_Check.is CV m0_N m0_Arcs w (fun v w' => R (.returned v) w')) h
def sh_postroadref05_Check.o : CVT → List X → (Value → World → Prop) → World → Prop
  | CV, [.v (.agg ⟨[.int .i64 m0_N, .slice m0_Arcs_a m0_Arcs_l m0_Arcs_c]⟩)], K, w => sh_postroadref05_Check m0_N ⟨m0_Arcs_a, m0_Arcs_l, m0_Arcs_c⟩ (fun r0 w' => K (.int .i64 r0) w') w
  | _, _, _, _ => False
def sh_postroadref05_Check.q : CVT → List X → World → (Value → Prop) → Prop
  | CV, [.v (.agg ⟨[.int .i64 m0_N, .slice m0_Arcs_a m0_Arcs_l m0_Arcs_c]⟩)], w, K => Quiet (Int) (fun r => (.int .i64 r)) (fun K1 w' => sh_postroadref05_Check m0_N ⟨m0_Arcs_a, m0_Arcs_l, m0_Arcs_c⟩ (fun r0 w'' => K1 r0 w'') w') w (fun r => K (.int .i64 r))
  | _, _, _, _ => False
noncomputable def cx_postroadref05_Check : Cx := Cx.add Try.prog cx_postroadlaw03_HeapSorts 61 sh_postroadref05_Check.o sh_postroadref05_Check.q
theorem cx_postroadref05_Check.ok : CxOk cx_postroadref05_Check := by
  refine CxOk.add cx_postroadlaw03_HeapSorts.ok rfl (fun CV hcv xs K w hx h => ?_) (fun CV hcv xs K w hx h => ?_)
  · unfold sh_postroadref05_Check.o at h; split at h
    · rename_i m0_N m0_Arcs_a m0_Arcs_l m0_Arcs_c; exact sh_postroadref05_Check.calls CV m0_N ⟨m0_Arcs_a, m0_Arcs_l, m0_Arcs_c⟩ hcv h
    · exact h.elim
  · unfold sh_postroadref05_Check.q at h; split at h
    · rename_i m0_N m0_Arcs_a m0_Arcs_l m0_Arcs_c; obtain ⟨r, h1, h2⟩ := h; exact ⟨_, h2, fun w' e => sh_postroadref05_Check.calls CV m0_N ⟨m0_Arcs_a, m0_Arcs_l, m0_Arcs_c⟩ hcv (h1 w' e)⟩
    · exact h.elim
def sh_postroadref06_Right.plan : Plan := (.seq .o (.seq .o .o))
theorem sh_postroadref06_Right.is (CV : CVT) (m0_N : Int) (m0_Arcs : SV) (n0 : Int) (arcs0 : Int) (w : World) (R : Value → World → Prop) : sh_postroadref06_Right m0_N m0_Arcs n0 arcs0 (fun r0 w' => R (.bool r0) w') w = denF (cx_postroadref05_Check.with CV) Try.f32 sh_postroadref06_Right.plan [.v (.agg #[(.int .i64 m0_N), (.slice m0_Arcs.a m0_Arcs.len m0_Arcs.cap)]), .v (.int .i64 n0), .v (.int .i64 arcs0)] w R := by kernel_rfl
theorem sh_postroadref06_Right.calls (CV : CVT) (m0_N : Int) (m0_Arcs : SV) (n0 : Int) (arcs0 : Int) (hcv : CVOk Try.prog CV) {w : World} {R : Ending → World → Prop} (h : sh_postroadref06_Right m0_N m0_Arcs n0 arcs0 (fun r0 w' => R (.returned (.bool r0)) w') w) : Calls Try.prog 32 #[(.agg #[(.int .i64 m0_N), (.slice m0_Arcs.a m0_Arcs.len m0_Arcs.cap)]), (.int .i64 n0), (.int .i64 arcs0)] w R :=
  calls_is (cx := cx_postroadref05_Check.with CV) mixed_Try (cx_postroadref05_Check.ok.with CV) hcv Try.func32 sh_postroadref06_Right.plan (xs := [.v (.agg #[(.int .i64 m0_N), (.slice m0_Arcs.a m0_Arcs.len m0_Arcs.cap)]), .v (.int .i64 n0), .v (.int .i64 arcs0)]) ((args_cons _ (args_cons _ (args_cons _ args_nil)))) (by kernel_rfl) (sh_postroadref06_Right.is CV m0_N m0_Arcs n0 arcs0 w (fun v w' => R (.returned v) w')) h
def sh_postroadref06_Right.o : CVT → List X → (Value → World → Prop) → World → Prop
  | CV, [.v (.agg ⟨[.int .i64 m0_N, .slice m0_Arcs_a m0_Arcs_l m0_Arcs_c]⟩), .v (.int .i64 n0), .v (.int .i64 arcs0)], K, w => sh_postroadref06_Right m0_N ⟨m0_Arcs_a, m0_Arcs_l, m0_Arcs_c⟩ n0 arcs0 (fun r0 w' => K (.bool r0) w') w
  | _, _, _, _ => False
def sh_postroadref06_Right.q : CVT → List X → World → (Value → Prop) → Prop
  | CV, [.v (.agg ⟨[.int .i64 m0_N, .slice m0_Arcs_a m0_Arcs_l m0_Arcs_c]⟩), .v (.int .i64 n0), .v (.int .i64 arcs0)], w, K => Quiet (Bool) (fun r => (.bool r)) (fun K1 w' => sh_postroadref06_Right m0_N ⟨m0_Arcs_a, m0_Arcs_l, m0_Arcs_c⟩ n0 arcs0 (fun r0 w'' => K1 r0 w'') w') w (fun r => K (.bool r))
  | _, _, _, _ => False
noncomputable def cx_postroadref06_Right : Cx := Cx.add Try.prog cx_postroadref05_Check 32 sh_postroadref06_Right.o sh_postroadref06_Right.q
theorem cx_postroadref06_Right.ok : CxOk cx_postroadref06_Right := by
  refine CxOk.add cx_postroadref05_Check.ok rfl (fun CV hcv xs K w hx h => ?_) (fun CV hcv xs K w hx h => ?_)
  · unfold sh_postroadref06_Right.o at h; split at h
    · rename_i m0_N m0_Arcs_a m0_Arcs_l m0_Arcs_c n0 arcs0; exact sh_postroadref06_Right.calls CV m0_N ⟨m0_Arcs_a, m0_Arcs_l, m0_Arcs_c⟩ n0 arcs0 hcv h
    · exact h.elim
  · unfold sh_postroadref06_Right.q at h; split at h
    · rename_i m0_N m0_Arcs_a m0_Arcs_l m0_Arcs_c n0 arcs0; obtain ⟨r, h1, h2⟩ := h; exact ⟨_, h2, fun w' e => sh_postroadref06_Right.calls CV m0_N ⟨m0_Arcs_a, m0_Arcs_l, m0_Arcs_c⟩ n0 arcs0 hcv (h1 w' e)⟩
    · exact h.elim
def sh_postroadlaw06_GraphArcs.plan : Plan := (.seq .o (.seq (.seq .o (.cond (.seq .o .o) .o)) (.seq .o (.join [] [] (.seq .o (.block (.loop [.slot 4 (.int .i64)] [] (.seq (.seq .o (.cond .o .o)) (.seq (.block (.seq .o (.seq (.draw [] [.pure, .pure, .pure, .loc, .pure, .loc, .pure, .pure, .quiet, .pure, .pure] [0, 1, 2, 3, 4, 5, 6, 7, 8, 9, 10]) (.cond (.seq .o .o) .o)))) .o))))) (.seq .o (.seq .o (.seq .o (.seq .o (.join [.slot 12 (.int .i64)] [] (.seq .o (.block (.loop [.slot 12 (.int .i64), .slot 13 (.int .i64)] [] (.seq (.seq .o (.cond .o .o)) (.seq (.block .o) .o))))) (.join [] [] (.seq .o (.block (.loop [.slot 14 (.int .i64)] [] (.seq (.seq .o (.cond .o .o)) (.join [] [] (.block (.seq .o (.seq .o (.seq (.draw [] [.pure, .pure, .pure, .pure, .loc, .pure, .pure, .pure, .quiet, .pure, .pure, .pure, .pure, .pure, .pure, .pure, .pure, .pure, .quiet, .pure, .pure, .pure, .pure, .quiet, .pure, .pure, .pure] [0, 1, 2, 3, 4, 5, 6, 7, 8, 9, 10, 11, 12, 13, 14, 15, 16, 17, 18, 19, 20, 21, 22, 23, 24, 25, 26]) (.cond (.seq .o .o) .o))))) .o))))) (.seq .o .o)))))))))))
theorem sh_postroadlaw06_GraphArcs.is (CV : CVT) (m0_N : Int) (m0_Arcs : SV) (w : World) (R : Value → World → Prop) : sh_postroadlaw06_GraphArcs CV m0_N m0_Arcs (fun r0 w' => R (.bool r0) w') w = denF (cx_postroadref06_Right.with CV) Try.f8 sh_postroadlaw06_GraphArcs.plan [.v (.agg #[(.int .i64 m0_N), (.slice m0_Arcs.a m0_Arcs.len m0_Arcs.cap)])] w R := by kernel_rfl
theorem sh_postroadlaw06_GraphArcs.calls (CV : CVT) (m0_N : Int) (m0_Arcs : SV) (hcv : CVOk Try.prog CV) {w : World} {R : Ending → World → Prop} (h : sh_postroadlaw06_GraphArcs CV m0_N m0_Arcs (fun r0 w' => R (.returned (.bool r0)) w') w) : Calls Try.prog 8 #[(.agg #[(.int .i64 m0_N), (.slice m0_Arcs.a m0_Arcs.len m0_Arcs.cap)])] w R :=
  calls_is (cx := cx_postroadref06_Right.with CV) mixed_Try (cx_postroadref06_Right.ok.with CV) hcv Try.func8 sh_postroadlaw06_GraphArcs.plan (xs := [.v (.agg #[(.int .i64 m0_N), (.slice m0_Arcs.a m0_Arcs.len m0_Arcs.cap)])]) ((args_cons _ args_nil)) (by kernel_rfl) (sh_postroadlaw06_GraphArcs.is CV m0_N m0_Arcs w (fun v w' => R (.returned v) w')) h
def sh_postroadlaw06_GraphArcs.o : CVT → List X → (Value → World → Prop) → World → Prop
  | CV, [.v (.agg ⟨[.int .i64 m0_N, .slice m0_Arcs_a m0_Arcs_l m0_Arcs_c]⟩)], K, w => sh_postroadlaw06_GraphArcs CV m0_N ⟨m0_Arcs_a, m0_Arcs_l, m0_Arcs_c⟩ (fun r0 w' => K (.bool r0) w') w
  | _, _, _, _ => False
def sh_postroadlaw06_GraphArcs.q : CVT → List X → World → (Value → Prop) → Prop
  | CV, [.v (.agg ⟨[.int .i64 m0_N, .slice m0_Arcs_a m0_Arcs_l m0_Arcs_c]⟩)], w, K => Quiet (Bool) (fun r => (.bool r)) (fun K1 w' => sh_postroadlaw06_GraphArcs CV m0_N ⟨m0_Arcs_a, m0_Arcs_l, m0_Arcs_c⟩ (fun r0 w'' => K1 r0 w'') w') w (fun r => K (.bool r))
  | _, _, _, _ => False
noncomputable def cx_postroadlaw06_GraphArcs : Cx := Cx.add Try.prog cx_postroadref06_Right 8 sh_postroadlaw06_GraphArcs.o sh_postroadlaw06_GraphArcs.q
theorem cx_postroadlaw06_GraphArcs.ok : CxOk cx_postroadlaw06_GraphArcs := by
  refine CxOk.add cx_postroadref06_Right.ok rfl (fun CV hcv xs K w hx h => ?_) (fun CV hcv xs K w hx h => ?_)
  · unfold sh_postroadlaw06_GraphArcs.o at h; split at h
    · rename_i m0_N m0_Arcs_a m0_Arcs_l m0_Arcs_c; exact sh_postroadlaw06_GraphArcs.calls CV m0_N ⟨m0_Arcs_a, m0_Arcs_l, m0_Arcs_c⟩ hcv h
    · exact h.elim
  · unfold sh_postroadlaw06_GraphArcs.q at h; split at h
    · rename_i m0_N m0_Arcs_a m0_Arcs_l m0_Arcs_c; obtain ⟨r, h1, h2⟩ := h; exact ⟨_, h2, fun w' e => sh_postroadlaw06_GraphArcs.calls CV m0_N ⟨m0_Arcs_a, m0_Arcs_l, m0_Arcs_c⟩ hcv (h1 w' e)⟩
    · exact h.elim
def sh_graph_Graph_Print_c1.plan : Plan := (.seq .o .o)
theorem sh_graph_Graph_Print_c1.is (CV : CVT) (x0 : Int) (free1 : Addr) (w : World) (R : Value → World → Prop) : sh_graph_Graph_Print_c1 x0 free1 (fun w' => R (.tuple #[]) w') w = denF (cx_postroadlaw06_GraphArcs.with CV) Try.f62 sh_graph_Graph_Print_c1.plan [.v (.int .i64 x0), .v (.pointer (some free1))] w R := by kernel_rfl
theorem sh_graph_Graph_Print_c1.calls (CV : CVT) (x0 : Int) (free1 : Addr) (hcv : CVOk Try.prog CV) {w : World} {R : Ending → World → Prop} (h : sh_graph_Graph_Print_c1 x0 free1 (fun w' => R (.returned (.tuple #[])) w') w) : Calls Try.prog 62 #[(.int .i64 x0), (.pointer (some free1))] w R :=
  calls_is (cx := cx_postroadlaw06_GraphArcs.with CV) mixed_Try (cx_postroadlaw06_GraphArcs.ok.with CV) hcv Try.func62 sh_graph_Graph_Print_c1.plan (xs := [.v (.int .i64 x0), .v (.pointer (some free1))]) ((args_cons _ (args_cons _ args_nil))) (by kernel_rfl) (sh_graph_Graph_Print_c1.is CV x0 free1 w (fun v w' => R (.returned v) w')) h
def sh_graph_Graph_Print_c1.o : CVT → List X → (Value → World → Prop) → World → Prop
  | CV, [.v (.int .i64 x0), .v (.pointer (some free1))], K, w => sh_graph_Graph_Print_c1 x0 free1 (fun w' => K (.tuple #[]) w') w
  | _, _, _, _ => False
def sh_graph_Graph_Print_c1.q : CVT → List X → World → (Value → Prop) → Prop
  | CV, [.v (.int .i64 x0), .v (.pointer (some free1))], w, K => Quiet (Unit) (fun r => (.tuple #[])) (fun K1 w' => sh_graph_Graph_Print_c1 x0 free1 (fun w'' => K1 () w'') w') w (fun r => K (.tuple #[]))
  | _, _, _, _ => False
noncomputable def cx_graph_Graph_Print_c1 : Cx := Cx.add Try.prog cx_postroadlaw06_GraphArcs 62 sh_graph_Graph_Print_c1.o sh_graph_Graph_Print_c1.q
theorem cx_graph_Graph_Print_c1.ok : CxOk cx_graph_Graph_Print_c1 := by
  refine CxOk.add cx_postroadlaw06_GraphArcs.ok rfl (fun CV hcv xs K w hx h => ?_) (fun CV hcv xs K w hx h => ?_)
  · unfold sh_graph_Graph_Print_c1.o at h; split at h
    · rename_i x0 free1; exact sh_graph_Graph_Print_c1.calls CV x0 free1 hcv h
    · exact h.elim
  · unfold sh_graph_Graph_Print_c1.q at h; split at h
    · rename_i x0 free1; obtain ⟨r, h1, h2⟩ := h; exact ⟨_, h2, fun w' e => sh_graph_Graph_Print_c1.calls CV x0 free1 hcv (h1 w' e)⟩
    · exact h.elim
def sh_graph_Graph_Print.plan : Plan := (.seq .o (.seq (.seq .o (.cond (.seq .o .o) .o)) (.seq .o (.seq .o (.seq .o (.seq (.seq .o (.block (.loop [.slot 23 (.int .i64)] [] (.seq .o (.seq (.cond .o .o) (.seq (.block (.seq .o (.seq .o (.seq .o .o)))) .o)))))) (.seq .o .o)))))))
theorem sh_graph_Graph_Print.is (CV : CVT) (g0 : Option Addr) (w : World) (R : Value → World → Prop) : sh_graph_Graph_Print g0 (fun r0 w' => R (.int .u64 r0) w') w = denF (cx_graph_Graph_Print_c1.with CV) Try.f33 sh_graph_Graph_Print.plan [.v (.pointer g0)] w R := by kernel_rfl
theorem sh_graph_Graph_Print.calls (CV : CVT) (g0 : Option Addr) (hcv : CVOk Try.prog CV) {w : World} {R : Ending → World → Prop} (h : sh_graph_Graph_Print g0 (fun r0 w' => R (.returned (.int .u64 r0)) w') w) : Calls Try.prog 33 #[(.pointer g0)] w R :=
  calls_is (cx := cx_graph_Graph_Print_c1.with CV) mixed_Try (cx_graph_Graph_Print_c1.ok.with CV) hcv Try.func33 sh_graph_Graph_Print.plan (xs := [.v (.pointer g0)]) ((args_cons _ args_nil)) (by kernel_rfl) (sh_graph_Graph_Print.is CV g0 w (fun v w' => R (.returned v) w')) h
def sh_graph_Graph_Print.o : CVT → List X → (Value → World → Prop) → World → Prop
  | CV, [.v (.pointer g0)], K, w => sh_graph_Graph_Print g0 (fun r0 w' => K (.int .u64 r0) w') w
  | _, _, _, _ => False
def sh_graph_Graph_Print.q : CVT → List X → World → (Value → Prop) → Prop
  | CV, [.v (.pointer g0)], w, K => Quiet (Int) (fun r => (.int .u64 r)) (fun K1 w' => sh_graph_Graph_Print g0 (fun r0 w'' => K1 r0 w'') w') w (fun r => K (.int .u64 r))
  | _, _, _, _ => False
noncomputable def cx_graph_Graph_Print : Cx := Cx.add Try.prog cx_graph_Graph_Print_c1 33 sh_graph_Graph_Print.o sh_graph_Graph_Print.q
theorem cx_graph_Graph_Print.ok : CxOk cx_graph_Graph_Print := by
  refine CxOk.add cx_graph_Graph_Print_c1.ok rfl (fun CV hcv xs K w hx h => ?_) (fun CV hcv xs K w hx h => ?_)
  · unfold sh_graph_Graph_Print.o at h; split at h
    · rename_i g0; exact sh_graph_Graph_Print.calls CV g0 hcv h
    · exact h.elim
  · unfold sh_graph_Graph_Print.q at h; split at h
    · rename_i g0; obtain ⟨r, h1, h2⟩ := h; exact ⟨_, h2, fun w' e => sh_graph_Graph_Print.calls CV g0 hcv (h1 w' e)⟩
    · exact h.elim
def sh_postroadlaw06_GraphOwn.plan : Plan := (.seq .o (.seq (.seq .o (.cond (.seq .o .o) .o)) (.seq .o (.seq .o (.seq .o (.seq .o (.join [] [] (.seq .o (.block (.loop [.slot 6 (.int .i64)] [] (.seq (.seq .o (.cond .o .o)) (.seq (.block .o) .o))))) (.join [] [] (.seq .o (.block (.loop [.slot 7 (.int .i64)] [] (.seq (.seq .o (.cond .o .o)) (.join [] [] (.block (.seq .o (.join [] [] (.seq .o (.block (.loop [.slot 9 (.int .i64)] [] (.seq (.seq .o (.cond .o .o)) (.seq (.block .o) .o))))) (.seq .o (.cond (.seq .o .o) .o))))) .o))))) (.seq .o .o)))))))))
theorem sh_postroadlaw06_GraphOwn.is (CV : CVT) (m0_N : Int) (m0_Arcs : SV) (w : World) (R : Value → World → Prop) : sh_postroadlaw06_GraphOwn CV m0_N m0_Arcs (fun r0 w' => R (.bool r0) w') w = denF (cx_graph_Graph_Print.with CV) Try.f9 sh_postroadlaw06_GraphOwn.plan [.v (.agg #[(.int .i64 m0_N), (.slice m0_Arcs.a m0_Arcs.len m0_Arcs.cap)])] w R := by kernel_rfl
theorem sh_postroadlaw06_GraphOwn.calls (CV : CVT) (m0_N : Int) (m0_Arcs : SV) (hcv : CVOk Try.prog CV) {w : World} {R : Ending → World → Prop} (h : sh_postroadlaw06_GraphOwn CV m0_N m0_Arcs (fun r0 w' => R (.returned (.bool r0)) w') w) : Calls Try.prog 9 #[(.agg #[(.int .i64 m0_N), (.slice m0_Arcs.a m0_Arcs.len m0_Arcs.cap)])] w R :=
  calls_is (cx := cx_graph_Graph_Print.with CV) mixed_Try (cx_graph_Graph_Print.ok.with CV) hcv Try.func9 sh_postroadlaw06_GraphOwn.plan (xs := [.v (.agg #[(.int .i64 m0_N), (.slice m0_Arcs.a m0_Arcs.len m0_Arcs.cap)])]) ((args_cons _ args_nil)) (by kernel_rfl) (sh_postroadlaw06_GraphOwn.is CV m0_N m0_Arcs w (fun v w' => R (.returned v) w')) h
def sh_postroadlaw06_GraphOwn.o : CVT → List X → (Value → World → Prop) → World → Prop
  | CV, [.v (.agg ⟨[.int .i64 m0_N, .slice m0_Arcs_a m0_Arcs_l m0_Arcs_c]⟩)], K, w => sh_postroadlaw06_GraphOwn CV m0_N ⟨m0_Arcs_a, m0_Arcs_l, m0_Arcs_c⟩ (fun r0 w' => K (.bool r0) w') w
  | _, _, _, _ => False
def sh_postroadlaw06_GraphOwn.q : CVT → List X → World → (Value → Prop) → Prop
  | CV, [.v (.agg ⟨[.int .i64 m0_N, .slice m0_Arcs_a m0_Arcs_l m0_Arcs_c]⟩)], w, K => Quiet (Bool) (fun r => (.bool r)) (fun K1 w' => sh_postroadlaw06_GraphOwn CV m0_N ⟨m0_Arcs_a, m0_Arcs_l, m0_Arcs_c⟩ (fun r0 w'' => K1 r0 w'') w') w (fun r => K (.bool r))
  | _, _, _, _ => False
noncomputable def cx_postroadlaw06_GraphOwn : Cx := Cx.add Try.prog cx_graph_Graph_Print 9 sh_postroadlaw06_GraphOwn.o sh_postroadlaw06_GraphOwn.q
theorem cx_postroadlaw06_GraphOwn.ok : CxOk cx_postroadlaw06_GraphOwn := by
  refine CxOk.add cx_graph_Graph_Print.ok rfl (fun CV hcv xs K w hx h => ?_) (fun CV hcv xs K w hx h => ?_)
  · unfold sh_postroadlaw06_GraphOwn.o at h; split at h
    · rename_i m0_N m0_Arcs_a m0_Arcs_l m0_Arcs_c; exact sh_postroadlaw06_GraphOwn.calls CV m0_N ⟨m0_Arcs_a, m0_Arcs_l, m0_Arcs_c⟩ hcv h
    · exact h.elim
  · unfold sh_postroadlaw06_GraphOwn.q at h; split at h
    · rename_i m0_N m0_Arcs_a m0_Arcs_l m0_Arcs_c; obtain ⟨r, h1, h2⟩ := h; exact ⟨_, h2, fun w' e => sh_postroadlaw06_GraphOwn.calls CV m0_N ⟨m0_Arcs_a, m0_Arcs_l, m0_Arcs_c⟩ hcv (h1 w' e)⟩
    · exact h.elim
def sh_heap_Heap_Key.plan : Plan := (.seq .o (.seq (.seq .o (.cond (.seq .o .o) .o)) (.seq (.draw [] [.pure, .pure, .pure, .pure, .quiet, .pure, .pure, .pure, .pure, .quiet, .pure, .pure, .quiet, .pure, .pure, .pure, .quiet, .pure, .pure] [0, 1, 2, 3, 4, 5, 6, 7, 8, 9, 10, 11, 12, 13, 14, 15, 16, 17, 18]) .o)))
theorem sh_heap_Heap_Key.is (CV : CVT) (h0 : Option Addr) (id0 : Int) (w : World) (R : Value → World → Prop) : sh_heap_Heap_Key h0 id0 (fun r0 r1 w' => R (.tuple #[(.int .i64 r0), (.bool r1)]) w') w = denF (cx_postroadlaw06_GraphOwn.with CV) Try.f35 sh_heap_Heap_Key.plan [.v (.pointer h0), .v (.int .i64 id0)] w R := by kernel_rfl
theorem sh_heap_Heap_Key.calls (CV : CVT) (h0 : Option Addr) (id0 : Int) (hcv : CVOk Try.prog CV) {w : World} {R : Ending → World → Prop} (h : sh_heap_Heap_Key h0 id0 (fun r0 r1 w' => R (.returned (.tuple #[(.int .i64 r0), (.bool r1)])) w') w) : Calls Try.prog 35 #[(.pointer h0), (.int .i64 id0)] w R :=
  calls_is (cx := cx_postroadlaw06_GraphOwn.with CV) mixed_Try (cx_postroadlaw06_GraphOwn.ok.with CV) hcv Try.func35 sh_heap_Heap_Key.plan (xs := [.v (.pointer h0), .v (.int .i64 id0)]) ((args_cons _ (args_cons _ args_nil))) (by kernel_rfl) (sh_heap_Heap_Key.is CV h0 id0 w (fun v w' => R (.returned v) w')) h
def sh_heap_Heap_Key.o : CVT → List X → (Value → World → Prop) → World → Prop
  | CV, [.v (.pointer h0), .v (.int .i64 id0)], K, w => sh_heap_Heap_Key h0 id0 (fun r0 r1 w' => K (.tuple #[(.int .i64 r0), (.bool r1)]) w') w
  | _, _, _, _ => False
def sh_heap_Heap_Key.q : CVT → List X → World → (Value → Prop) → Prop
  | CV, [.v (.pointer h0), .v (.int .i64 id0)], w, K => Quiet (Int × Bool) (fun r => (.tuple #[(.int .i64 r.1), (.bool r.2)])) (fun K1 w' => sh_heap_Heap_Key h0 id0 (fun r0 r1 w'' => K1 (r0, r1) w'') w') w (fun r => K (.tuple #[(.int .i64 r.1), (.bool r.2)]))
  | _, _, _, _ => False
noncomputable def cx_heap_Heap_Key : Cx := Cx.add Try.prog cx_postroadlaw06_GraphOwn 35 sh_heap_Heap_Key.o sh_heap_Heap_Key.q
theorem cx_heap_Heap_Key.ok : CxOk cx_heap_Heap_Key := by
  refine CxOk.add cx_postroadlaw06_GraphOwn.ok rfl (fun CV hcv xs K w hx h => ?_) (fun CV hcv xs K w hx h => ?_)
  · unfold sh_heap_Heap_Key.o at h; split at h
    · rename_i h0 id0; exact sh_heap_Heap_Key.calls CV h0 id0 hcv h
    · exact h.elim
  · unfold sh_heap_Heap_Key.q at h; split at h
    · rename_i h0 id0; obtain ⟨r, h1, h2⟩ := h; exact ⟨_, h2, fun w' e => sh_heap_Heap_Key.calls CV h0 id0 hcv (h1 w' e)⟩
    · exact h.elim
def sh_heap_Heap_Drop.plan : Plan := (.seq .o (.seq (.seq .o (.seq .o (.cond (.seq .o .o) .o))) (.seq .o (.seq .o .o))))
theorem sh_heap_Heap_Drop.is (CV : CVT) (h0 : Option Addr) (id0 : Int) (w : World) (R : Value → World → Prop) : sh_heap_Heap_Drop h0 id0 (fun r0 w' => R (.bool r0) w') w = denF (cx_heap_Heap_Key.with CV) Try.f34 sh_heap_Heap_Drop.plan [.v (.pointer h0), .v (.int .i64 id0)] w R := by kernel_rfl
theorem sh_heap_Heap_Drop.calls (CV : CVT) (h0 : Option Addr) (id0 : Int) (hcv : CVOk Try.prog CV) {w : World} {R : Ending → World → Prop} (h : sh_heap_Heap_Drop h0 id0 (fun r0 w' => R (.returned (.bool r0)) w') w) : Calls Try.prog 34 #[(.pointer h0), (.int .i64 id0)] w R :=
  calls_is (cx := cx_heap_Heap_Key.with CV) mixed_Try (cx_heap_Heap_Key.ok.with CV) hcv Try.func34 sh_heap_Heap_Drop.plan (xs := [.v (.pointer h0), .v (.int .i64 id0)]) ((args_cons _ (args_cons _ args_nil))) (by kernel_rfl) (sh_heap_Heap_Drop.is CV h0 id0 w (fun v w' => R (.returned v) w')) h
def sh_heap_Heap_Drop.o : CVT → List X → (Value → World → Prop) → World → Prop
  | CV, [.v (.pointer h0), .v (.int .i64 id0)], K, w => sh_heap_Heap_Drop h0 id0 (fun r0 w' => K (.bool r0) w') w
  | _, _, _, _ => False
def sh_heap_Heap_Drop.q : CVT → List X → World → (Value → Prop) → Prop
  | CV, [.v (.pointer h0), .v (.int .i64 id0)], w, K => Quiet (Bool) (fun r => (.bool r)) (fun K1 w' => sh_heap_Heap_Drop h0 id0 (fun r0 w'' => K1 r0 w'') w') w (fun r => K (.bool r))
  | _, _, _, _ => False
noncomputable def cx_heap_Heap_Drop : Cx := Cx.add Try.prog cx_heap_Heap_Key 34 sh_heap_Heap_Drop.o sh_heap_Heap_Drop.q
theorem cx_heap_Heap_Drop.ok : CxOk cx_heap_Heap_Drop := by
  refine CxOk.add cx_heap_Heap_Key.ok rfl (fun CV hcv xs K w hx h => ?_) (fun CV hcv xs K w hx h => ?_)
  · unfold sh_heap_Heap_Drop.o at h; split at h
    · rename_i h0 id0; exact sh_heap_Heap_Drop.calls CV h0 id0 hcv h
    · exact h.elim
  · unfold sh_heap_Heap_Drop.q at h; split at h
    · rename_i h0 id0; obtain ⟨r, h1, h2⟩ := h; exact ⟨_, h2, fun w' e => sh_heap_Heap_Drop.calls CV h0 id0 hcv (h1 w' e)⟩
    · exact h.elim
def sh_postroadlaw03_HeapKeys.plan : Plan := (.seq .o (.seq (.seq .o (.cond (.seq .o .o) .o)) (.seq .o (.seq .o (.seq .o (.join [] [] (.seq .o (.block (.loop [.slot 6 (.int .i64)] [] (.seq (.seq .o (.cond .o .o)) (.join [] [] (.block (.seq .o (.seq (.seq .o (.cond (.seq (.seq .o (.cond (.seq .o .o) .o)) .o) .o)) (.seq (.seq .o (.cond (.seq (.seq (.draw [] [.pure, .pure, .loc, .big, .pure, .pure, .rd, .pure, .rd, .pure, .pure] [0, 1, 2, 4, 5, 6, 7, 8, 9, 3, 10]) (.cond (.seq .o .o) .o)) (.seq .o .o)) .o)) (.seq (.seq .o (.cond (.seq .o .o) .o)) (.seq .o .o)))))) .o))))) (.seq .o (.seq .o (.join [.slot 8 (.int .i64), .slot 9 (.int .i64)] [] (.seq .o (.block (.loop [.slot 8 (.int .i64), .slot 9 (.int .i64), .slot 10 (.int .i64)] [] (.seq (.seq .o (.cond .o .o)) (.join [.slot 8 (.int .i64), .slot 9 (.int .i64)] [] (.block (.seq .o (.join [] [] (.seq .o (.cond (.seq .o .o) .o)) (.seq .o (.seq .o (.cond .o .o)))))) .o))))) (.seq .o (.seq .o .o)))))))))))
theorem sh_postroadlaw03_HeapKeys.is (CV : CVT) (l0 : SV) (w : World) (R : Value → World → Prop) : sh_postroadlaw03_HeapKeys l0 (fun r0 w' => R (.bool r0) w') w = denF (cx_heap_Heap_Drop.with CV) Try.f10 sh_postroadlaw03_HeapKeys.plan [.v (.slice l0.a l0.len l0.cap)] w R := by kernel_rfl
theorem sh_postroadlaw03_HeapKeys.calls (CV : CVT) (l0 : SV) (hcv : CVOk Try.prog CV) {w : World} {R : Ending → World → Prop} (h : sh_postroadlaw03_HeapKeys l0 (fun r0 w' => R (.returned (.bool r0)) w') w) : Calls Try.prog 10 #[(.slice l0.a l0.len l0.cap)] w R :=
  calls_is (cx := cx_heap_Heap_Drop.with CV) mixed_Try (cx_heap_Heap_Drop.ok.with CV) hcv Try.func10 sh_postroadlaw03_HeapKeys.plan (xs := [.v (.slice l0.a l0.len l0.cap)]) ((args_cons _ args_nil)) (by kernel_rfl) (sh_postroadlaw03_HeapKeys.is CV l0 w (fun v w' => R (.returned v) w')) h
def sh_postroadlaw03_HeapKeys.o : CVT → List X → (Value → World → Prop) → World → Prop
  | CV, [.v (.slice l0_a l0_l l0_c)], K, w => sh_postroadlaw03_HeapKeys ⟨l0_a, l0_l, l0_c⟩ (fun r0 w' => K (.bool r0) w') w
  | _, _, _, _ => False
def sh_postroadlaw03_HeapKeys.q : CVT → List X → World → (Value → Prop) → Prop
  | CV, [.v (.slice l0_a l0_l l0_c)], w, K => Quiet (Bool) (fun r => (.bool r)) (fun K1 w' => sh_postroadlaw03_HeapKeys ⟨l0_a, l0_l, l0_c⟩ (fun r0 w'' => K1 r0 w'') w') w (fun r => K (.bool r))
  | _, _, _, _ => False
noncomputable def cx_postroadlaw03_HeapKeys : Cx := Cx.add Try.prog cx_heap_Heap_Drop 10 sh_postroadlaw03_HeapKeys.o sh_postroadlaw03_HeapKeys.q
theorem cx_postroadlaw03_HeapKeys.ok : CxOk cx_postroadlaw03_HeapKeys := by
  refine CxOk.add cx_heap_Heap_Drop.ok rfl (fun CV hcv xs K w hx h => ?_) (fun CV hcv xs K w hx h => ?_)
  · unfold sh_postroadlaw03_HeapKeys.o at h; split at h
    · rename_i l0_a l0_l l0_c; exact sh_postroadlaw03_HeapKeys.calls CV ⟨l0_a, l0_l, l0_c⟩ hcv h
    · exact h.elim
  · unfold sh_postroadlaw03_HeapKeys.q at h; split at h
    · rename_i l0_a l0_l l0_c; obtain ⟨r, h1, h2⟩ := h; exact ⟨_, h2, fun w' e => sh_postroadlaw03_HeapKeys.calls CV ⟨l0_a, l0_l, l0_c⟩ hcv (h1 w' e)⟩
    · exact h.elim
def sh_postroadref03_New.plan : Plan := (.seq .o (.seq .o .o))
theorem sh_postroadref03_New.is (CV : CVT) (n0 : Int) (w : World) (R : Value → World → Prop) : sh_postroadref03_New n0 (fun r0 r1 r2 w' => R (.tuple #[(.agg #[(.int .i64 r0), (.slice r1.a r1.len r1.cap)]), (.bool r2)]) w') w = denF (cx_postroadlaw03_HeapKeys.with CV) Try.f37 sh_postroadref03_New.plan [.v (.int .i64 n0)] w R := by kernel_rfl
theorem sh_postroadref03_New.calls (CV : CVT) (n0 : Int) (hcv : CVOk Try.prog CV) {w : World} {R : Ending → World → Prop} (h : sh_postroadref03_New n0 (fun r0 r1 r2 w' => R (.returned (.tuple #[(.agg #[(.int .i64 r0), (.slice r1.a r1.len r1.cap)]), (.bool r2)])) w') w) : Calls Try.prog 37 #[(.int .i64 n0)] w R :=
  calls_is (cx := cx_postroadlaw03_HeapKeys.with CV) mixed_Try (cx_postroadlaw03_HeapKeys.ok.with CV) hcv Try.func37 sh_postroadref03_New.plan (xs := [.v (.int .i64 n0)]) ((args_cons _ args_nil)) (by kernel_rfl) (sh_postroadref03_New.is CV n0 w (fun v w' => R (.returned v) w')) h
def sh_postroadref03_New.o : CVT → List X → (Value → World → Prop) → World → Prop
  | CV, [.v (.int .i64 n0)], K, w => sh_postroadref03_New n0 (fun r0 r1 r2 w' => K (.tuple #[(.agg #[(.int .i64 r0), (.slice r1.a r1.len r1.cap)]), (.bool r2)]) w') w
  | _, _, _, _ => False
def sh_postroadref03_New.q : CVT → List X → World → (Value → Prop) → Prop
  | CV, [.v (.int .i64 n0)], w, K => Quiet (Int × SV × Bool) (fun r => (.tuple #[(.agg #[(.int .i64 r.1), (.slice r.2.1.a r.2.1.len r.2.1.cap)]), (.bool r.2.2)])) (fun K1 w' => sh_postroadref03_New n0 (fun r0 r1 r2 w'' => K1 (r0, r1, r2) w'') w') w (fun r => K (.tuple #[(.agg #[(.int .i64 r.1), (.slice r.2.1.a r.2.1.len r.2.1.cap)]), (.bool r.2.2)]))
  | _, _, _, _ => False
noncomputable def cx_postroadref03_New : Cx := Cx.add Try.prog cx_postroadlaw03_HeapKeys 37 sh_postroadref03_New.o sh_postroadref03_New.q
theorem cx_postroadref03_New.ok : CxOk cx_postroadref03_New := by
  refine CxOk.add cx_postroadlaw03_HeapKeys.ok rfl (fun CV hcv xs K w hx h => ?_) (fun CV hcv xs K w hx h => ?_)
  · unfold sh_postroadref03_New.o at h; split at h
    · rename_i n0; exact sh_postroadref03_New.calls CV n0 hcv h
    · exact h.elim
  · unfold sh_postroadref03_New.q at h; split at h
    · rename_i n0; obtain ⟨r, h1, h2⟩ := h; exact ⟨_, h2, fun w' e => sh_postroadref03_New.calls CV n0 hcv (h1 w' e)⟩
    · exact h.elim
def sh_postroadref03_Drop.plan : Plan := (.seq .o (.seq .o (.join [.box 6 [(.int .i64), .slice]] [] (.seq .o (.block (.loop [.slot 7 (.int .i64), .box 6 [(.int .i64), .slice]] [] (.seq (.seq .o (.cond .o .o)) (.join [.box 6 [(.int .i64), .slice]] [] (.block (.seq .o (.cond (.draw [] [.pure, .loc, .pure, .loc, .pure, .pure, .quiet, .new, .big, .pure, .big] [0, 1, 2, 3, 4, 5, 6, 7, 8, 9, 10]) .o))) .o))))) (.seq (.draw [4] [.loc, .pure, .loc, .pure, .pure, .loc, .pure, .pure, .lst, .pure] [0, 1, 2, 3, 4, 5, 6, 7, 8, 9]) .o))))
theorem sh_postroadref03_Drop.is (CV : CVT) (t0_N : Int) (t0_L : SV) (id0 : Int) (w : World) (R : Value → World → Prop) : sh_postroadref03_Drop t0_N t0_L id0 (fun r0 r1 r2 w' => R (.tuple #[(.agg #[(.int .i64 r0), (.slice r1.a r1.len r1.cap)]), (.bool r2)]) w') w = denF (cx_postroadref03_New.with CV) Try.f64 sh_postroadref03_Drop.plan [.v (.agg #[(.int .i64 t0_N), (.slice t0_L.a t0_L.len t0_L.cap)]), .v (.int .i64 id0)] w R := by kernel_rfl
theorem sh_postroadref03_Drop.calls (CV : CVT) (t0_N : Int) (t0_L : SV) (id0 : Int) (hcv : CVOk Try.prog CV) {w : World} {R : Ending → World → Prop} (h : sh_postroadref03_Drop t0_N t0_L id0 (fun r0 r1 r2 w' => R (.returned (.tuple #[(.agg #[(.int .i64 r0), (.slice r1.a r1.len r1.cap)]), (.bool r2)])) w') w) : Calls Try.prog 64 #[(.agg #[(.int .i64 t0_N), (.slice t0_L.a t0_L.len t0_L.cap)]), (.int .i64 id0)] w R :=
  calls_is (cx := cx_postroadref03_New.with CV) mixed_Try (cx_postroadref03_New.ok.with CV) hcv Try.func64 sh_postroadref03_Drop.plan (xs := [.v (.agg #[(.int .i64 t0_N), (.slice t0_L.a t0_L.len t0_L.cap)]), .v (.int .i64 id0)]) ((args_cons _ (args_cons _ args_nil))) (by kernel_rfl) (sh_postroadref03_Drop.is CV t0_N t0_L id0 w (fun v w' => R (.returned v) w')) h
def sh_postroadref03_Drop.o : CVT → List X → (Value → World → Prop) → World → Prop
  | CV, [.v (.agg ⟨[.int .i64 t0_N, .slice t0_L_a t0_L_l t0_L_c]⟩), .v (.int .i64 id0)], K, w => sh_postroadref03_Drop t0_N ⟨t0_L_a, t0_L_l, t0_L_c⟩ id0 (fun r0 r1 r2 w' => K (.tuple #[(.agg #[(.int .i64 r0), (.slice r1.a r1.len r1.cap)]), (.bool r2)]) w') w
  | _, _, _, _ => False
def sh_postroadref03_Drop.q : CVT → List X → World → (Value → Prop) → Prop
  | CV, [.v (.agg ⟨[.int .i64 t0_N, .slice t0_L_a t0_L_l t0_L_c]⟩), .v (.int .i64 id0)], w, K => Quiet (Int × SV × Bool) (fun r => (.tuple #[(.agg #[(.int .i64 r.1), (.slice r.2.1.a r.2.1.len r.2.1.cap)]), (.bool r.2.2)])) (fun K1 w' => sh_postroadref03_Drop t0_N ⟨t0_L_a, t0_L_l, t0_L_c⟩ id0 (fun r0 r1 r2 w'' => K1 (r0, r1, r2) w'') w') w (fun r => K (.tuple #[(.agg #[(.int .i64 r.1), (.slice r.2.1.a r.2.1.len r.2.1.cap)]), (.bool r.2.2)]))
  | _, _, _, _ => False
noncomputable def cx_postroadref03_Drop : Cx := Cx.add Try.prog cx_postroadref03_New 64 sh_postroadref03_Drop.o sh_postroadref03_Drop.q
theorem cx_postroadref03_Drop.ok : CxOk cx_postroadref03_Drop := by
  refine CxOk.add cx_postroadref03_New.ok rfl (fun CV hcv xs K w hx h => ?_) (fun CV hcv xs K w hx h => ?_)
  · unfold sh_postroadref03_Drop.o at h; split at h
    · rename_i t0_N t0_L_a t0_L_l t0_L_c id0; exact sh_postroadref03_Drop.calls CV t0_N ⟨t0_L_a, t0_L_l, t0_L_c⟩ id0 hcv h
    · exact h.elim
  · unfold sh_postroadref03_Drop.q at h; split at h
    · rename_i t0_N t0_L_a t0_L_l t0_L_c id0; obtain ⟨r, h1, h2⟩ := h; exact ⟨_, h2, fun w' e => sh_postroadref03_Drop.calls CV t0_N ⟨t0_L_a, t0_L_l, t0_L_c⟩ id0 hcv (h1 w' e)⟩
    · exact h.elim
def sh_postroadref03_Set.plan : Plan := (.seq .o (.seq (.seq .o (.cond (.seq .o .o) .o)) (.seq .o (.seq .o (.seq .o .o)))))
theorem sh_postroadref03_Set.is (CV : CVT) (t0_N : Int) (t0_L : SV) (id0 : Int) (key0 : Int) (w : World) (R : Value → World → Prop) : sh_postroadref03_Set t0_N t0_L id0 key0 (fun r0 r1 r2 w' => R (.tuple #[(.agg #[(.int .i64 r0), (.slice r1.a r1.len r1.cap)]), (.bool r2)]) w') w = denF (cx_postroadref03_Drop.with CV) Try.f63 sh_postroadref03_Set.plan [.v (.agg #[(.int .i64 t0_N), (.slice t0_L.a t0_L.len t0_L.cap)]), .v (.int .i64 id0), .v (.int .i64 key0)] w R := by kernel_rfl
theorem sh_postroadref03_Set.calls (CV : CVT) (t0_N : Int) (t0_L : SV) (id0 : Int) (key0 : Int) (hcv : CVOk Try.prog CV) {w : World} {R : Ending → World → Prop} (h : sh_postroadref03_Set t0_N t0_L id0 key0 (fun r0 r1 r2 w' => R (.returned (.tuple #[(.agg #[(.int .i64 r0), (.slice r1.a r1.len r1.cap)]), (.bool r2)])) w') w) : Calls Try.prog 63 #[(.agg #[(.int .i64 t0_N), (.slice t0_L.a t0_L.len t0_L.cap)]), (.int .i64 id0), (.int .i64 key0)] w R :=
  calls_is (cx := cx_postroadref03_Drop.with CV) mixed_Try (cx_postroadref03_Drop.ok.with CV) hcv Try.func63 sh_postroadref03_Set.plan (xs := [.v (.agg #[(.int .i64 t0_N), (.slice t0_L.a t0_L.len t0_L.cap)]), .v (.int .i64 id0), .v (.int .i64 key0)]) ((args_cons _ (args_cons _ (args_cons _ args_nil)))) (by kernel_rfl) (sh_postroadref03_Set.is CV t0_N t0_L id0 key0 w (fun v w' => R (.returned v) w')) h
def sh_postroadref03_Set.o : CVT → List X → (Value → World → Prop) → World → Prop
  | CV, [.v (.agg ⟨[.int .i64 t0_N, .slice t0_L_a t0_L_l t0_L_c]⟩), .v (.int .i64 id0), .v (.int .i64 key0)], K, w => sh_postroadref03_Set t0_N ⟨t0_L_a, t0_L_l, t0_L_c⟩ id0 key0 (fun r0 r1 r2 w' => K (.tuple #[(.agg #[(.int .i64 r0), (.slice r1.a r1.len r1.cap)]), (.bool r2)]) w') w
  | _, _, _, _ => False
def sh_postroadref03_Set.q : CVT → List X → World → (Value → Prop) → Prop
  | CV, [.v (.agg ⟨[.int .i64 t0_N, .slice t0_L_a t0_L_l t0_L_c]⟩), .v (.int .i64 id0), .v (.int .i64 key0)], w, K => Quiet (Int × SV × Bool) (fun r => (.tuple #[(.agg #[(.int .i64 r.1), (.slice r.2.1.a r.2.1.len r.2.1.cap)]), (.bool r.2.2)])) (fun K1 w' => sh_postroadref03_Set t0_N ⟨t0_L_a, t0_L_l, t0_L_c⟩ id0 key0 (fun r0 r1 r2 w'' => K1 (r0, r1, r2) w'') w') w (fun r => K (.tuple #[(.agg #[(.int .i64 r.1), (.slice r.2.1.a r.2.1.len r.2.1.cap)]), (.bool r.2.2)]))
  | _, _, _, _ => False
noncomputable def cx_postroadref03_Set : Cx := Cx.add Try.prog cx_postroadref03_Drop 63 sh_postroadref03_Set.o sh_postroadref03_Set.q
theorem cx_postroadref03_Set.ok : CxOk cx_postroadref03_Set := by
  refine CxOk.add cx_postroadref03_Drop.ok rfl (fun CV hcv xs K w hx h => ?_) (fun CV hcv xs K w hx h => ?_)
  · unfold sh_postroadref03_Set.o at h; split at h
    · rename_i t0_N t0_L_a t0_L_l t0_L_c id0 key0; exact sh_postroadref03_Set.calls CV t0_N ⟨t0_L_a, t0_L_l, t0_L_c⟩ id0 key0 hcv h
    · exact h.elim
  · unfold sh_postroadref03_Set.q at h; split at h
    · rename_i t0_N t0_L_a t0_L_l t0_L_c id0 key0; obtain ⟨r, h1, h2⟩ := h; exact ⟨_, h2, fun w' e => sh_postroadref03_Set.calls CV t0_N ⟨t0_L_a, t0_L_l, t0_L_c⟩ id0 key0 hcv (h1 w' e)⟩
    · exact h.elim
def sh_postroadref03_First.plan : Plan := (.seq .o (.seq .o (.join [.box 4 [(.int .i64), (.int .i64)]] [] (.seq .o (.block (.loop [.slot 5 (.int .i64), .box 4 [(.int .i64), (.int .i64)]] [] (.seq (.seq .o (.cond .o .o)) (.join [.box 4 [(.int .i64), (.int .i64)]] [] (.block (.seq .o (.seq .o (.cond .o .o)))) .o))))) (.seq (.draw [2] [.loc, .pure, .loc, .pure, .pure, .lst, .pure] [0, 1, 2, 3, 4, 5, 6]) .o))))
theorem sh_postroadref03_First.is (CV : CVT) (t0_N : Int) (t0_L : SV) (w : World) (R : Value → World → Prop) : sh_postroadref03_First t0_N t0_L (fun r0 r1 r2 w' => R (.tuple #[(.agg #[(.int .i64 r0), (.int .i64 r1)]), (.bool r2)]) w') w = denF (cx_postroadref03_Set.with CV) Try.f40 sh_postroadref03_First.plan [.v (.agg #[(.int .i64 t0_N), (.slice t0_L.a t0_L.len t0_L.cap)])] w R := by kernel_rfl
theorem sh_postroadref03_First.calls (CV : CVT) (t0_N : Int) (t0_L : SV) (hcv : CVOk Try.prog CV) {w : World} {R : Ending → World → Prop} (h : sh_postroadref03_First t0_N t0_L (fun r0 r1 r2 w' => R (.returned (.tuple #[(.agg #[(.int .i64 r0), (.int .i64 r1)]), (.bool r2)])) w') w) : Calls Try.prog 40 #[(.agg #[(.int .i64 t0_N), (.slice t0_L.a t0_L.len t0_L.cap)])] w R :=
  calls_is (cx := cx_postroadref03_Set.with CV) mixed_Try (cx_postroadref03_Set.ok.with CV) hcv Try.func40 sh_postroadref03_First.plan (xs := [.v (.agg #[(.int .i64 t0_N), (.slice t0_L.a t0_L.len t0_L.cap)])]) ((args_cons _ args_nil)) (by kernel_rfl) (sh_postroadref03_First.is CV t0_N t0_L w (fun v w' => R (.returned v) w')) h
def sh_postroadref03_First.o : CVT → List X → (Value → World → Prop) → World → Prop
  | CV, [.v (.agg ⟨[.int .i64 t0_N, .slice t0_L_a t0_L_l t0_L_c]⟩)], K, w => sh_postroadref03_First t0_N ⟨t0_L_a, t0_L_l, t0_L_c⟩ (fun r0 r1 r2 w' => K (.tuple #[(.agg #[(.int .i64 r0), (.int .i64 r1)]), (.bool r2)]) w') w
  | _, _, _, _ => False
def sh_postroadref03_First.q : CVT → List X → World → (Value → Prop) → Prop
  | CV, [.v (.agg ⟨[.int .i64 t0_N, .slice t0_L_a t0_L_l t0_L_c]⟩)], w, K => Quiet (Int × Int × Bool) (fun r => (.tuple #[(.agg #[(.int .i64 r.1), (.int .i64 r.2.1)]), (.bool r.2.2)])) (fun K1 w' => sh_postroadref03_First t0_N ⟨t0_L_a, t0_L_l, t0_L_c⟩ (fun r0 r1 r2 w'' => K1 (r0, r1, r2) w'') w') w (fun r => K (.tuple #[(.agg #[(.int .i64 r.1), (.int .i64 r.2.1)]), (.bool r.2.2)]))
  | _, _, _, _ => False
noncomputable def cx_postroadref03_First : Cx := Cx.add Try.prog cx_postroadref03_Set 40 sh_postroadref03_First.o sh_postroadref03_First.q
theorem cx_postroadref03_First.ok : CxOk cx_postroadref03_First := by
  refine CxOk.add cx_postroadref03_Set.ok rfl (fun CV hcv xs K w hx h => ?_) (fun CV hcv xs K w hx h => ?_)
  · unfold sh_postroadref03_First.o at h; split at h
    · rename_i t0_N t0_L_a t0_L_l t0_L_c; exact sh_postroadref03_First.calls CV t0_N ⟨t0_L_a, t0_L_l, t0_L_c⟩ hcv h
    · exact h.elim
  · unfold sh_postroadref03_First.q at h; split at h
    · rename_i t0_N t0_L_a t0_L_l t0_L_c; obtain ⟨r, h1, h2⟩ := h; exact ⟨_, h2, fun w' e => sh_postroadref03_First.calls CV t0_N ⟨t0_L_a, t0_L_l, t0_L_c⟩ hcv (h1 w' e)⟩
    · exact h.elim
def sh_postroadref03_Step.plan : Plan := (.seq .o (.seq (.seq .o (.block (.seq .o (.cond (.seq .o (.seq .o .o)) (.seq .o (.cond (.seq .o (.seq (.seq .o (.cond (.seq (.draw [4, 5] [.loc, .loc, .lst, .lst, .pure] [0, 1, 2, 3, 4]) .o) .o)) (.seq .o (.seq (.draw [4, 5] [.loc, .loc, .lst, .lst, .pure] [0, 1, 2, 3, 4]) .o)))) (.seq .o (.cond (.seq .o (.seq .o .o)) (.seq .o (.cond (.seq .o .o) .o)))))))))) (.seq .o .o)))
theorem sh_postroadref03_Step.is (CV : CVT) (t0_N : Int) (t0_L : SV) (d0_Kind : Int) (d0_ID : Int) (d0_Key : Int) (w : World) (R : Value → World → Prop) : sh_postroadref03_Step t0_N t0_L d0_Kind d0_ID d0_Key (fun r0 r1 r2 r3 r4 w' => R (.tuple #[(.agg #[(.int .i64 r0), (.slice r1.a r1.len r1.cap)]), (.agg #[(.int .i64 r2), (.int .i64 r3)]), (.bool r4)]) w') w = denF (cx_postroadref03_First.with CV) Try.f38 sh_postroadref03_Step.plan [.v (.agg #[(.int .i64 t0_N), (.slice t0_L.a t0_L.len t0_L.cap)]), .v (.agg #[(.int .i64 d0_Kind), (.int .i64 d0_ID), (.int .i64 d0_Key)])] w R := by kernel_rfl
theorem sh_postroadref03_Step.calls (CV : CVT) (t0_N : Int) (t0_L : SV) (d0_Kind : Int) (d0_ID : Int) (d0_Key : Int) (hcv : CVOk Try.prog CV) {w : World} {R : Ending → World → Prop} (h : sh_postroadref03_Step t0_N t0_L d0_Kind d0_ID d0_Key (fun r0 r1 r2 r3 r4 w' => R (.returned (.tuple #[(.agg #[(.int .i64 r0), (.slice r1.a r1.len r1.cap)]), (.agg #[(.int .i64 r2), (.int .i64 r3)]), (.bool r4)])) w') w) : Calls Try.prog 38 #[(.agg #[(.int .i64 t0_N), (.slice t0_L.a t0_L.len t0_L.cap)]), (.agg #[(.int .i64 d0_Kind), (.int .i64 d0_ID), (.int .i64 d0_Key)])] w R :=
  calls_is (cx := cx_postroadref03_First.with CV) mixed_Try (cx_postroadref03_First.ok.with CV) hcv Try.func38 sh_postroadref03_Step.plan (xs := [.v (.agg #[(.int .i64 t0_N), (.slice t0_L.a t0_L.len t0_L.cap)]), .v (.agg #[(.int .i64 d0_Kind), (.int .i64 d0_ID), (.int .i64 d0_Key)])]) ((args_cons _ (args_cons _ args_nil))) (by kernel_rfl) (sh_postroadref03_Step.is CV t0_N t0_L d0_Kind d0_ID d0_Key w (fun v w' => R (.returned v) w')) h
def sh_postroadref03_Step.o : CVT → List X → (Value → World → Prop) → World → Prop
  | CV, [.v (.agg ⟨[.int .i64 t0_N, .slice t0_L_a t0_L_l t0_L_c]⟩), .v (.agg ⟨[.int .i64 d0_Kind, .int .i64 d0_ID, .int .i64 d0_Key]⟩)], K, w => sh_postroadref03_Step t0_N ⟨t0_L_a, t0_L_l, t0_L_c⟩ d0_Kind d0_ID d0_Key (fun r0 r1 r2 r3 r4 w' => K (.tuple #[(.agg #[(.int .i64 r0), (.slice r1.a r1.len r1.cap)]), (.agg #[(.int .i64 r2), (.int .i64 r3)]), (.bool r4)]) w') w
  | _, _, _, _ => False
def sh_postroadref03_Step.q : CVT → List X → World → (Value → Prop) → Prop
  | CV, [.v (.agg ⟨[.int .i64 t0_N, .slice t0_L_a t0_L_l t0_L_c]⟩), .v (.agg ⟨[.int .i64 d0_Kind, .int .i64 d0_ID, .int .i64 d0_Key]⟩)], w, K => Quiet (Int × SV × Int × Int × Bool) (fun r => (.tuple #[(.agg #[(.int .i64 r.1), (.slice r.2.1.a r.2.1.len r.2.1.cap)]), (.agg #[(.int .i64 r.2.2.1), (.int .i64 r.2.2.2.1)]), (.bool r.2.2.2.2)])) (fun K1 w' => sh_postroadref03_Step t0_N ⟨t0_L_a, t0_L_l, t0_L_c⟩ d0_Kind d0_ID d0_Key (fun r0 r1 r2 r3 r4 w'' => K1 (r0, r1, r2, r3, r4) w'') w') w (fun r => K (.tuple #[(.agg #[(.int .i64 r.1), (.slice r.2.1.a r.2.1.len r.2.1.cap)]), (.agg #[(.int .i64 r.2.2.1), (.int .i64 r.2.2.2.1)]), (.bool r.2.2.2.2)]))
  | _, _, _, _ => False
noncomputable def cx_postroadref03_Step : Cx := Cx.add Try.prog cx_postroadref03_First 38 sh_postroadref03_Step.o sh_postroadref03_Step.q
theorem cx_postroadref03_Step.ok : CxOk cx_postroadref03_Step := by
  refine CxOk.add cx_postroadref03_First.ok rfl (fun CV hcv xs K w hx h => ?_) (fun CV hcv xs K w hx h => ?_)
  · unfold sh_postroadref03_Step.o at h; split at h
    · rename_i t0_N t0_L_a t0_L_l t0_L_c d0_Kind d0_ID d0_Key; exact sh_postroadref03_Step.calls CV t0_N ⟨t0_L_a, t0_L_l, t0_L_c⟩ d0_Kind d0_ID d0_Key hcv h
    · exact h.elim
  · unfold sh_postroadref03_Step.q at h; split at h
    · rename_i t0_N t0_L_a t0_L_l t0_L_c d0_Kind d0_ID d0_Key; obtain ⟨r, h1, h2⟩ := h; exact ⟨_, h2, fun w' e => sh_postroadref03_Step.calls CV t0_N ⟨t0_L_a, t0_L_l, t0_L_c⟩ d0_Kind d0_ID d0_Key hcv (h1 w' e)⟩
    · exact h.elim
def sh_heap_Heap_Clear.plan : Plan := (.block (.loop [] [] (.seq (.seq .o (.cond .o .o)) (.block (.draw [] [.pure, .pure, .pure, .pure, .pure, .pure, .pure, .quiet, .pure, .quiet, .pure, .pure, .pure, .quiet, .big] [0, 1, 2, 3, 4, 5, 6, 7, 8, 9, 10, 11, 12, 13, 14])))))
theorem sh_heap_Heap_Clear.is (CV : CVT) (h0 : Option Addr) (w : World) (R : Value → World → Prop) : sh_heap_Heap_Clear h0 (fun w' => R (.tuple #[]) w') w = denF (cx_postroadref03_Step.with CV) Try.f42 sh_heap_Heap_Clear.plan [.v (.pointer h0)] w R := by kernel_rfl
theorem sh_heap_Heap_Clear.calls (CV : CVT) (h0 : Option Addr) (hcv : CVOk Try.prog CV) {w : World} {R : Ending → World → Prop} (h : sh_heap_Heap_Clear h0 (fun w' => R (.returned (.tuple #[])) w') w) : Calls Try.prog 42 #[(.pointer h0)] w R :=
  calls_is (cx := cx_postroadref03_Step.with CV) mixed_Try (cx_postroadref03_Step.ok.with CV) hcv Try.func42 sh_heap_Heap_Clear.plan (xs := [.v (.pointer h0)]) ((args_cons _ args_nil)) (by kernel_rfl) (sh_heap_Heap_Clear.is CV h0 w (fun v w' => R (.returned v) w')) h
def sh_heap_Heap_Clear.o : CVT → List X → (Value → World → Prop) → World → Prop
  | CV, [.v (.pointer h0)], K, w => sh_heap_Heap_Clear h0 (fun w' => K (.tuple #[]) w') w
  | _, _, _, _ => False
def sh_heap_Heap_Clear.q : CVT → List X → World → (Value → Prop) → Prop
  | CV, [.v (.pointer h0)], w, K => Quiet (Unit) (fun r => (.tuple #[])) (fun K1 w' => sh_heap_Heap_Clear h0 (fun w'' => K1 () w'') w') w (fun r => K (.tuple #[]))
  | _, _, _, _ => False
noncomputable def cx_heap_Heap_Clear : Cx := Cx.add Try.prog cx_postroadref03_Step 42 sh_heap_Heap_Clear.o sh_heap_Heap_Clear.q
theorem cx_heap_Heap_Clear.ok : CxOk cx_heap_Heap_Clear := by
  refine CxOk.add cx_postroadref03_Step.ok rfl (fun CV hcv xs K w hx h => ?_) (fun CV hcv xs K w hx h => ?_)
  · unfold sh_heap_Heap_Clear.o at h; split at h
    · rename_i h0; exact sh_heap_Heap_Clear.calls CV h0 hcv h
    · exact h.elim
  · unfold sh_heap_Heap_Clear.q at h; split at h
    · rename_i h0; obtain ⟨r, h1, h2⟩ := h; exact ⟨_, h2, fun w' e => sh_heap_Heap_Clear.calls CV h0 hcv (h1 w' e)⟩
    · exact h.elim
def sh_postroadlaw03_did.plan : Plan := (.seq .o (.join [] [] (.seq .o (.block (.seq .o (.cond (.seq .o .o) (.seq .o (.cond (.seq .o .o) (.seq .o (.cond (.seq .o .o) (.seq .o (.cond .o .o)))))))))) (.seq .o .o)))
theorem sh_postroadlaw03_did.is (CV : CVT) (h0 : Option Addr) (d0_Kind : Int) (d0_ID : Int) (d0_Key : Int) (w : World) (R : Value → World → Prop) : sh_postroadlaw03_did h0 d0_Kind d0_ID d0_Key (fun r0 r1 r2 w' => R (.tuple #[(.int .i64 r0), (.int .i64 r1), (.bool r2)]) w') w = denF (cx_heap_Heap_Clear.with CV) Try.f39 sh_postroadlaw03_did.plan [.v (.pointer h0), .v (.agg #[(.int .i64 d0_Kind), (.int .i64 d0_ID), (.int .i64 d0_Key)])] w R := by kernel_rfl
theorem sh_postroadlaw03_did.calls (CV : CVT) (h0 : Option Addr) (d0_Kind : Int) (d0_ID : Int) (d0_Key : Int) (hcv : CVOk Try.prog CV) {w : World} {R : Ending → World → Prop} (h : sh_postroadlaw03_did h0 d0_Kind d0_ID d0_Key (fun r0 r1 r2 w' => R (.returned (.tuple #[(.int .i64 r0), (.int .i64 r1), (.bool r2)])) w') w) : Calls Try.prog 39 #[(.pointer h0), (.agg #[(.int .i64 d0_Kind), (.int .i64 d0_ID), (.int .i64 d0_Key)])] w R :=
  calls_is (cx := cx_heap_Heap_Clear.with CV) mixed_Try (cx_heap_Heap_Clear.ok.with CV) hcv Try.func39 sh_postroadlaw03_did.plan (xs := [.v (.pointer h0), .v (.agg #[(.int .i64 d0_Kind), (.int .i64 d0_ID), (.int .i64 d0_Key)])]) ((args_cons _ (args_cons _ args_nil))) (by kernel_rfl) (sh_postroadlaw03_did.is CV h0 d0_Kind d0_ID d0_Key w (fun v w' => R (.returned v) w')) h
def sh_postroadlaw03_did.o : CVT → List X → (Value → World → Prop) → World → Prop
  | CV, [.v (.pointer h0), .v (.agg ⟨[.int .i64 d0_Kind, .int .i64 d0_ID, .int .i64 d0_Key]⟩)], K, w => sh_postroadlaw03_did h0 d0_Kind d0_ID d0_Key (fun r0 r1 r2 w' => K (.tuple #[(.int .i64 r0), (.int .i64 r1), (.bool r2)]) w') w
  | _, _, _, _ => False
def sh_postroadlaw03_did.q : CVT → List X → World → (Value → Prop) → Prop
  | CV, [.v (.pointer h0), .v (.agg ⟨[.int .i64 d0_Kind, .int .i64 d0_ID, .int .i64 d0_Key]⟩)], w, K => Quiet (Int × Int × Bool) (fun r => (.tuple #[(.int .i64 r.1), (.int .i64 r.2.1), (.bool r.2.2)])) (fun K1 w' => sh_postroadlaw03_did h0 d0_Kind d0_ID d0_Key (fun r0 r1 r2 w'' => K1 (r0, r1, r2) w'') w') w (fun r => K (.tuple #[(.int .i64 r.1), (.int .i64 r.2.1), (.bool r.2.2)]))
  | _, _, _, _ => False
noncomputable def cx_postroadlaw03_did : Cx := Cx.add Try.prog cx_heap_Heap_Clear 39 sh_postroadlaw03_did.o sh_postroadlaw03_did.q
theorem cx_postroadlaw03_did.ok : CxOk cx_postroadlaw03_did := by
  refine CxOk.add cx_heap_Heap_Clear.ok rfl (fun CV hcv xs K w hx h => ?_) (fun CV hcv xs K w hx h => ?_)
  · unfold sh_postroadlaw03_did.o at h; split at h
    · rename_i h0 d0_Kind d0_ID d0_Key; exact sh_postroadlaw03_did.calls CV h0 d0_Kind d0_ID d0_Key hcv h
    · exact h.elim
  · unfold sh_postroadlaw03_did.q at h; split at h
    · rename_i h0 d0_Kind d0_ID d0_Key; obtain ⟨r, h1, h2⟩ := h; exact ⟨_, h2, fun w' e => sh_postroadlaw03_did.calls CV h0 d0_Kind d0_ID d0_Key hcv (h1 w' e)⟩
    · exact h.elim
def sh_postroadref03_Key.plan : Plan := (.seq .o (.seq (.seq .o (.block (.loop [.slot 6 (.int .i64)] [] (.seq (.seq .o (.cond .o .o)) (.seq (.block (.seq .o (.cond (.seq .o .o) .o))) .o))))) (.seq .o .o)))
theorem sh_postroadref03_Key.is (CV : CVT) (t0_N : Int) (t0_L : SV) (id0 : Int) (w : World) (R : Value → World → Prop) : sh_postroadref03_Key t0_N t0_L id0 (fun r0 r1 w' => R (.tuple #[(.int .i64 r0), (.bool r1)]) w') w = denF (cx_postroadlaw03_did.with CV) Try.f41 sh_postroadref03_Key.plan [.v (.agg #[(.int .i64 t0_N), (.slice t0_L.a t0_L.len t0_L.cap)]), .v (.int .i64 id0)] w R := by kernel_rfl
theorem sh_postroadref03_Key.calls (CV : CVT) (t0_N : Int) (t0_L : SV) (id0 : Int) (hcv : CVOk Try.prog CV) {w : World} {R : Ending → World → Prop} (h : sh_postroadref03_Key t0_N t0_L id0 (fun r0 r1 w' => R (.returned (.tuple #[(.int .i64 r0), (.bool r1)])) w') w) : Calls Try.prog 41 #[(.agg #[(.int .i64 t0_N), (.slice t0_L.a t0_L.len t0_L.cap)]), (.int .i64 id0)] w R :=
  calls_is (cx := cx_postroadlaw03_did.with CV) mixed_Try (cx_postroadlaw03_did.ok.with CV) hcv Try.func41 sh_postroadref03_Key.plan (xs := [.v (.agg #[(.int .i64 t0_N), (.slice t0_L.a t0_L.len t0_L.cap)]), .v (.int .i64 id0)]) ((args_cons _ (args_cons _ args_nil))) (by kernel_rfl) (sh_postroadref03_Key.is CV t0_N t0_L id0 w (fun v w' => R (.returned v) w')) h
def sh_postroadref03_Key.o : CVT → List X → (Value → World → Prop) → World → Prop
  | CV, [.v (.agg ⟨[.int .i64 t0_N, .slice t0_L_a t0_L_l t0_L_c]⟩), .v (.int .i64 id0)], K, w => sh_postroadref03_Key t0_N ⟨t0_L_a, t0_L_l, t0_L_c⟩ id0 (fun r0 r1 w' => K (.tuple #[(.int .i64 r0), (.bool r1)]) w') w
  | _, _, _, _ => False
def sh_postroadref03_Key.q : CVT → List X → World → (Value → Prop) → Prop
  | CV, [.v (.agg ⟨[.int .i64 t0_N, .slice t0_L_a t0_L_l t0_L_c]⟩), .v (.int .i64 id0)], w, K => Quiet (Int × Bool) (fun r => (.tuple #[(.int .i64 r.1), (.bool r.2)])) (fun K1 w' => sh_postroadref03_Key t0_N ⟨t0_L_a, t0_L_l, t0_L_c⟩ id0 (fun r0 r1 w'' => K1 (r0, r1) w'') w') w (fun r => K (.tuple #[(.int .i64 r.1), (.bool r.2)]))
  | _, _, _, _ => False
noncomputable def cx_postroadref03_Key : Cx := Cx.add Try.prog cx_postroadlaw03_did 41 sh_postroadref03_Key.o sh_postroadref03_Key.q
theorem cx_postroadref03_Key.ok : CxOk cx_postroadref03_Key := by
  refine CxOk.add cx_postroadlaw03_did.ok rfl (fun CV hcv xs K w hx h => ?_) (fun CV hcv xs K w hx h => ?_)
  · unfold sh_postroadref03_Key.o at h; split at h
    · rename_i t0_N t0_L_a t0_L_l t0_L_c id0; exact sh_postroadref03_Key.calls CV t0_N ⟨t0_L_a, t0_L_l, t0_L_c⟩ id0 hcv h
    · exact h.elim
  · unfold sh_postroadref03_Key.q at h; split at h
    · rename_i t0_N t0_L_a t0_L_l t0_L_c id0; obtain ⟨r, h1, h2⟩ := h; exact ⟨_, h2, fun w' e => sh_postroadref03_Key.calls CV t0_N ⟨t0_L_a, t0_L_l, t0_L_c⟩ id0 hcv (h1 w' e)⟩
    · exact h.elim
def sh_postroadlaw03_HeapSteps.plan : Plan := (.seq .o (.join [] [] (.seq .o (.cond (.seq .o .o) .o)) (.seq .o (.seq .o (.seq (.seq .o (.cond (.seq .o .o) .o)) (.seq (.seq .o (.cond (.seq .o .o) .o)) (.join [] [7] (.seq .o (.block (.loop [.slot 10 (.int .i64), .box 7 [(.int .i64), .slice]] [] (.seq (.seq .o (.cond .o .o)) (.seq (.block (.seq (.draw [] [.loc, .pure, .pure, .pure, .quiet, .bigz, .pure, .pure, .pure, .pure, .alc, .alc, .big, .big, .pure] [0, 1, 2, 3, 4, 5, 6, 7, 8, 9, 10, 11, 12, 13, 14]) (.seq .o (.seq .o (.seq .o (.seq .o (.seq .o (.seq .o (.seq (.draw [] [.pure, .pure, .loc, .pure, .pure, .pure, .pure, .loc, .pure, .pure, .pure, .pure, .pure, .pure, .pure, .pure, .pure, .pure, .loc, .pure, .pure, .pure, .pure, .pure, .loc, .pure, .pure, .pure, .pure, .pure, .pure, .pure, .pure, .pure, .pure, .pure, .pure, .pure, .pure, .pure, .pure, .pure, .pure, .pure, .quiet, .pure, .loc, .pure, .pure, .pure] [0, 1, 2, 3, 4, 5, 6, 7, 8, 9, 10, 11, 12, 13, 14, 15, 16, 17, 18, 19, 20, 21, 22, 23, 24, 25, 26, 27, 28, 29, 30, 31, 32, 33, 34, 35, 36, 37, 38, 39, 40, 41, 42, 43, 44, 45, 46, 47, 48, 49]) (.cond (.seq .o .o) .o)))))))))) .o))))) (.seq .o .o))))))))
theorem sh_postroadlaw03_HeapSteps.is (CV : CVT) (n0 : Int) (l0 : SV) (id0 : Int) (w : World) (R : Value → World → Prop) : sh_postroadlaw03_HeapSteps n0 l0 id0 (fun r0 w' => R (.bool r0) w') w = denF (cx_postroadref03_Key.with CV) Try.f11 sh_postroadlaw03_HeapSteps.plan [.v (.int .i64 n0), .v (.slice l0.a l0.len l0.cap), .v (.int .i64 id0)] w R := by kernel_rfl
theorem sh_postroadlaw03_HeapSteps.calls (CV : CVT) (n0 : Int) (l0 : SV) (id0 : Int) (hcv : CVOk Try.prog CV) {w : World} {R : Ending → World → Prop} (h : sh_postroadlaw03_HeapSteps n0 l0 id0 (fun r0 w' => R (.returned (.bool r0)) w') w) : Calls Try.prog 11 #[(.int .i64 n0), (.slice l0.a l0.len l0.cap), (.int .i64 id0)] w R :=
  calls_is (cx := cx_postroadref03_Key.with CV) mixed_Try (cx_postroadref03_Key.ok.with CV) hcv Try.func11 sh_postroadlaw03_HeapSteps.plan (xs := [.v (.int .i64 n0), .v (.slice l0.a l0.len l0.cap), .v (.int .i64 id0)]) ((args_cons _ (args_cons _ (args_cons _ args_nil)))) (by kernel_rfl) (sh_postroadlaw03_HeapSteps.is CV n0 l0 id0 w (fun v w' => R (.returned v) w')) h
def sh_postroadlaw03_HeapSteps.o : CVT → List X → (Value → World → Prop) → World → Prop
  | CV, [.v (.int .i64 n0), .v (.slice l0_a l0_l l0_c), .v (.int .i64 id0)], K, w => sh_postroadlaw03_HeapSteps n0 ⟨l0_a, l0_l, l0_c⟩ id0 (fun r0 w' => K (.bool r0) w') w
  | _, _, _, _ => False
def sh_postroadlaw03_HeapSteps.q : CVT → List X → World → (Value → Prop) → Prop
  | CV, [.v (.int .i64 n0), .v (.slice l0_a l0_l l0_c), .v (.int .i64 id0)], w, K => Quiet (Bool) (fun r => (.bool r)) (fun K1 w' => sh_postroadlaw03_HeapSteps n0 ⟨l0_a, l0_l, l0_c⟩ id0 (fun r0 w'' => K1 r0 w'') w') w (fun r => K (.bool r))
  | _, _, _, _ => False
noncomputable def cx_postroadlaw03_HeapSteps : Cx := Cx.add Try.prog cx_postroadref03_Key 11 sh_postroadlaw03_HeapSteps.o sh_postroadlaw03_HeapSteps.q
theorem cx_postroadlaw03_HeapSteps.ok : CxOk cx_postroadlaw03_HeapSteps := by
  refine CxOk.add cx_postroadref03_Key.ok rfl (fun CV hcv xs K w hx h => ?_) (fun CV hcv xs K w hx h => ?_)
  · unfold sh_postroadlaw03_HeapSteps.o at h; split at h
    · rename_i n0 l0_a l0_l l0_c id0; exact sh_postroadlaw03_HeapSteps.calls CV n0 ⟨l0_a, l0_l, l0_c⟩ id0 hcv h
    · exact h.elim
  · unfold sh_postroadlaw03_HeapSteps.q at h; split at h
    · rename_i n0 l0_a l0_l l0_c id0; obtain ⟨r, h1, h2⟩ := h; exact ⟨_, h2, fun w' e => sh_postroadlaw03_HeapSteps.calls CV n0 ⟨l0_a, l0_l, l0_c⟩ id0 hcv (h1 w' e)⟩
    · exact h.elim
def sh_postroadlaw03_HeapClears.plan : Plan := (.seq .o (.seq .o (.seq (.seq .o (.cond (.seq .o .o) .o)) (.seq .o (.seq .o (.join [] [] (.seq .o (.block (.loop [.slot 8 (.int .i64)] [] (.seq (.seq .o (.cond .o .o)) (.seq (.block .o) .o))))) (.seq .o (.seq .o (.join [] [] (.seq .o (.block (.loop [.slot 10 (.int .i64)] [] (.seq (.seq .o (.cond .o .o)) (.join [] [] (.block (.seq .o (.seq .o (.cond .o .o)))) .o))))) (.seq (.seq .o (.cond (.seq .o .o) .o)) (.join [] [] (.block (.loop [] [] (.seq (.seq .o (.cond .o .o)) (.block (.seq .o (.seq .o (.seq .o (.cond (.seq .o .o) .o)))))))) (.seq .o .o))))))))))))
theorem sh_postroadlaw03_HeapClears.is (CV : CVT) (keys0 : SV) (out0 : Int) (w : World) (R : Value → World → Prop) : sh_postroadlaw03_HeapClears keys0 out0 (fun r0 w' => R (.bool r0) w') w = denF (cx_postroadlaw03_HeapSteps.with CV) Try.f12 sh_postroadlaw03_HeapClears.plan [.v (.slice keys0.a keys0.len keys0.cap), .v (.int .u8 out0)] w R := by kernel_rfl
theorem sh_postroadlaw03_HeapClears.calls (CV : CVT) (keys0 : SV) (out0 : Int) (hcv : CVOk Try.prog CV) {w : World} {R : Ending → World → Prop} (h : sh_postroadlaw03_HeapClears keys0 out0 (fun r0 w' => R (.returned (.bool r0)) w') w) : Calls Try.prog 12 #[(.slice keys0.a keys0.len keys0.cap), (.int .u8 out0)] w R :=
  calls_is (cx := cx_postroadlaw03_HeapSteps.with CV) mixed_Try (cx_postroadlaw03_HeapSteps.ok.with CV) hcv Try.func12 sh_postroadlaw03_HeapClears.plan (xs := [.v (.slice keys0.a keys0.len keys0.cap), .v (.int .u8 out0)]) ((args_cons _ (args_cons _ args_nil))) (by kernel_rfl) (sh_postroadlaw03_HeapClears.is CV keys0 out0 w (fun v w' => R (.returned v) w')) h
def sh_postroadlaw03_HeapClears.o : CVT → List X → (Value → World → Prop) → World → Prop
  | CV, [.v (.slice keys0_a keys0_l keys0_c), .v (.int .u8 out0)], K, w => sh_postroadlaw03_HeapClears ⟨keys0_a, keys0_l, keys0_c⟩ out0 (fun r0 w' => K (.bool r0) w') w
  | _, _, _, _ => False
def sh_postroadlaw03_HeapClears.q : CVT → List X → World → (Value → Prop) → Prop
  | CV, [.v (.slice keys0_a keys0_l keys0_c), .v (.int .u8 out0)], w, K => Quiet (Bool) (fun r => (.bool r)) (fun K1 w' => sh_postroadlaw03_HeapClears ⟨keys0_a, keys0_l, keys0_c⟩ out0 (fun r0 w'' => K1 r0 w'') w') w (fun r => K (.bool r))
  | _, _, _, _ => False
noncomputable def cx_postroadlaw03_HeapClears : Cx := Cx.add Try.prog cx_postroadlaw03_HeapSteps 12 sh_postroadlaw03_HeapClears.o sh_postroadlaw03_HeapClears.q
theorem cx_postroadlaw03_HeapClears.ok : CxOk cx_postroadlaw03_HeapClears := by
  refine CxOk.add cx_postroadlaw03_HeapSteps.ok rfl (fun CV hcv xs K w hx h => ?_) (fun CV hcv xs K w hx h => ?_)
  · unfold sh_postroadlaw03_HeapClears.o at h; split at h
    · rename_i keys0_a keys0_l keys0_c out0; exact sh_postroadlaw03_HeapClears.calls CV ⟨keys0_a, keys0_l, keys0_c⟩ out0 hcv h
    · exact h.elim
  · unfold sh_postroadlaw03_HeapClears.q at h; split at h
    · rename_i keys0_a keys0_l keys0_c out0; obtain ⟨r, h1, h2⟩ := h; exact ⟨_, h2, fun w' e => sh_postroadlaw03_HeapClears.calls CV ⟨keys0_a, keys0_l, keys0_c⟩ out0 hcv (h1 w' e)⟩
    · exact h.elim
def sh_postroadlaw03_HeapTwo.plan : Plan := (.seq .o (.seq (.seq .o (.cond (.seq .o .o) .o)) (.seq .o (.seq .o (.seq .o (.join [] [] (.seq .o (.block (.loop [.slot 8 (.int .i64)] [] (.join [] [] (.seq .o (.cond .o .o)) (.join [] [] (.block (.join [] [] (.seq .o (.cond .o .o)) (.seq (.seq .o (.cond .o .o)) (.seq .o (.seq .o (.seq .o (.cond (.seq .o .o) .o))))))) .o))))) (.seq .o .o)))))))
theorem sh_postroadlaw03_HeapTwo.is (CV : CVT) (a0 : SV) (b0 : SV) (w : World) (R : Value → World → Prop) : sh_postroadlaw03_HeapTwo a0 b0 (fun r0 w' => R (.bool r0) w') w = denF (cx_postroadlaw03_HeapClears.with CV) Try.f13 sh_postroadlaw03_HeapTwo.plan [.v (.slice a0.a a0.len a0.cap), .v (.slice b0.a b0.len b0.cap)] w R := by kernel_rfl
theorem sh_postroadlaw03_HeapTwo.calls (CV : CVT) (a0 : SV) (b0 : SV) (hcv : CVOk Try.prog CV) {w : World} {R : Ending → World → Prop} (h : sh_postroadlaw03_HeapTwo a0 b0 (fun r0 w' => R (.returned (.bool r0)) w') w) : Calls Try.prog 13 #[(.slice a0.a a0.len a0.cap), (.slice b0.a b0.len b0.cap)] w R :=
  calls_is (cx := cx_postroadlaw03_HeapClears.with CV) mixed_Try (cx_postroadlaw03_HeapClears.ok.with CV) hcv Try.func13 sh_postroadlaw03_HeapTwo.plan (xs := [.v (.slice a0.a a0.len a0.cap), .v (.slice b0.a b0.len b0.cap)]) ((args_cons _ (args_cons _ args_nil))) (by kernel_rfl) (sh_postroadlaw03_HeapTwo.is CV a0 b0 w (fun v w' => R (.returned v) w')) h
def sh_postroadlaw03_HeapTwo.o : CVT → List X → (Value → World → Prop) → World → Prop
  | CV, [.v (.slice a0_a a0_l a0_c), .v (.slice b0_a b0_l b0_c)], K, w => sh_postroadlaw03_HeapTwo ⟨a0_a, a0_l, a0_c⟩ ⟨b0_a, b0_l, b0_c⟩ (fun r0 w' => K (.bool r0) w') w
  | _, _, _, _ => False
def sh_postroadlaw03_HeapTwo.q : CVT → List X → World → (Value → Prop) → Prop
  | CV, [.v (.slice a0_a a0_l a0_c), .v (.slice b0_a b0_l b0_c)], w, K => Quiet (Bool) (fun r => (.bool r)) (fun K1 w' => sh_postroadlaw03_HeapTwo ⟨a0_a, a0_l, a0_c⟩ ⟨b0_a, b0_l, b0_c⟩ (fun r0 w'' => K1 r0 w'') w') w (fun r => K (.bool r))
  | _, _, _, _ => False
noncomputable def cx_postroadlaw03_HeapTwo : Cx := Cx.add Try.prog cx_postroadlaw03_HeapClears 13 sh_postroadlaw03_HeapTwo.o sh_postroadlaw03_HeapTwo.q
theorem cx_postroadlaw03_HeapTwo.ok : CxOk cx_postroadlaw03_HeapTwo := by
  refine CxOk.add cx_postroadlaw03_HeapClears.ok rfl (fun CV hcv xs K w hx h => ?_) (fun CV hcv xs K w hx h => ?_)
  · unfold sh_postroadlaw03_HeapTwo.o at h; split at h
    · rename_i a0_a a0_l a0_c b0_a b0_l b0_c; exact sh_postroadlaw03_HeapTwo.calls CV ⟨a0_a, a0_l, a0_c⟩ ⟨b0_a, b0_l, b0_c⟩ hcv h
    · exact h.elim
  · unfold sh_postroadlaw03_HeapTwo.q at h; split at h
    · rename_i a0_a a0_l a0_c b0_a b0_l b0_c; obtain ⟨r, h1, h2⟩ := h; exact ⟨_, h2, fun w' e => sh_postroadlaw03_HeapTwo.calls CV ⟨a0_a, a0_l, a0_c⟩ ⟨b0_a, b0_l, b0_c⟩ hcv (h1 w' e)⟩
    · exact h.elim
def sh_postroadlaw03_HeapPops.plan : Plan := (.seq .o (.seq (.seq .o (.cond (.seq .o .o) .o)) (.seq .o (.join [] [] (.seq .o (.block (.loop [.slot 4 (.int .i64)] [] (.seq (.seq .o (.cond .o .o)) (.seq (.block .o) .o))))) (.join [] [] (.block (.loop [] [] (.seq (.seq .o (.cond .o .o)) (.block (.seq .o (.seq .o (.seq .o (.seq .o (.seq .o (.cond (.seq .o .o) .o)))))))))) (.seq .o (.seq .o .o)))))))
theorem sh_postroadlaw03_HeapPops.is (CV : CVT) (l0 : SV) (w : World) (R : Value → World → Prop) : sh_postroadlaw03_HeapPops l0 (fun r0 w' => R (.bool r0) w') w = denF (cx_postroadlaw03_HeapTwo.with CV) Try.f14 sh_postroadlaw03_HeapPops.plan [.v (.slice l0.a l0.len l0.cap)] w R := by kernel_rfl
theorem sh_postroadlaw03_HeapPops.calls (CV : CVT) (l0 : SV) (hcv : CVOk Try.prog CV) {w : World} {R : Ending → World → Prop} (h : sh_postroadlaw03_HeapPops l0 (fun r0 w' => R (.returned (.bool r0)) w') w) : Calls Try.prog 14 #[(.slice l0.a l0.len l0.cap)] w R :=
  calls_is (cx := cx_postroadlaw03_HeapTwo.with CV) mixed_Try (cx_postroadlaw03_HeapTwo.ok.with CV) hcv Try.func14 sh_postroadlaw03_HeapPops.plan (xs := [.v (.slice l0.a l0.len l0.cap)]) ((args_cons _ args_nil)) (by kernel_rfl) (sh_postroadlaw03_HeapPops.is CV l0 w (fun v w' => R (.returned v) w')) h
def sh_postroadlaw03_HeapPops.o : CVT → List X → (Value → World → Prop) → World → Prop
  | CV, [.v (.slice l0_a l0_l l0_c)], K, w => sh_postroadlaw03_HeapPops ⟨l0_a, l0_l, l0_c⟩ (fun r0 w' => K (.bool r0) w') w
  | _, _, _, _ => False
def sh_postroadlaw03_HeapPops.q : CVT → List X → World → (Value → Prop) → Prop
  | CV, [.v (.slice l0_a l0_l l0_c)], w, K => Quiet (Bool) (fun r => (.bool r)) (fun K1 w' => sh_postroadlaw03_HeapPops ⟨l0_a, l0_l, l0_c⟩ (fun r0 w'' => K1 r0 w'') w') w (fun r => K (.bool r))
  | _, _, _, _ => False
noncomputable def cx_postroadlaw03_HeapPops : Cx := Cx.add Try.prog cx_postroadlaw03_HeapTwo 14 sh_postroadlaw03_HeapPops.o sh_postroadlaw03_HeapPops.q
theorem cx_postroadlaw03_HeapPops.ok : CxOk cx_postroadlaw03_HeapPops := by
  refine CxOk.add cx_postroadlaw03_HeapTwo.ok rfl (fun CV hcv xs K w hx h => ?_) (fun CV hcv xs K w hx h => ?_)
  · unfold sh_postroadlaw03_HeapPops.o at h; split at h
    · rename_i l0_a l0_l l0_c; exact sh_postroadlaw03_HeapPops.calls CV ⟨l0_a, l0_l, l0_c⟩ hcv h
    · exact h.elim
  · unfold sh_postroadlaw03_HeapPops.q at h; split at h
    · rename_i l0_a l0_l l0_c; obtain ⟨r, h1, h2⟩ := h; exact ⟨_, h2, fun w' e => sh_postroadlaw03_HeapPops.calls CV ⟨l0_a, l0_l, l0_c⟩ hcv (h1 w' e)⟩
    · exact h.elim
noncomputable def cxAll : Cx := cx_postroadlaw03_HeapPops
theorem cxAll.ok : CxOk cxAll := cx_postroadlaw03_HeapPops.ok
end Go.Sh
