/- The shallow definitions are what the code asks; printed by gen.py of these sessions. -/
import Derived.Test.YthpbelgmppaafaaHeapDef
import Derived.Test.YthpbelgmppaafaaSnd8
import Derived.Test.YthpbelgmppaafaaProg
import Derived.KernelRfl
set_option maxRecDepth 100000
set_option linter.unusedVariables false
namespace Go.Sh
open Go.Proofs
theorem mixed_Try : Try.prog.follows .mixedOrders = true := by kernel_rfl
noncomputable def cx_0 : Cx := Cx.none Try.prog
theorem cx_0.ok : CxOk cx_0 := CxOk.none _
def sh_cmp_isNaN_int.plan : Plan := (.seq .o (.seq .o .o))
theorem sh_cmp_isNaN_int.is (CV : CVT) (x0 : Int) (w : World) (R : Value → World → Prop) : sh_cmp_isNaN_int x0 (fun r0 w' => R (.bool r0) w') w = denF (cx_0.with CV) Try.f74 sh_cmp_isNaN_int.plan [.v (.int .i64 x0)] w R := by kernel_rfl
theorem sh_cmp_isNaN_int.calls (CV : CVT) (x0 : Int) (hcv : CVOk Try.prog CV) {w : World} {R : Ending → World → Prop} (h : sh_cmp_isNaN_int x0 (fun r0 w' => R (.returned (.bool r0)) w') w) : Calls Try.prog 74 #[(.int .i64 x0)] w R :=
  calls_is (cx := cx_0.with CV) mixed_Try (cx_0.ok.with CV) hcv Try.func74 sh_cmp_isNaN_int.plan (xs := [.v (.int .i64 x0)]) ((args_cons _ args_nil)) (by kernel_rfl) (sh_cmp_isNaN_int.is CV x0 w (fun v w' => R (.returned v) w')) h
def sh_cmp_isNaN_int.o : CVT → List X → (Value → World → Prop) → World → Prop
  | CV, [.v (.int .i64 x0)], K, w => sh_cmp_isNaN_int x0 (fun r0 w' => K (.bool r0) w') w
  | _, _, _, _ => False
def sh_cmp_isNaN_int.q : CVT → List X → World → (Value → Prop) → Prop
  | CV, [.v (.int .i64 x0)], w, K => Quiet (Bool) (fun r => (.bool r)) (fun K1 w' => sh_cmp_isNaN_int x0 (fun r0 w'' => K1 r0 w'') w') w (fun r => K (.bool r))
  | _, _, _, _ => False
noncomputable def cx_cmp_isNaN_int : Cx := Cx.add Try.prog cx_0 74 sh_cmp_isNaN_int.o sh_cmp_isNaN_int.q
theorem cx_cmp_isNaN_int.ok : CxOk cx_cmp_isNaN_int := by
  refine CxOk.add cx_0.ok rfl (fun CV hcv xs K w hx h => ?_) (fun CV hcv xs K w hx h => ?_)
  · unfold sh_cmp_isNaN_int.o at h; split at h
    · rename_i x0; exact sh_cmp_isNaN_int.calls CV x0 hcv h
    · exact h.elim
  · unfold sh_cmp_isNaN_int.q at h; split at h
    · rename_i x0; obtain ⟨r, h1, h2⟩ := h; exact ⟨_, h2, fun w' e => sh_cmp_isNaN_int.calls CV x0 hcv (h1 w' e)⟩
    · exact h.elim
def sh_cmp_Compare_int.plan : Plan := (.seq .o (.seq .o (.seq .o (.seq (.seq .o (.cond (.seq (.seq .o (.cond (.seq .o .o) .o)) (.seq .o .o)) .o)) (.seq (.seq .o (.cond (.seq .o .o) .o)) (.seq (.seq .o (.cond (.seq .o .o) .o)) (.seq (.seq .o (.cond (.seq .o .o) .o)) (.seq .o .o))))))))
theorem sh_cmp_Compare_int.is (CV : CVT) (x0 : Int) (y0 : Int) (w : World) (R : Value → World → Prop) : sh_cmp_Compare_int x0 y0 (fun r0 w' => R (.int .i64 r0) w') w = denF (cx_cmp_isNaN_int.with CV) Try.f73 sh_cmp_Compare_int.plan [.v (.int .i64 x0), .v (.int .i64 y0)] w R := by kernel_rfl
theorem sh_cmp_Compare_int.calls (CV : CVT) (x0 : Int) (y0 : Int) (hcv : CVOk Try.prog CV) {w : World} {R : Ending → World → Prop} (h : sh_cmp_Compare_int x0 y0 (fun r0 w' => R (.returned (.int .i64 r0)) w') w) : Calls Try.prog 73 #[(.int .i64 x0), (.int .i64 y0)] w R :=
  calls_is (cx := cx_cmp_isNaN_int.with CV) mixed_Try (cx_cmp_isNaN_int.ok.with CV) hcv Try.func73 sh_cmp_Compare_int.plan (xs := [.v (.int .i64 x0), .v (.int .i64 y0)]) ((args_cons _ (args_cons _ args_nil))) (by kernel_rfl) (sh_cmp_Compare_int.is CV x0 y0 w (fun v w' => R (.returned v) w')) h
def sh_cmp_Compare_int.o : CVT → List X → (Value → World → Prop) → World → Prop
  | CV, [.v (.int .i64 x0), .v (.int .i64 y0)], K, w => sh_cmp_Compare_int x0 y0 (fun r0 w' => K (.int .i64 r0) w') w
  | _, _, _, _ => False
def sh_cmp_Compare_int.q : CVT → List X → World → (Value → Prop) → Prop
  | CV, [.v (.int .i64 x0), .v (.int .i64 y0)], w, K => Quiet (Int) (fun r => (.int .i64 r)) (fun K1 w' => sh_cmp_Compare_int x0 y0 (fun r0 w'' => K1 r0 w'') w') w (fun r => K (.int .i64 r))
  | _, _, _, _ => False
noncomputable def cx_cmp_Compare_int : Cx := Cx.add Try.prog cx_cmp_isNaN_int 73 sh_cmp_Compare_int.o sh_cmp_Compare_int.q
theorem cx_cmp_Compare_int.ok : CxOk cx_cmp_Compare_int := by
  refine CxOk.add cx_cmp_isNaN_int.ok rfl (fun CV hcv xs K w hx h => ?_) (fun CV hcv xs K w hx h => ?_)
  · unfold sh_cmp_Compare_int.o at h; split at h
    · rename_i x0 y0; exact sh_cmp_Compare_int.calls CV x0 y0 hcv h
    · exact h.elim
  · unfold sh_cmp_Compare_int.q at h; split at h
    · rename_i x0 y0; obtain ⟨r, h1, h2⟩ := h; exact ⟨_, h2, fun w' e => sh_cmp_Compare_int.calls CV x0 y0 hcv (h1 w' e)⟩
    · exact h.elim
def sh_cmp_Or_int.plan : Plan := (.seq .o (.seq .o (.seq (.seq .o (.block (.loop [.slot 8 (.int .i64)] [] (.seq .o (.seq (.cond .o .o) (.seq (.block (.seq .o (.seq .o (.cond (.seq .o .o) .o)))) .o)))))) (.seq .o .o))))
theorem sh_cmp_Or_int.is (CV : CVT) (vals0 : SV) (w : World) (R : Value → World → Prop) : sh_cmp_Or_int vals0 (fun r0 w' => R (.int .i64 r0) w') w = denF (cx_cmp_Compare_int.with CV) Try.f72 sh_cmp_Or_int.plan [.v (.slice vals0.a vals0.len vals0.cap)] w R := by kernel_rfl
theorem sh_cmp_Or_int.calls (CV : CVT) (vals0 : SV) (hcv : CVOk Try.prog CV) {w : World} {R : Ending → World → Prop} (h : sh_cmp_Or_int vals0 (fun r0 w' => R (.returned (.int .i64 r0)) w') w) : Calls Try.prog 72 #[(.slice vals0.a vals0.len vals0.cap)] w R :=
  calls_is (cx := cx_cmp_Compare_int.with CV) mixed_Try (cx_cmp_Compare_int.ok.with CV) hcv Try.func72 sh_cmp_Or_int.plan (xs := [.v (.slice vals0.a vals0.len vals0.cap)]) ((args_cons _ args_nil)) (by kernel_rfl) (sh_cmp_Or_int.is CV vals0 w (fun v w' => R (.returned v) w')) h
def sh_cmp_Or_int.o : CVT → List X → (Value → World → Prop) → World → Prop
  | CV, [.v (.slice vals0_a vals0_l vals0_c)], K, w => sh_cmp_Or_int ⟨vals0_a, vals0_l, vals0_c⟩ (fun r0 w' => K (.int .i64 r0) w') w
  | _, _, _, _ => False
def sh_cmp_Or_int.q : CVT → List X → World → (Value → Prop) → Prop
  | CV, [.v (.slice vals0_a vals0_l vals0_c)], w, K => Quiet (Int) (fun r => (.int .i64 r)) (fun K1 w' => sh_cmp_Or_int ⟨vals0_a, vals0_l, vals0_c⟩ (fun r0 w'' => K1 r0 w'') w') w (fun r => K (.int .i64 r))
  | _, _, _, _ => False
noncomputable def cx_cmp_Or_int : Cx := Cx.add Try.prog cx_cmp_Compare_int 72 sh_cmp_Or_int.o sh_cmp_Or_int.q
theorem cx_cmp_Or_int.ok : CxOk cx_cmp_Or_int := by
  refine CxOk.add cx_cmp_Compare_int.ok rfl (fun CV hcv xs K w hx h => ?_) (fun CV hcv xs K w hx h => ?_)
  · unfold sh_cmp_Or_int.o at h; split at h
    · rename_i vals0_a vals0_l vals0_c; exact sh_cmp_Or_int.calls CV ⟨vals0_a, vals0_l, vals0_c⟩ hcv h
    · exact h.elim
  · unfold sh_cmp_Or_int.q at h; split at h
    · rename_i vals0_a vals0_l vals0_c; obtain ⟨r, h1, h2⟩ := h; exact ⟨_, h2, fun w' e => sh_cmp_Or_int.calls CV ⟨vals0_a, vals0_l, vals0_c⟩ hcv (h1 w' e)⟩
    · exact h.elim
def sh_heap_entry_before.plan : Plan := (.seq .o (.seq (.draw [] [.pure, .loc, .pure, .loc, .quiet, .pure, .loc, .pure, .loc, .quiet, .new, .quiet, .pure, .pure] [0, 1, 2, 3, 4, 5, 6, 7, 8, 9, 10, 11, 12, 13]) .o))
theorem sh_heap_entry_before.is (CV : CVT) (e0_id : Int) (e0_key : Int) (f0_id : Int) (f0_key : Int) (w : World) (R : Value → World → Prop) : sh_heap_entry_before e0_id e0_key f0_id f0_key (fun r0 w' => R (.bool r0) w') w = denF (cx_cmp_Or_int.with CV) Try.f71 sh_heap_entry_before.plan [.v (.agg #[(.int .i64 e0_id), (.int .i64 e0_key)]), .v (.agg #[(.int .i64 f0_id), (.int .i64 f0_key)])] w R := by kernel_rfl
theorem sh_heap_entry_before.calls (CV : CVT) (e0_id : Int) (e0_key : Int) (f0_id : Int) (f0_key : Int) (hcv : CVOk Try.prog CV) {w : World} {R : Ending → World → Prop} (h : sh_heap_entry_before e0_id e0_key f0_id f0_key (fun r0 w' => R (.returned (.bool r0)) w') w) : Calls Try.prog 71 #[(.agg #[(.int .i64 e0_id), (.int .i64 e0_key)]), (.agg #[(.int .i64 f0_id), (.int .i64 f0_key)])] w R :=
  calls_is (cx := cx_cmp_Or_int.with CV) mixed_Try (cx_cmp_Or_int.ok.with CV) hcv Try.func71 sh_heap_entry_before.plan (xs := [.v (.agg #[(.int .i64 e0_id), (.int .i64 e0_key)]), .v (.agg #[(.int .i64 f0_id), (.int .i64 f0_key)])]) ((args_cons _ (args_cons _ args_nil))) (by kernel_rfl) (sh_heap_entry_before.is CV e0_id e0_key f0_id f0_key w (fun v w' => R (.returned v) w')) h
def sh_heap_entry_before.o : CVT → List X → (Value → World → Prop) → World → Prop
  | CV, [.v (.agg ⟨[.int .i64 e0_id, .int .i64 e0_key]⟩), .v (.agg ⟨[.int .i64 f0_id, .int .i64 f0_key]⟩)], K, w => sh_heap_entry_before e0_id e0_key f0_id f0_key (fun r0 w' => K (.bool r0) w') w
  | _, _, _, _ => False
def sh_heap_entry_before.q : CVT → List X → World → (Value → Prop) → Prop
  | CV, [.v (.agg ⟨[.int .i64 e0_id, .int .i64 e0_key]⟩), .v (.agg ⟨[.int .i64 f0_id, .int .i64 f0_key]⟩)], w, K => Quiet (Bool) (fun r => (.bool r)) (fun K1 w' => sh_heap_entry_before e0_id e0_key f0_id f0_key (fun r0 w'' => K1 r0 w'') w') w (fun r => K (.bool r))
  | _, _, _, _ => False
noncomputable def cx_heap_entry_before : Cx := Cx.add Try.prog cx_cmp_Or_int 71 sh_heap_entry_before.o sh_heap_entry_before.q
theorem cx_heap_entry_before.ok : CxOk cx_heap_entry_before := by
  refine CxOk.add cx_cmp_Or_int.ok rfl (fun CV hcv xs K w hx h => ?_) (fun CV hcv xs K w hx h => ?_)
  · unfold sh_heap_entry_before.o at h; split at h
    · rename_i e0_id e0_key f0_id f0_key; exact sh_heap_entry_before.calls CV e0_id e0_key f0_id f0_key hcv h
    · exact h.elim
  · unfold sh_heap_entry_before.q at h; split at h
    · rename_i e0_id e0_key f0_id f0_key; obtain ⟨r, h1, h2⟩ := h; exact ⟨_, h2, fun w' e => sh_heap_entry_before.calls CV e0_id e0_key f0_id f0_key hcv (h1 w' e)⟩
    · exact h.elim
def sh_heap_queue_lay.plan : Plan := (.seq .o (.seq (.draw [] [.pure, .pure, .pure, .quiet, .pure, .loc, .pure, .big] [0, 1, 2, 3, 4, 5, 6, 7]) (.draw [] [.pure, .pure, .pure, .quiet, .pure, .loc, .pure, .pure, .pure, .big] [0, 1, 2, 3, 4, 5, 6, 7, 8, 9])))
theorem sh_heap_queue_lay.is (CV : CVT) (q0 : Option Addr) (i0 : Int) (e0_id : Int) (e0_key : Int) (w : World) (R : Value → World → Prop) : sh_heap_queue_lay q0 i0 e0_id e0_key (fun w' => R (.tuple #[]) w') w = denF (cx_heap_entry_before.with CV) Try.f68 sh_heap_queue_lay.plan [.v (.pointer q0), .v (.int .i64 i0), .v (.agg #[(.int .i64 e0_id), (.int .i64 e0_key)])] w R := by kernel_rfl
theorem sh_heap_queue_lay.calls (CV : CVT) (q0 : Option Addr) (i0 : Int) (e0_id : Int) (e0_key : Int) (hcv : CVOk Try.prog CV) {w : World} {R : Ending → World → Prop} (h : sh_heap_queue_lay q0 i0 e0_id e0_key (fun w' => R (.returned (.tuple #[])) w') w) : Calls Try.prog 68 #[(.pointer q0), (.int .i64 i0), (.agg #[(.int .i64 e0_id), (.int .i64 e0_key)])] w R :=
  calls_is (cx := cx_heap_entry_before.with CV) mixed_Try (cx_heap_entry_before.ok.with CV) hcv Try.func68 sh_heap_queue_lay.plan (xs := [.v (.pointer q0), .v (.int .i64 i0), .v (.agg #[(.int .i64 e0_id), (.int .i64 e0_key)])]) ((args_cons _ (args_cons _ (args_cons _ args_nil)))) (by kernel_rfl) (sh_heap_queue_lay.is CV q0 i0 e0_id e0_key w (fun v w' => R (.returned v) w')) h
def sh_heap_queue_lay.o : CVT → List X → (Value → World → Prop) → World → Prop
  | CV, [.v (.pointer q0), .v (.int .i64 i0), .v (.agg ⟨[.int .i64 e0_id, .int .i64 e0_key]⟩)], K, w => sh_heap_queue_lay q0 i0 e0_id e0_key (fun w' => K (.tuple #[]) w') w
  | _, _, _, _ => False
def sh_heap_queue_lay.q : CVT → List X → World → (Value → Prop) → Prop
  | CV, [.v (.pointer q0), .v (.int .i64 i0), .v (.agg ⟨[.int .i64 e0_id, .int .i64 e0_key]⟩)], w, K => Quiet (Unit) (fun r => (.tuple #[])) (fun K1 w' => sh_heap_queue_lay q0 i0 e0_id e0_key (fun w'' => K1 () w'') w') w (fun r => K (.tuple #[]))
  | _, _, _, _ => False
noncomputable def cx_heap_queue_lay : Cx := Cx.add Try.prog cx_heap_entry_before 68 sh_heap_queue_lay.o sh_heap_queue_lay.q
theorem cx_heap_queue_lay.ok : CxOk cx_heap_queue_lay := by
  refine CxOk.add cx_heap_entry_before.ok rfl (fun CV hcv xs K w hx h => ?_) (fun CV hcv xs K w hx h => ?_)
  · unfold sh_heap_queue_lay.o at h; split at h
    · rename_i q0 i0 e0_id e0_key; exact sh_heap_queue_lay.calls CV q0 i0 e0_id e0_key hcv h
    · exact h.elim
  · unfold sh_heap_queue_lay.q at h; split at h
    · rename_i q0 i0 e0_id e0_key; obtain ⟨r, h1, h2⟩ := h; exact ⟨_, h2, fun w' e => sh_heap_queue_lay.calls CV q0 i0 e0_id e0_key hcv (h1 w' e)⟩
    · exact h.elim
def sh_heap_queue_rise.plan : Plan := (.seq .o (.join [.slot 1 (.int .i64)] [] (.block (.loop [.slot 1 (.int .i64)] [] (.seq (.seq (.draw [] [.pure, .pure, .pure, .loc, .pure, .pure, .pure, .quiet, .pure, .pure, .pure, .pure, .quiet, .quiet, .pure] [0, 1, 2, 3, 4, 5, 6, 7, 8, 9, 10, 11, 12, 13, 14]) (.cond .o .o)) (.block (.seq .o .o))))) .o))
theorem sh_heap_queue_rise.is (CV : CVT) (q0 : Option Addr) (i0 : Int) (w : World) (R : Value → World → Prop) : sh_heap_queue_rise q0 i0 (fun w' => R (.tuple #[]) w') w = denF (cx_heap_queue_lay.with CV) Try.f70 sh_heap_queue_rise.plan [.v (.pointer q0), .v (.int .i64 i0)] w R := by kernel_rfl
theorem sh_heap_queue_rise.calls (CV : CVT) (q0 : Option Addr) (i0 : Int) (hcv : CVOk Try.prog CV) {w : World} {R : Ending → World → Prop} (h : sh_heap_queue_rise q0 i0 (fun w' => R (.returned (.tuple #[])) w') w) : Calls Try.prog 70 #[(.pointer q0), (.int .i64 i0)] w R :=
  calls_is (cx := cx_heap_queue_lay.with CV) mixed_Try (cx_heap_queue_lay.ok.with CV) hcv Try.func70 sh_heap_queue_rise.plan (xs := [.v (.pointer q0), .v (.int .i64 i0)]) ((args_cons _ (args_cons _ args_nil))) (by kernel_rfl) (sh_heap_queue_rise.is CV q0 i0 w (fun v w' => R (.returned v) w')) h
def sh_heap_queue_rise.o : CVT → List X → (Value → World → Prop) → World → Prop
  | CV, [.v (.pointer q0), .v (.int .i64 i0)], K, w => sh_heap_queue_rise q0 i0 (fun w' => K (.tuple #[]) w') w
  | _, _, _, _ => False
def sh_heap_queue_rise.q : CVT → List X → World → (Value → Prop) → Prop
  | CV, [.v (.pointer q0), .v (.int .i64 i0)], w, K => Quiet (Unit) (fun r => (.tuple #[])) (fun K1 w' => sh_heap_queue_rise q0 i0 (fun w'' => K1 () w'') w') w (fun r => K (.tuple #[]))
  | _, _, _, _ => False
noncomputable def cx_heap_queue_rise : Cx := Cx.add Try.prog cx_heap_queue_lay 70 sh_heap_queue_rise.o sh_heap_queue_rise.q
theorem cx_heap_queue_rise.ok : CxOk cx_heap_queue_rise := by
  refine CxOk.add cx_heap_queue_lay.ok rfl (fun CV hcv xs K w hx h => ?_) (fun CV hcv xs K w hx h => ?_)
  · unfold sh_heap_queue_rise.o at h; split at h
    · rename_i q0 i0; exact sh_heap_queue_rise.calls CV q0 i0 hcv h
    · exact h.elim
  · unfold sh_heap_queue_rise.q at h; split at h
    · rename_i q0 i0; obtain ⟨r, h1, h2⟩ := h; exact ⟨_, h2, fun w' e => sh_heap_queue_rise.calls CV q0 i0 hcv (h1 w' e)⟩
    · exact h.elim
def sh_heap_queue_sink.plan : Plan := (.scope (.seq .o (.seq .o (.join [.slot 1 (.int .i64)] [] (.block (.loop [.slot 1 (.int .i64)] [] (.block (.seq .o (.join [.slot 5 (.int .i64)] [] (.seq (.draw [] [.pure, .pure, .pure, .pure, .pure, .quiet, .pure, .pure, .pure, .pure, .pure, .pure, .quiet, .pure, .pure, .pure, .quiet, .pure, .pure, .pure, .quiet, .pure, .pure, .quiet, .quiet, .pure] [0, 1, 2, 3, 4, 5, 6, 7, 8, 9, 10, 11, 12, 13, 14, 15, 16, 17, 18, 19, 20, 21, 22, 23, 24, 25]) (.cond .o .o)) (.seq (.seq (.draw [] [.pure, .pure, .pure, .pure, .quiet, .pure, .pure, .pure, .loc, .pure, .pure, .pure, .quiet, .pure, .pure, .quiet, .quiet, .pure] [0, 1, 2, 3, 4, 5, 6, 7, 8, 9, 10, 11, 12, 13, 14, 15, 16, 17]) (.cond .o .o)) (.seq .o .o))))))) .o))))
theorem sh_heap_queue_sink.is (CV : CVT) (q0 : Option Addr) (i0 : Int) (w : World) (R : Value → World → Prop) : sh_heap_queue_sink q0 i0 (fun w' => R (.tuple #[]) w') w = denF (cx_heap_queue_rise.with CV) Try.f69 sh_heap_queue_sink.plan [.v (.pointer q0), .v (.int .i64 i0)] w R := by kernel_rfl
theorem sh_heap_queue_sink.calls (CV : CVT) (q0 : Option Addr) (i0 : Int) (hcv : CVOk Try.prog CV) {w : World} {R : Ending → World → Prop} (h : sh_heap_queue_sink q0 i0 (fun w' => R (.returned (.tuple #[])) w') w) : Calls Try.prog 69 #[(.pointer q0), (.int .i64 i0)] w R :=
  calls_is (cx := cx_heap_queue_rise.with CV) mixed_Try (cx_heap_queue_rise.ok.with CV) hcv Try.func69 sh_heap_queue_sink.plan (xs := [.v (.pointer q0), .v (.int .i64 i0)]) ((args_cons _ (args_cons _ args_nil))) (by kernel_rfl) (sh_heap_queue_sink.is CV q0 i0 w (fun v w' => R (.returned v) w')) h
def sh_heap_queue_sink.o : CVT → List X → (Value → World → Prop) → World → Prop
  | CV, [.v (.pointer q0), .v (.int .i64 i0)], K, w => sh_heap_queue_sink q0 i0 (fun w' => K (.tuple #[]) w') w
  | _, _, _, _ => False
def sh_heap_queue_sink.q : CVT → List X → World → (Value → Prop) → Prop
  | CV, [.v (.pointer q0), .v (.int .i64 i0)], w, K => Quiet (Unit) (fun r => (.tuple #[])) (fun K1 w' => sh_heap_queue_sink q0 i0 (fun w'' => K1 () w'') w') w (fun r => K (.tuple #[]))
  | _, _, _, _ => False
noncomputable def cx_heap_queue_sink : Cx := Cx.add Try.prog cx_heap_queue_rise 69 sh_heap_queue_sink.o sh_heap_queue_sink.q
theorem cx_heap_queue_sink.ok : CxOk cx_heap_queue_sink := by
  refine CxOk.add cx_heap_queue_rise.ok rfl (fun CV hcv xs K w hx h => ?_) (fun CV hcv xs K w hx h => ?_)
  · unfold sh_heap_queue_sink.o at h; split at h
    · rename_i q0 i0; exact sh_heap_queue_sink.calls CV q0 i0 hcv h
    · exact h.elim
  · unfold sh_heap_queue_sink.q at h; split at h
    · rename_i q0 i0; obtain ⟨r, h1, h2⟩ := h; exact ⟨_, h2, fun w' e => sh_heap_queue_sink.calls CV q0 i0 hcv (h1 w' e)⟩
    · exact h.elim
def sh_heap_queue_put.plan : Plan := (.seq .o (.join [.slot 6 (.int .i64)] [] (.seq .o (.cond (.seq .o .o) .o)) (.seq .o (.seq .o .o))))
theorem sh_heap_queue_put.is (CV : CVT) (q0 : Option Addr) (id0 : Int) (key0 : Int) (w : World) (R : Value → World → Prop) : sh_heap_queue_put q0 id0 key0 (fun w' => R (.tuple #[]) w') w = denF (cx_heap_queue_sink.with CV) Try.f59 sh_heap_queue_put.plan [.v (.pointer q0), .v (.int .i64 id0), .v (.int .i64 key0)] w R := by kernel_rfl
theorem sh_heap_queue_put.calls (CV : CVT) (q0 : Option Addr) (id0 : Int) (key0 : Int) (hcv : CVOk Try.prog CV) {w : World} {R : Ending → World → Prop} (h : sh_heap_queue_put q0 id0 key0 (fun w' => R (.returned (.tuple #[])) w') w) : Calls Try.prog 59 #[(.pointer q0), (.int .i64 id0), (.int .i64 key0)] w R :=
  calls_is (cx := cx_heap_queue_sink.with CV) mixed_Try (cx_heap_queue_sink.ok.with CV) hcv Try.func59 sh_heap_queue_put.plan (xs := [.v (.pointer q0), .v (.int .i64 id0), .v (.int .i64 key0)]) ((args_cons _ (args_cons _ (args_cons _ args_nil)))) (by kernel_rfl) (sh_heap_queue_put.is CV q0 id0 key0 w (fun v w' => R (.returned v) w')) h
def sh_heap_queue_put.o : CVT → List X → (Value → World → Prop) → World → Prop
  | CV, [.v (.pointer q0), .v (.int .i64 id0), .v (.int .i64 key0)], K, w => sh_heap_queue_put q0 id0 key0 (fun w' => K (.tuple #[]) w') w
  | _, _, _, _ => False
def sh_heap_queue_put.q : CVT → List X → World → (Value → Prop) → Prop
  | CV, [.v (.pointer q0), .v (.int .i64 id0), .v (.int .i64 key0)], w, K => Quiet (Unit) (fun r => (.tuple #[])) (fun K1 w' => sh_heap_queue_put q0 id0 key0 (fun w'' => K1 () w'') w') w (fun r => K (.tuple #[]))
  | _, _, _, _ => False
noncomputable def cx_heap_queue_put : Cx := Cx.add Try.prog cx_heap_queue_sink 59 sh_heap_queue_put.o sh_heap_queue_put.q
theorem cx_heap_queue_put.ok : CxOk cx_heap_queue_put := by
  refine CxOk.add cx_heap_queue_sink.ok rfl (fun CV hcv xs K w hx h => ?_) (fun CV hcv xs K w hx h => ?_)
  · unfold sh_heap_queue_put.o at h; split at h
    · rename_i q0 id0 key0; exact sh_heap_queue_put.calls CV q0 id0 key0 hcv h
    · exact h.elim
  · unfold sh_heap_queue_put.q at h; split at h
    · rename_i q0 id0 key0; obtain ⟨r, h1, h2⟩ := h; exact ⟨_, h2, fun w' e => sh_heap_queue_put.calls CV q0 id0 key0 hcv (h1 w' e)⟩
    · exact h.elim
def sh_heap_queue_drop.plan : Plan := (.seq (.draw [] [.pure, .pure, .pure, .quiet, .pure, .pure, .quiet, .pure, .pure, .pure, .pure, .quiet, .pure, .pure, .pure, .pure] [0, 1, 2, 3, 4, 5, 6, 7, 8, 9, 10, 11, 12, 13, 14, 15]) (.seq .o (.seq (.draw [] [.pure, .pure, .pure, .pure, .quiet, .pure, .pure, .pure, .pure, .quiet, .pure, .pure, .pure, .pure, .big, .pure, .big] [0, 1, 2, 3, 4, 5, 6, 7, 8, 9, 10, 11, 12, 13, 14, 15, 16]) (.seq (.seq .o (.cond .o .o)) (.seq .o (.seq .o (.draw [] [.pure, .pure, .pure, .pure, .quiet, .pure, .loc, .pure, .quiet, .pure, .big] [0, 1, 2, 3, 4, 5, 6, 7, 8, 9, 10])))))))
theorem sh_heap_queue_drop.is (CV : CVT) (q0 : Option Addr) (id0 : Int) (w : World) (R : Value → World → Prop) : sh_heap_queue_drop q0 id0 (fun w' => R (.tuple #[]) w') w = denF (cx_heap_queue_put.with CV) Try.f60 sh_heap_queue_drop.plan [.v (.pointer q0), .v (.int .i64 id0)] w R := by kernel_rfl
theorem sh_heap_queue_drop.calls (CV : CVT) (q0 : Option Addr) (id0 : Int) (hcv : CVOk Try.prog CV) {w : World} {R : Ending → World → Prop} (h : sh_heap_queue_drop q0 id0 (fun w' => R (.returned (.tuple #[])) w') w) : Calls Try.prog 60 #[(.pointer q0), (.int .i64 id0)] w R :=
  calls_is (cx := cx_heap_queue_put.with CV) mixed_Try (cx_heap_queue_put.ok.with CV) hcv Try.func60 sh_heap_queue_drop.plan (xs := [.v (.pointer q0), .v (.int .i64 id0)]) ((args_cons _ (args_cons _ args_nil))) (by kernel_rfl) (sh_heap_queue_drop.is CV q0 id0 w (fun v w' => R (.returned v) w')) h
def sh_heap_queue_drop.o : CVT → List X → (Value → World → Prop) → World → Prop
  | CV, [.v (.pointer q0), .v (.int .i64 id0)], K, w => sh_heap_queue_drop q0 id0 (fun w' => K (.tuple #[]) w') w
  | _, _, _, _ => False
def sh_heap_queue_drop.q : CVT → List X → World → (Value → Prop) → Prop
  | CV, [.v (.pointer q0), .v (.int .i64 id0)], w, K => Quiet (Unit) (fun r => (.tuple #[])) (fun K1 w' => sh_heap_queue_drop q0 id0 (fun w'' => K1 () w'') w') w (fun r => K (.tuple #[]))
  | _, _, _, _ => False
noncomputable def cx_heap_queue_drop : Cx := Cx.add Try.prog cx_heap_queue_put 60 sh_heap_queue_drop.o sh_heap_queue_drop.q
theorem cx_heap_queue_drop.ok : CxOk cx_heap_queue_drop := by
  refine CxOk.add cx_heap_queue_put.ok rfl (fun CV hcv xs K w hx h => ?_) (fun CV hcv xs K w hx h => ?_)
  · unfold sh_heap_queue_drop.o at h; split at h
    · rename_i q0 id0; exact sh_heap_queue_drop.calls CV q0 id0 hcv h
    · exact h.elim
  · unfold sh_heap_queue_drop.q at h; split at h
    · rename_i q0 id0; obtain ⟨r, h1, h2⟩ := h; exact ⟨_, h2, fun w' e => sh_heap_queue_drop.calls CV q0 id0 hcv (h1 w' e)⟩
    · exact h.elim
def sh_heap_New.plan : Plan := (.seq .o (.seq (.seq .o (.cond (.seq .o .o) .o)) (.seq .o .o)))
theorem sh_heap_New.is (CV : CVT) (n0 : Int) (w : World) (R : Value → World → Prop) : sh_heap_New n0 (fun r0 w' => R (.pointer r0) w') w = denF (cx_heap_queue_drop.with CV) Try.f28 sh_heap_New.plan [.v (.int .i64 n0)] w R := by kernel_rfl
theorem sh_heap_New.calls (CV : CVT) (n0 : Int) (hcv : CVOk Try.prog CV) {w : World} {R : Ending → World → Prop} (h : sh_heap_New n0 (fun r0 w' => R (.returned (.pointer r0)) w') w) : Calls Try.prog 28 #[(.int .i64 n0)] w R :=
  calls_is (cx := cx_heap_queue_drop.with CV) mixed_Try (cx_heap_queue_drop.ok.with CV) hcv Try.func28 sh_heap_New.plan (xs := [.v (.int .i64 n0)]) ((args_cons _ args_nil)) (by kernel_rfl) (sh_heap_New.is CV n0 w (fun v w' => R (.returned v) w')) h
def sh_heap_New.o : CVT → List X → (Value → World → Prop) → World → Prop
  | CV, [.v (.int .i64 n0)], K, w => sh_heap_New n0 (fun r0 w' => K (.pointer r0) w') w
  | _, _, _, _ => False
def sh_heap_New.q : CVT → List X → World → (Value → Prop) → Prop
  | CV, [.v (.int .i64 n0)], w, K => Quiet ((Option Addr)) (fun r => (.pointer r)) (fun K1 w' => sh_heap_New n0 (fun r0 w'' => K1 r0 w'') w') w (fun r => K (.pointer r))
  | _, _, _, _ => False
noncomputable def cx_heap_New : Cx := Cx.add Try.prog cx_heap_queue_drop 28 sh_heap_New.o sh_heap_New.q
theorem cx_heap_New.ok : CxOk cx_heap_New := by
  refine CxOk.add cx_heap_queue_drop.ok rfl (fun CV hcv xs K w hx h => ?_) (fun CV hcv xs K w hx h => ?_)
  · unfold sh_heap_New.o at h; split at h
    · rename_i n0; exact sh_heap_New.calls CV n0 hcv h
    · exact h.elim
  · unfold sh_heap_New.q at h; split at h
    · rename_i n0; obtain ⟨r, h1, h2⟩ := h; exact ⟨_, h2, fun w' e => sh_heap_New.calls CV n0 hcv (h1 w' e)⟩
    · exact h.elim
def sh_heap_Heap_may.plan : Plan := (.seq .o (.seq .o .o))
theorem sh_heap_Heap_may.is (CV : CVT) (h0 : Option Addr) (id0 : Int) (w : World) (R : Value → World → Prop) : sh_heap_Heap_may h0 id0 (fun r0 w' => R (.bool r0) w') w = denF (cx_heap_New.with CV) Try.f58 sh_heap_Heap_may.plan [.v (.pointer h0), .v (.int .i64 id0)] w R := by kernel_rfl
theorem sh_heap_Heap_may.calls (CV : CVT) (h0 : Option Addr) (id0 : Int) (hcv : CVOk Try.prog CV) {w : World} {R : Ending → World → Prop} (h : sh_heap_Heap_may h0 id0 (fun r0 w' => R (.returned (.bool r0)) w') w) : Calls Try.prog 58 #[(.pointer h0), (.int .i64 id0)] w R :=
  calls_is (cx := cx_heap_New.with CV) mixed_Try (cx_heap_New.ok.with CV) hcv Try.func58 sh_heap_Heap_may.plan (xs := [.v (.pointer h0), .v (.int .i64 id0)]) ((args_cons _ (args_cons _ args_nil))) (by kernel_rfl) (sh_heap_Heap_may.is CV h0 id0 w (fun v w' => R (.returned v) w')) h
def sh_heap_Heap_may.o : CVT → List X → (Value → World → Prop) → World → Prop
  | CV, [.v (.pointer h0), .v (.int .i64 id0)], K, w => sh_heap_Heap_may h0 id0 (fun r0 w' => K (.bool r0) w') w
  | _, _, _, _ => False
def sh_heap_Heap_may.q : CVT → List X → World → (Value → Prop) → Prop
  | CV, [.v (.pointer h0), .v (.int .i64 id0)], w, K => Quiet (Bool) (fun r => (.bool r)) (fun K1 w' => sh_heap_Heap_may h0 id0 (fun r0 w'' => K1 r0 w'') w') w (fun r => K (.bool r))
  | _, _, _, _ => False
noncomputable def cx_heap_Heap_may : Cx := Cx.add Try.prog cx_heap_New 58 sh_heap_Heap_may.o sh_heap_Heap_may.q
theorem cx_heap_Heap_may.ok : CxOk cx_heap_Heap_may := by
  refine CxOk.add cx_heap_New.ok rfl (fun CV hcv xs K w hx h => ?_) (fun CV hcv xs K w hx h => ?_)
  · unfold sh_heap_Heap_may.o at h; split at h
    · rename_i h0 id0; exact sh_heap_Heap_may.calls CV h0 id0 hcv h
    · exact h.elim
  · unfold sh_heap_Heap_may.q at h; split at h
    · rename_i h0 id0; obtain ⟨r, h1, h2⟩ := h; exact ⟨_, h2, fun w' e => sh_heap_Heap_may.calls CV h0 id0 hcv (h1 w' e)⟩
    · exact h.elim
def sh_heap_Heap_Set.plan : Plan := (.seq .o (.seq (.seq .o (.cond (.seq .o .o) .o)) (.seq .o (.seq .o .o))))
theorem sh_heap_Heap_Set.is (CV : CVT) (h0 : Option Addr) (id0 : Int) (key0 : Int) (w : World) (R : Value → World → Prop) : sh_heap_Heap_Set h0 id0 key0 (fun r0 w' => R (.bool r0) w') w = denF (cx_heap_Heap_may.with CV) Try.f29 sh_heap_Heap_Set.plan [.v (.pointer h0), .v (.int .i64 id0), .v (.int .i64 key0)] w R := by kernel_rfl
theorem sh_heap_Heap_Set.calls (CV : CVT) (h0 : Option Addr) (id0 : Int) (key0 : Int) (hcv : CVOk Try.prog CV) {w : World} {R : Ending → World → Prop} (h : sh_heap_Heap_Set h0 id0 key0 (fun r0 w' => R (.returned (.bool r0)) w') w) : Calls Try.prog 29 #[(.pointer h0), (.int .i64 id0), (.int .i64 key0)] w R :=
  calls_is (cx := cx_heap_Heap_may.with CV) mixed_Try (cx_heap_Heap_may.ok.with CV) hcv Try.func29 sh_heap_Heap_Set.plan (xs := [.v (.pointer h0), .v (.int .i64 id0), .v (.int .i64 key0)]) ((args_cons _ (args_cons _ (args_cons _ args_nil)))) (by kernel_rfl) (sh_heap_Heap_Set.is CV h0 id0 key0 w (fun v w' => R (.returned v) w')) h
def sh_heap_Heap_Set.o : CVT → List X → (Value → World → Prop) → World → Prop
  | CV, [.v (.pointer h0), .v (.int .i64 id0), .v (.int .i64 key0)], K, w => sh_heap_Heap_Set h0 id0 key0 (fun r0 w' => K (.bool r0) w') w
  | _, _, _, _ => False
def sh_heap_Heap_Set.q : CVT → List X → World → (Value → Prop) → Prop
  | CV, [.v (.pointer h0), .v (.int .i64 id0), .v (.int .i64 key0)], w, K => Quiet (Bool) (fun r => (.bool r)) (fun K1 w' => sh_heap_Heap_Set h0 id0 key0 (fun r0 w'' => K1 r0 w'') w') w (fun r => K (.bool r))
  | _, _, _, _ => False
noncomputable def cx_heap_Heap_Set : Cx := Cx.add Try.prog cx_heap_Heap_may 29 sh_heap_Heap_Set.o sh_heap_Heap_Set.q
theorem cx_heap_Heap_Set.ok : CxOk cx_heap_Heap_Set := by
  refine CxOk.add cx_heap_Heap_may.ok rfl (fun CV hcv xs K w hx h => ?_) (fun CV hcv xs K w hx h => ?_)
  · unfold sh_heap_Heap_Set.o at h; split at h
    · rename_i h0 id0 key0; exact sh_heap_Heap_Set.calls CV h0 id0 key0 hcv h
    · exact h.elim
  · unfold sh_heap_Heap_Set.q at h; split at h
    · rename_i h0 id0 key0; obtain ⟨r, h1, h2⟩ := h; exact ⟨_, h2, fun w' e => sh_heap_Heap_Set.calls CV h0 id0 key0 hcv (h1 w' e)⟩
    · exact h.elim
def sh_heap_Heap_Len.plan : Plan := (.seq .o (.seq (.seq .o (.cond (.seq .o .o) .o)) (.seq .o .o)))
theorem sh_heap_Heap_Len.is (CV : CVT) (h0 : Option Addr) (w : World) (R : Value → World → Prop) : sh_heap_Heap_Len h0 (fun r0 w' => R (.int .i64 r0) w') w = denF (cx_heap_Heap_Set.with CV) Try.f31 sh_heap_Heap_Len.plan [.v (.pointer h0)] w R := by kernel_rfl
theorem sh_heap_Heap_Len.calls (CV : CVT) (h0 : Option Addr) (hcv : CVOk Try.prog CV) {w : World} {R : Ending → World → Prop} (h : sh_heap_Heap_Len h0 (fun r0 w' => R (.returned (.int .i64 r0)) w') w) : Calls Try.prog 31 #[(.pointer h0)] w R :=
  calls_is (cx := cx_heap_Heap_Set.with CV) mixed_Try (cx_heap_Heap_Set.ok.with CV) hcv Try.func31 sh_heap_Heap_Len.plan (xs := [.v (.pointer h0)]) ((args_cons _ args_nil)) (by kernel_rfl) (sh_heap_Heap_Len.is CV h0 w (fun v w' => R (.returned v) w')) h
def sh_heap_Heap_Len.o : CVT → List X → (Value → World → Prop) → World → Prop
  | CV, [.v (.pointer h0)], K, w => sh_heap_Heap_Len h0 (fun r0 w' => K (.int .i64 r0) w') w
  | _, _, _, _ => False
def sh_heap_Heap_Len.q : CVT → List X → World → (Value → Prop) → Prop
  | CV, [.v (.pointer h0)], w, K => Quiet (Int) (fun r => (.int .i64 r)) (fun K1 w' => sh_heap_Heap_Len h0 (fun r0 w'' => K1 r0 w'') w') w (fun r => K (.int .i64 r))
  | _, _, _, _ => False
noncomputable def cx_heap_Heap_Len : Cx := Cx.add Try.prog cx_heap_Heap_Set 31 sh_heap_Heap_Len.o sh_heap_Heap_Len.q
theorem cx_heap_Heap_Len.ok : CxOk cx_heap_Heap_Len := by
  refine CxOk.add cx_heap_Heap_Set.ok rfl (fun CV hcv xs K w hx h => ?_) (fun CV hcv xs K w hx h => ?_)
  · unfold sh_heap_Heap_Len.o at h; split at h
    · rename_i h0; exact sh_heap_Heap_Len.calls CV h0 hcv h
    · exact h.elim
  · unfold sh_heap_Heap_Len.q at h; split at h
    · rename_i h0; obtain ⟨r, h1, h2⟩ := h; exact ⟨_, h2, fun w' e => sh_heap_Heap_Len.calls CV h0 hcv (h1 w' e)⟩
    · exact h.elim
def sh_heap_Heap_First.plan : Plan := (.seq .o (.seq (.seq .o (.cond (.seq .o .o) .o)) (.seq (.draw [] [.pure, .pure, .pure, .pure, .quiet, .pure, .pure, .quiet, .pure, .pure, .pure, .pure, .quiet, .pure, .pure, .quiet, .pure, .pure, .pure] [0, 1, 2, 3, 4, 5, 6, 7, 8, 9, 10, 11, 12, 13, 14, 15, 16, 17, 18]) .o)))
theorem sh_heap_Heap_First.is (CV : CVT) (h0 : Option Addr) (w : World) (R : Value → World → Prop) : sh_heap_Heap_First h0 (fun r0 r1 r2 w' => R (.tuple #[(.int .i64 r0), (.int .i64 r1), (.bool r2)]) w') w = denF (cx_heap_Heap_Len.with CV) Try.f36 sh_heap_Heap_First.plan [.v (.pointer h0)] w R := by kernel_rfl
theorem sh_heap_Heap_First.calls (CV : CVT) (h0 : Option Addr) (hcv : CVOk Try.prog CV) {w : World} {R : Ending → World → Prop} (h : sh_heap_Heap_First h0 (fun r0 r1 r2 w' => R (.returned (.tuple #[(.int .i64 r0), (.int .i64 r1), (.bool r2)])) w') w) : Calls Try.prog 36 #[(.pointer h0)] w R :=
  calls_is (cx := cx_heap_Heap_Len.with CV) mixed_Try (cx_heap_Heap_Len.ok.with CV) hcv Try.func36 sh_heap_Heap_First.plan (xs := [.v (.pointer h0)]) ((args_cons _ args_nil)) (by kernel_rfl) (sh_heap_Heap_First.is CV h0 w (fun v w' => R (.returned v) w')) h
def sh_heap_Heap_First.o : CVT → List X → (Value → World → Prop) → World → Prop
  | CV, [.v (.pointer h0)], K, w => sh_heap_Heap_First h0 (fun r0 r1 r2 w' => K (.tuple #[(.int .i64 r0), (.int .i64 r1), (.bool r2)]) w') w
  | _, _, _, _ => False
def sh_heap_Heap_First.q : CVT → List X → World → (Value → Prop) → Prop
  | CV, [.v (.pointer h0)], w, K => Quiet (Int × Int × Bool) (fun r => (.tuple #[(.int .i64 r.1), (.int .i64 r.2.1), (.bool r.2.2)])) (fun K1 w' => sh_heap_Heap_First h0 (fun r0 r1 r2 w'' => K1 (r0, r1, r2) w'') w') w (fun r => K (.tuple #[(.int .i64 r.1), (.int .i64 r.2.1), (.bool r.2.2)]))
  | _, _, _, _ => False
noncomputable def cx_heap_Heap_First : Cx := Cx.add Try.prog cx_heap_Heap_Len 36 sh_heap_Heap_First.o sh_heap_Heap_First.q
theorem cx_heap_Heap_First.ok : CxOk cx_heap_Heap_First := by
  refine CxOk.add cx_heap_Heap_Len.ok rfl (fun CV hcv xs K w hx h => ?_) (fun CV hcv xs K w hx h => ?_)
  · unfold sh_heap_Heap_First.o at h; split at h
    · rename_i h0; exact sh_heap_Heap_First.calls CV h0 hcv h
    · exact h.elim
  · unfold sh_heap_Heap_First.q at h; split at h
    · rename_i h0; obtain ⟨r, h1, h2⟩ := h; exact ⟨_, h2, fun w' e => sh_heap_Heap_First.calls CV h0 hcv (h1 w' e)⟩
    · exact h.elim
def sh_heap_Heap_Pop.plan : Plan := (.seq .o (.seq .o (.join [] [] (.seq .o (.cond .o .o)) (.seq .o .o))))
theorem sh_heap_Heap_Pop.is (CV : CVT) (h0 : Option Addr) (w : World) (R : Value → World → Prop) : sh_heap_Heap_Pop h0 (fun r0 r1 r2 w' => R (.tuple #[(.int .i64 r0), (.int .i64 r1), (.bool r2)]) w') w = denF (cx_heap_Heap_First.with CV) Try.f30 sh_heap_Heap_Pop.plan [.v (.pointer h0)] w R := by kernel_rfl
theorem sh_heap_Heap_Pop.calls (CV : CVT) (h0 : Option Addr) (hcv : CVOk Try.prog CV) {w : World} {R : Ending → World → Prop} (h : sh_heap_Heap_Pop h0 (fun r0 r1 r2 w' => R (.returned (.tuple #[(.int .i64 r0), (.int .i64 r1), (.bool r2)])) w') w) : Calls Try.prog 30 #[(.pointer h0)] w R :=
  calls_is (cx := cx_heap_Heap_First.with CV) mixed_Try (cx_heap_Heap_First.ok.with CV) hcv Try.func30 sh_heap_Heap_Pop.plan (xs := [.v (.pointer h0)]) ((args_cons _ args_nil)) (by kernel_rfl) (sh_heap_Heap_Pop.is CV h0 w (fun v w' => R (.returned v) w')) h
def sh_heap_Heap_Pop.o : CVT → List X → (Value → World → Prop) → World → Prop
  | CV, [.v (.pointer h0)], K, w => sh_heap_Heap_Pop h0 (fun r0 r1 r2 w' => K (.tuple #[(.int .i64 r0), (.int .i64 r1), (.bool r2)]) w') w
  | _, _, _, _ => False
def sh_heap_Heap_Pop.q : CVT → List X → World → (Value → Prop) → Prop
  | CV, [.v (.pointer h0)], w, K => Quiet (Int × Int × Bool) (fun r => (.tuple #[(.int .i64 r.1), (.int .i64 r.2.1), (.bool r.2.2)])) (fun K1 w' => sh_heap_Heap_Pop h0 (fun r0 r1 r2 w'' => K1 (r0, r1, r2) w'') w') w (fun r => K (.tuple #[(.int .i64 r.1), (.int .i64 r.2.1), (.bool r.2.2)]))
  | _, _, _, _ => False
noncomputable def cx_heap_Heap_Pop : Cx := Cx.add Try.prog cx_heap_Heap_First 30 sh_heap_Heap_Pop.o sh_heap_Heap_Pop.q
theorem cx_heap_Heap_Pop.ok : CxOk cx_heap_Heap_Pop := by
  refine CxOk.add cx_heap_Heap_First.ok rfl (fun CV hcv xs K w hx h => ?_) (fun CV hcv xs K w hx h => ?_)
  · unfold sh_heap_Heap_Pop.o at h; split at h
    · rename_i h0; exact sh_heap_Heap_Pop.calls CV h0 hcv h
    · exact h.elim
  · unfold sh_heap_Heap_Pop.q at h; split at h
    · rename_i h0; obtain ⟨r, h1, h2⟩ := h; exact ⟨_, h2, fun w' e => sh_heap_Heap_Pop.calls CV h0 hcv (h1 w' e)⟩
    · exact h.elim
def sh_heap_Heap_Key.plan : Plan := (.seq .o (.seq (.seq .o (.cond (.seq .o .o) .o)) (.seq (.draw [] [.pure, .pure, .pure, .pure, .quiet, .pure, .pure, .pure, .pure, .quiet, .pure, .pure, .quiet, .pure, .pure, .pure, .quiet, .pure, .pure] [0, 1, 2, 3, 4, 5, 6, 7, 8, 9, 10, 11, 12, 13, 14, 15, 16, 17, 18]) .o)))
theorem sh_heap_Heap_Key.is (CV : CVT) (h0 : Option Addr) (id0 : Int) (w : World) (R : Value → World → Prop) : sh_heap_Heap_Key h0 id0 (fun r0 r1 w' => R (.tuple #[(.int .i64 r0), (.bool r1)]) w') w = denF (cx_heap_Heap_Pop.with CV) Try.f35 sh_heap_Heap_Key.plan [.v (.pointer h0), .v (.int .i64 id0)] w R := by kernel_rfl
theorem sh_heap_Heap_Key.calls (CV : CVT) (h0 : Option Addr) (id0 : Int) (hcv : CVOk Try.prog CV) {w : World} {R : Ending → World → Prop} (h : sh_heap_Heap_Key h0 id0 (fun r0 r1 w' => R (.returned (.tuple #[(.int .i64 r0), (.bool r1)])) w') w) : Calls Try.prog 35 #[(.pointer h0), (.int .i64 id0)] w R :=
  calls_is (cx := cx_heap_Heap_Pop.with CV) mixed_Try (cx_heap_Heap_Pop.ok.with CV) hcv Try.func35 sh_heap_Heap_Key.plan (xs := [.v (.pointer h0), .v (.int .i64 id0)]) ((args_cons _ (args_cons _ args_nil))) (by kernel_rfl) (sh_heap_Heap_Key.is CV h0 id0 w (fun v w' => R (.returned v) w')) h
def sh_heap_Heap_Key.o : CVT → List X → (Value → World → Prop) → World → Prop
  | CV, [.v (.pointer h0), .v (.int .i64 id0)], K, w => sh_heap_Heap_Key h0 id0 (fun r0 r1 w' => K (.tuple #[(.int .i64 r0), (.bool r1)]) w') w
  | _, _, _, _ => False
def sh_heap_Heap_Key.q : CVT → List X → World → (Value → Prop) → Prop
  | CV, [.v (.pointer h0), .v (.int .i64 id0)], w, K => Quiet (Int × Bool) (fun r => (.tuple #[(.int .i64 r.1), (.bool r.2)])) (fun K1 w' => sh_heap_Heap_Key h0 id0 (fun r0 r1 w'' => K1 (r0, r1) w'') w') w (fun r => K (.tuple #[(.int .i64 r.1), (.bool r.2)]))
  | _, _, _, _ => False
noncomputable def cx_heap_Heap_Key : Cx := Cx.add Try.prog cx_heap_Heap_Pop 35 sh_heap_Heap_Key.o sh_heap_Heap_Key.q
theorem cx_heap_Heap_Key.ok : CxOk cx_heap_Heap_Key := by
  refine CxOk.add cx_heap_Heap_Pop.ok rfl (fun CV hcv xs K w hx h => ?_) (fun CV hcv xs K w hx h => ?_)
  · unfold sh_heap_Heap_Key.o at h; split at h
    · rename_i h0 id0; exact sh_heap_Heap_Key.calls CV h0 id0 hcv h
    · exact h.elim
  · unfold sh_heap_Heap_Key.q at h; split at h
    · rename_i h0 id0; obtain ⟨r, h1, h2⟩ := h; exact ⟨_, h2, fun w' e => sh_heap_Heap_Key.calls CV h0 id0 hcv (h1 w' e)⟩
    · exact h.elim
def sh_heap_Heap_Drop.plan : Plan := (.seq .o (.seq (.seq .o (.seq .o (.cond (.seq .o .o) .o))) (.seq .o (.seq .o .o))))
theorem sh_heap_Heap_Drop.is (CV : CVT) (h0 : Option Addr) (id0 : Int) (w : World) (R : Value → World → Prop) : sh_heap_Heap_Drop h0 id0 (fun r0 w' => R (.bool r0) w') w = denF (cx_heap_Heap_Key.with CV) Try.f34 sh_heap_Heap_Drop.plan [.v (.pointer h0), .v (.int .i64 id0)] w R := by kernel_rfl
theorem sh_heap_Heap_Drop.calls (CV : CVT) (h0 : Option Addr) (id0 : Int) (hcv : CVOk Try.prog CV) {w : World} {R : Ending → World → Prop} (h : sh_heap_Heap_Drop h0 id0 (fun r0 w' => R (.returned (.bool r0)) w') w) : Calls Try.prog 34 #[(.pointer h0), (.int .i64 id0)] w R :=
  calls_is (cx := cx_heap_Heap_Key.with CV) mixed_Try (cx_heap_Heap_Key.ok.with CV) hcv Try.func34 sh_heap_Heap_Drop.plan (xs := [.v (.pointer h0), .v (.int .i64 id0)]) ((args_cons _ (args_cons _ args_nil))) (by kernel_rfl) (sh_heap_Heap_Drop.is CV h0 id0 w (fun v w' => R (.returned v) w')) h
def sh_heap_Heap_Drop.o : CVT → List X → (Value → World → Prop) → World → Prop
  | CV, [.v (.pointer h0), .v (.int .i64 id0)], K, w => sh_heap_Heap_Drop h0 id0 (fun r0 w' => K (.bool r0) w') w
  | _, _, _, _ => False
def sh_heap_Heap_Drop.q : CVT → List X → World → (Value → Prop) → Prop
  | CV, [.v (.pointer h0), .v (.int .i64 id0)], w, K => Quiet (Bool) (fun r => (.bool r)) (fun K1 w' => sh_heap_Heap_Drop h0 id0 (fun r0 w'' => K1 r0 w'') w') w (fun r => K (.bool r))
  | _, _, _, _ => False
noncomputable def cx_heap_Heap_Drop : Cx := Cx.add Try.prog cx_heap_Heap_Key 34 sh_heap_Heap_Drop.o sh_heap_Heap_Drop.q
theorem cx_heap_Heap_Drop.ok : CxOk cx_heap_Heap_Drop := by
  refine CxOk.add cx_heap_Heap_Key.ok rfl (fun CV hcv xs K w hx h => ?_) (fun CV hcv xs K w hx h => ?_)
  · unfold sh_heap_Heap_Drop.o at h; split at h
    · rename_i h0 id0; exact sh_heap_Heap_Drop.calls CV h0 id0 hcv h
    · exact h.elim
  · unfold sh_heap_Heap_Drop.q at h; split at h
    · rename_i h0 id0; obtain ⟨r, h1, h2⟩ := h; exact ⟨_, h2, fun w' e => sh_heap_Heap_Drop.calls CV h0 id0 hcv (h1 w' e)⟩
    · exact h.elim
def sh_heap_Heap_Clear.plan : Plan := (.block (.loop [] [] (.seq (.seq .o (.cond .o .o)) (.block (.draw [] [.pure, .pure, .pure, .pure, .pure, .pure, .pure, .quiet, .pure, .quiet, .pure, .pure, .pure, .quiet, .big] [0, 1, 2, 3, 4, 5, 6, 7, 8, 9, 10, 11, 12, 13, 14])))))
theorem sh_heap_Heap_Clear.is (CV : CVT) (h0 : Option Addr) (w : World) (R : Value → World → Prop) : sh_heap_Heap_Clear h0 (fun w' => R (.tuple #[]) w') w = denF (cx_heap_Heap_Drop.with CV) Try.f42 sh_heap_Heap_Clear.plan [.v (.pointer h0)] w R := by kernel_rfl
theorem sh_heap_Heap_Clear.calls (CV : CVT) (h0 : Option Addr) (hcv : CVOk Try.prog CV) {w : World} {R : Ending → World → Prop} (h : sh_heap_Heap_Clear h0 (fun w' => R (.returned (.tuple #[])) w') w) : Calls Try.prog 42 #[(.pointer h0)] w R :=
  calls_is (cx := cx_heap_Heap_Drop.with CV) mixed_Try (cx_heap_Heap_Drop.ok.with CV) hcv Try.func42 sh_heap_Heap_Clear.plan (xs := [.v (.pointer h0)]) ((args_cons _ args_nil)) (by kernel_rfl) (sh_heap_Heap_Clear.is CV h0 w (fun v w' => R (.returned v) w')) h
def sh_heap_Heap_Clear.o : CVT → List X → (Value → World → Prop) → World → Prop
  | CV, [.v (.pointer h0)], K, w => sh_heap_Heap_Clear h0 (fun w' => K (.tuple #[]) w') w
  | _, _, _, _ => False
def sh_heap_Heap_Clear.q : CVT → List X → World → (Value → Prop) → Prop
  | CV, [.v (.pointer h0)], w, K => Quiet (Unit) (fun r => (.tuple #[])) (fun K1 w' => sh_heap_Heap_Clear h0 (fun w'' => K1 () w'') w') w (fun r => K (.tuple #[]))
  | _, _, _, _ => False
noncomputable def cx_heap_Heap_Clear : Cx := Cx.add Try.prog cx_heap_Heap_Drop 42 sh_heap_Heap_Clear.o sh_heap_Heap_Clear.q
theorem cx_heap_Heap_Clear.ok : CxOk cx_heap_Heap_Clear := by
  refine CxOk.add cx_heap_Heap_Drop.ok rfl (fun CV hcv xs K w hx h => ?_) (fun CV hcv xs K w hx h => ?_)
  · unfold sh_heap_Heap_Clear.o at h; split at h
    · rename_i h0; exact sh_heap_Heap_Clear.calls CV h0 hcv h
    · exact h.elim
  · unfold sh_heap_Heap_Clear.q at h; split at h
    · rename_i h0; obtain ⟨r, h1, h2⟩ := h; exact ⟨_, h2, fun w' e => sh_heap_Heap_Clear.calls CV h0 hcv (h1 w' e)⟩
    · exact h.elim
end Go.Sh
