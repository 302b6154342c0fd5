/- The shallow definitions are what the code asks; printed by gen.py of these sessions. -/
import Derived.Test.YthpbelgmppaafaaLaw3Def
import Derived.Test.YthpbelgmppaafaaHeapOk
set_option maxRecDepth 100000
set_option linter.unusedVariables false
namespace Go.Sh
open Go.Proofs
def sh_postroadref03_New.plan : Plan := (.seq .o (.seq .o .o))
theorem sh_postroadref03_New.is (CV : CVT) (n0 : Int) (w : World) (R : Value → World → Prop) : sh_postroadref03_New n0 (fun r0 r1 r2 w' => R (.tuple #[(.agg #[(.int .i64 r0), (.slice r1.a r1.len r1.cap)]), (.bool r2)]) w') w = denF (cx_heap_Heap_Clear.with CV) Try.f37 sh_postroadref03_New.plan [.v (.int .i64 n0)] w R := by kernel_rfl
theorem sh_postroadref03_New.calls (CV : CVT) (n0 : Int) (hcv : CVOk Try.prog CV) {w : World} {R : Ending → World → Prop} (h : sh_postroadref03_New n0 (fun r0 r1 r2 w' => R (.returned (.tuple #[(.agg #[(.int .i64 r0), (.slice r1.a r1.len r1.cap)]), (.bool r2)])) w') w) : Calls Try.prog 37 #[(.int .i64 n0)] w R :=
  calls_is (cx := cx_heap_Heap_Clear.with CV) mixed_Try (cx_heap_Heap_Clear.ok.with CV) hcv Try.func37 sh_postroadref03_New.plan (xs := [.v (.int .i64 n0)]) ((args_cons _ args_nil)) (by kernel_rfl) (sh_postroadref03_New.is CV n0 w (fun v w' => R (.returned v) w')) h
def sh_postroadref03_New.o : CVT → List X → (Value → World → Prop) → World → Prop
  | CV, [.v (.int .i64 n0)], K, w => sh_postroadref03_New n0 (fun r0 r1 r2 w' => K (.tuple #[(.agg #[(.int .i64 r0), (.slice r1.a r1.len r1.cap)]), (.bool r2)]) w') w
  | _, _, _, _ => False
def sh_postroadref03_New.q : CVT → List X → World → (Value → Prop) → Prop
  | CV, [.v (.int .i64 n0)], w, K => Quiet (Int × SV × Bool) (fun r => (.tuple #[(.agg #[(.int .i64 r.1), (.slice r.2.1.a r.2.1.len r.2.1.cap)]), (.bool r.2.2)])) (fun K1 w' => sh_postroadref03_New n0 (fun r0 r1 r2 w'' => K1 (r0, r1, r2) w'') w') w (fun r => K (.tuple #[(.agg #[(.int .i64 r.1), (.slice r.2.1.a r.2.1.len r.2.1.cap)]), (.bool r.2.2)]))
  | _, _, _, _ => False
noncomputable def cx_postroadref03_New : Cx := Cx.add Try.prog cx_heap_Heap_Clear 37 sh_postroadref03_New.o sh_postroadref03_New.q
theorem cx_postroadref03_New.ok : CxOk cx_postroadref03_New := by
  refine CxOk.add cx_heap_Heap_Clear.ok rfl (fun CV hcv xs K w hx h => ?_) (fun CV hcv xs K w hx h => ?_)
  · unfold sh_postroadref03_New.o at h; split at h
    · rename_i n0; exact sh_postroadref03_New.calls CV n0 hcv h
    · exact h.elim
  · unfold sh_postroadref03_New.q at h; split at h
    · rename_i n0; obtain ⟨r, h1, h2⟩ := h; exact ⟨_, h2, fun w' e => sh_postroadref03_New.calls CV n0 hcv (h1 w' e)⟩
    · exact h.elim
def sh_postroadref03_First.plan : Plan := (.seq .o (.seq .o (.join [.box 4 [(.int .i64), (.int .i64)]] [] (.seq .o (.block (.loop [.slot 5 (.int .i64), .box 4 [(.int .i64), (.int .i64)]] [] (.seq (.seq .o (.cond .o .o)) (.join [.box 4 [(.int .i64), (.int .i64)]] [] (.block (.seq .o (.seq .o (.cond .o .o)))) .o))))) (.seq (.draw [2] [.loc, .pure, .loc, .pure, .pure, .lst, .pure] [0, 1, 2, 3, 4, 5, 6]) .o))))
theorem sh_postroadref03_First.is (CV : CVT) (t0_N : Int) (t0_L : SV) (w : World) (R : Value → World → Prop) : sh_postroadref03_First t0_N t0_L (fun r0 r1 r2 w' => R (.tuple #[(.agg #[(.int .i64 r0), (.int .i64 r1)]), (.bool r2)]) w') w = denF (cx_postroadref03_New.with CV) Try.f40 sh_postroadref03_First.plan [.v (.agg #[(.int .i64 t0_N), (.slice t0_L.a t0_L.len t0_L.cap)])] w R := by kernel_rfl
theorem sh_postroadref03_First.calls (CV : CVT) (t0_N : Int) (t0_L : SV) (hcv : CVOk Try.prog CV) {w : World} {R : Ending → World → Prop} (h : sh_postroadref03_First t0_N t0_L (fun r0 r1 r2 w' => R (.returned (.tuple #[(.agg #[(.int .i64 r0), (.int .i64 r1)]), (.bool r2)])) w') w) : Calls Try.prog 40 #[(.agg #[(.int .i64 t0_N), (.slice t0_L.a t0_L.len t0_L.cap)])] w R :=
  calls_is (cx := cx_postroadref03_New.with CV) mixed_Try (cx_postroadref03_New.ok.with CV) hcv Try.func40 sh_postroadref03_First.plan (xs := [.v (.agg #[(.int .i64 t0_N), (.slice t0_L.a t0_L.len t0_L.cap)])]) ((args_cons _ args_nil)) (by kernel_rfl) (sh_postroadref03_First.is CV t0_N t0_L w (fun v w' => R (.returned v) w')) h
def sh_postroadref03_First.o : CVT → List X → (Value → World → Prop) → World → Prop
  | CV, [.v (.agg ⟨[.int .i64 t0_N, .slice t0_L_a t0_L_l t0_L_c]⟩)], K, w => sh_postroadref03_First t0_N ⟨t0_L_a, t0_L_l, t0_L_c⟩ (fun r0 r1 r2 w' => K (.tuple #[(.agg #[(.int .i64 r0), (.int .i64 r1)]), (.bool r2)]) w') w
  | _, _, _, _ => False
def sh_postroadref03_First.q : CVT → List X → World → (Value → Prop) → Prop
  | CV, [.v (.agg ⟨[.int .i64 t0_N, .slice t0_L_a t0_L_l t0_L_c]⟩)], w, K => Quiet (Int × Int × Bool) (fun r => (.tuple #[(.agg #[(.int .i64 r.1), (.int .i64 r.2.1)]), (.bool r.2.2)])) (fun K1 w' => sh_postroadref03_First t0_N ⟨t0_L_a, t0_L_l, t0_L_c⟩ (fun r0 r1 r2 w'' => K1 (r0, r1, r2) w'') w') w (fun r => K (.tuple #[(.agg #[(.int .i64 r.1), (.int .i64 r.2.1)]), (.bool r.2.2)]))
  | _, _, _, _ => False
noncomputable def cx_postroadref03_First : Cx := Cx.add Try.prog cx_postroadref03_New 40 sh_postroadref03_First.o sh_postroadref03_First.q
theorem cx_postroadref03_First.ok : CxOk cx_postroadref03_First := by
  refine CxOk.add cx_postroadref03_New.ok rfl (fun CV hcv xs K w hx h => ?_) (fun CV hcv xs K w hx h => ?_)
  · unfold sh_postroadref03_First.o at h; split at h
    · rename_i t0_N t0_L_a t0_L_l t0_L_c; exact sh_postroadref03_First.calls CV t0_N ⟨t0_L_a, t0_L_l, t0_L_c⟩ hcv h
    · exact h.elim
  · unfold sh_postroadref03_First.q at h; split at h
    · rename_i t0_N t0_L_a t0_L_l t0_L_c; obtain ⟨r, h1, h2⟩ := h; exact ⟨_, h2, fun w' e => sh_postroadref03_First.calls CV t0_N ⟨t0_L_a, t0_L_l, t0_L_c⟩ hcv (h1 w' e)⟩
    · exact h.elim
def sh_postroadref03_Key.plan : Plan := (.seq .o (.seq (.seq .o (.block (.loop [.slot 6 (.int .i64)] [] (.seq (.seq .o (.cond .o .o)) (.seq (.block (.seq .o (.cond (.seq .o .o) .o))) .o))))) (.seq .o .o)))
theorem sh_postroadref03_Key.is (CV : CVT) (t0_N : Int) (t0_L : SV) (id0 : Int) (w : World) (R : Value → World → Prop) : sh_postroadref03_Key t0_N t0_L id0 (fun r0 r1 w' => R (.tuple #[(.int .i64 r0), (.bool r1)]) w') w = denF (cx_postroadref03_First.with CV) Try.f41 sh_postroadref03_Key.plan [.v (.agg #[(.int .i64 t0_N), (.slice t0_L.a t0_L.len t0_L.cap)]), .v (.int .i64 id0)] w R := by kernel_rfl
theorem sh_postroadref03_Key.calls (CV : CVT) (t0_N : Int) (t0_L : SV) (id0 : Int) (hcv : CVOk Try.prog CV) {w : World} {R : Ending → World → Prop} (h : sh_postroadref03_Key t0_N t0_L id0 (fun r0 r1 w' => R (.returned (.tuple #[(.int .i64 r0), (.bool r1)])) w') w) : Calls Try.prog 41 #[(.agg #[(.int .i64 t0_N), (.slice t0_L.a t0_L.len t0_L.cap)]), (.int .i64 id0)] w R :=
  calls_is (cx := cx_postroadref03_First.with CV) mixed_Try (cx_postroadref03_First.ok.with CV) hcv Try.func41 sh_postroadref03_Key.plan (xs := [.v (.agg #[(.int .i64 t0_N), (.slice t0_L.a t0_L.len t0_L.cap)]), .v (.int .i64 id0)]) ((args_cons _ (args_cons _ args_nil))) (by kernel_rfl) (sh_postroadref03_Key.is CV t0_N t0_L id0 w (fun v w' => R (.returned v) w')) h
def sh_postroadref03_Key.o : CVT → List X → (Value → World → Prop) → World → Prop
  | CV, [.v (.agg ⟨[.int .i64 t0_N, .slice t0_L_a t0_L_l t0_L_c]⟩), .v (.int .i64 id0)], K, w => sh_postroadref03_Key t0_N ⟨t0_L_a, t0_L_l, t0_L_c⟩ id0 (fun r0 r1 w' => K (.tuple #[(.int .i64 r0), (.bool r1)]) w') w
  | _, _, _, _ => False
def sh_postroadref03_Key.q : CVT → List X → World → (Value → Prop) → Prop
  | CV, [.v (.agg ⟨[.int .i64 t0_N, .slice t0_L_a t0_L_l t0_L_c]⟩), .v (.int .i64 id0)], w, K => Quiet (Int × Bool) (fun r => (.tuple #[(.int .i64 r.1), (.bool r.2)])) (fun K1 w' => sh_postroadref03_Key t0_N ⟨t0_L_a, t0_L_l, t0_L_c⟩ id0 (fun r0 r1 w'' => K1 (r0, r1) w'') w') w (fun r => K (.tuple #[(.int .i64 r.1), (.bool r.2)]))
  | _, _, _, _ => False
noncomputable def cx_postroadref03_Key : Cx := Cx.add Try.prog cx_postroadref03_First 41 sh_postroadref03_Key.o sh_postroadref03_Key.q
theorem cx_postroadref03_Key.ok : CxOk cx_postroadref03_Key := by
  refine CxOk.add cx_postroadref03_First.ok rfl (fun CV hcv xs K w hx h => ?_) (fun CV hcv xs K w hx h => ?_)
  · unfold sh_postroadref03_Key.o at h; split at h
    · rename_i t0_N t0_L_a t0_L_l t0_L_c id0; exact sh_postroadref03_Key.calls CV t0_N ⟨t0_L_a, t0_L_l, t0_L_c⟩ id0 hcv h
    · exact h.elim
  · unfold sh_postroadref03_Key.q at h; split at h
    · rename_i t0_N t0_L_a t0_L_l t0_L_c id0; obtain ⟨r, h1, h2⟩ := h; exact ⟨_, h2, fun w' e => sh_postroadref03_Key.calls CV t0_N ⟨t0_L_a, t0_L_l, t0_L_c⟩ id0 hcv (h1 w' e)⟩
    · exact h.elim
def sh_postroadref03_Drop.plan : Plan := (.seq .o (.seq .o (.join [.box 6 [(.int .i64), .slice]] [] (.seq .o (.block (.loop [.slot 7 (.int .i64), .box 6 [(.int .i64), .slice]] [] (.seq (.seq .o (.cond .o .o)) (.join [.box 6 [(.int .i64), .slice]] [] (.block (.seq .o (.cond (.draw [] [.pure, .loc, .pure, .loc, .pure, .pure, .quiet, .new, .big, .pure, .big] [0, 1, 2, 3, 4, 5, 6, 7, 8, 9, 10]) .o))) .o))))) (.seq (.draw [4] [.loc, .pure, .loc, .pure, .pure, .loc, .pure, .pure, .lst, .pure] [0, 1, 2, 3, 4, 5, 6, 7, 8, 9]) .o))))
theorem sh_postroadref03_Drop.is (CV : CVT) (t0_N : Int) (t0_L : SV) (id0 : Int) (w : World) (R : Value → World → Prop) : sh_postroadref03_Drop t0_N t0_L id0 (fun r0 r1 r2 w' => R (.tuple #[(.agg #[(.int .i64 r0), (.slice r1.a r1.len r1.cap)]), (.bool r2)]) w') w = denF (cx_postroadref03_Key.with CV) Try.f64 sh_postroadref03_Drop.plan [.v (.agg #[(.int .i64 t0_N), (.slice t0_L.a t0_L.len t0_L.cap)]), .v (.int .i64 id0)] w R := by kernel_rfl
theorem sh_postroadref03_Drop.calls (CV : CVT) (t0_N : Int) (t0_L : SV) (id0 : Int) (hcv : CVOk Try.prog CV) {w : World} {R : Ending → World → Prop} (h : sh_postroadref03_Drop t0_N t0_L id0 (fun r0 r1 r2 w' => R (.returned (.tuple #[(.agg #[(.int .i64 r0), (.slice r1.a r1.len r1.cap)]), (.bool r2)])) w') w) : Calls Try.prog 64 #[(.agg #[(.int .i64 t0_N), (.slice t0_L.a t0_L.len t0_L.cap)]), (.int .i64 id0)] w R :=
  calls_is (cx := cx_postroadref03_Key.with CV) mixed_Try (cx_postroadref03_Key.ok.with CV) hcv Try.func64 sh_postroadref03_Drop.plan (xs := [.v (.agg #[(.int .i64 t0_N), (.slice t0_L.a t0_L.len t0_L.cap)]), .v (.int .i64 id0)]) ((args_cons _ (args_cons _ args_nil))) (by kernel_rfl) (sh_postroadref03_Drop.is CV t0_N t0_L id0 w (fun v w' => R (.returned v) w')) h
def sh_postroadref03_Drop.o : CVT → List X → (Value → World → Prop) → World → Prop
  | CV, [.v (.agg ⟨[.int .i64 t0_N, .slice t0_L_a t0_L_l t0_L_c]⟩), .v (.int .i64 id0)], K, w => sh_postroadref03_Drop t0_N ⟨t0_L_a, t0_L_l, t0_L_c⟩ id0 (fun r0 r1 r2 w' => K (.tuple #[(.agg #[(.int .i64 r0), (.slice r1.a r1.len r1.cap)]), (.bool r2)]) w') w
  | _, _, _, _ => False
def sh_postroadref03_Drop.q : CVT → List X → World → (Value → Prop) → Prop
  | CV, [.v (.agg ⟨[.int .i64 t0_N, .slice t0_L_a t0_L_l t0_L_c]⟩), .v (.int .i64 id0)], w, K => Quiet (Int × SV × Bool) (fun r => (.tuple #[(.agg #[(.int .i64 r.1), (.slice r.2.1.a r.2.1.len r.2.1.cap)]), (.bool r.2.2)])) (fun K1 w' => sh_postroadref03_Drop t0_N ⟨t0_L_a, t0_L_l, t0_L_c⟩ id0 (fun r0 r1 r2 w'' => K1 (r0, r1, r2) w'') w') w (fun r => K (.tuple #[(.agg #[(.int .i64 r.1), (.slice r.2.1.a r.2.1.len r.2.1.cap)]), (.bool r.2.2)]))
  | _, _, _, _ => False
noncomputable def cx_postroadref03_Drop : Cx := Cx.add Try.prog cx_postroadref03_Key 64 sh_postroadref03_Drop.o sh_postroadref03_Drop.q
theorem cx_postroadref03_Drop.ok : CxOk cx_postroadref03_Drop := by
  refine CxOk.add cx_postroadref03_Key.ok rfl (fun CV hcv xs K w hx h => ?_) (fun CV hcv xs K w hx h => ?_)
  · unfold sh_postroadref03_Drop.o at h; split at h
    · rename_i t0_N t0_L_a t0_L_l t0_L_c id0; exact sh_postroadref03_Drop.calls CV t0_N ⟨t0_L_a, t0_L_l, t0_L_c⟩ id0 hcv h
    · exact h.elim
  · unfold sh_postroadref03_Drop.q at h; split at h
    · rename_i t0_N t0_L_a t0_L_l t0_L_c id0; obtain ⟨r, h1, h2⟩ := h; exact ⟨_, h2, fun w' e => sh_postroadref03_Drop.calls CV t0_N ⟨t0_L_a, t0_L_l, t0_L_c⟩ id0 hcv (h1 w' e)⟩
    · exact h.elim
def sh_postroadref03_Set.plan : Plan := (.seq .o (.seq (.seq .o (.cond (.seq .o .o) .o)) (.seq .o (.seq .o (.seq .o .o)))))
theorem sh_postroadref03_Set.is (CV : CVT) (t0_N : Int) (t0_L : SV) (id0 : Int) (key0 : Int) (w : World) (R : Value → World → Prop) : sh_postroadref03_Set t0_N t0_L id0 key0 (fun r0 r1 r2 w' => R (.tuple #[(.agg #[(.int .i64 r0), (.slice r1.a r1.len r1.cap)]), (.bool r2)]) w') w = denF (cx_postroadref03_Drop.with CV) Try.f63 sh_postroadref03_Set.plan [.v (.agg #[(.int .i64 t0_N), (.slice t0_L.a t0_L.len t0_L.cap)]), .v (.int .i64 id0), .v (.int .i64 key0)] w R := by kernel_rfl
theorem sh_postroadref03_Set.calls (CV : CVT) (t0_N : Int) (t0_L : SV) (id0 : Int) (key0 : Int) (hcv : CVOk Try.prog CV) {w : World} {R : Ending → World → Prop} (h : sh_postroadref03_Set t0_N t0_L id0 key0 (fun r0 r1 r2 w' => R (.returned (.tuple #[(.agg #[(.int .i64 r0), (.slice r1.a r1.len r1.cap)]), (.bool r2)])) w') w) : Calls Try.prog 63 #[(.agg #[(.int .i64 t0_N), (.slice t0_L.a t0_L.len t0_L.cap)]), (.int .i64 id0), (.int .i64 key0)] w R :=
  calls_is (cx := cx_postroadref03_Drop.with CV) mixed_Try (cx_postroadref03_Drop.ok.with CV) hcv Try.func63 sh_postroadref03_Set.plan (xs := [.v (.agg #[(.int .i64 t0_N), (.slice t0_L.a t0_L.len t0_L.cap)]), .v (.int .i64 id0), .v (.int .i64 key0)]) ((args_cons _ (args_cons _ (args_cons _ args_nil)))) (by kernel_rfl) (sh_postroadref03_Set.is CV t0_N t0_L id0 key0 w (fun v w' => R (.returned v) w')) h
def sh_postroadref03_Set.o : CVT → List X → (Value → World → Prop) → World → Prop
  | CV, [.v (.agg ⟨[.int .i64 t0_N, .slice t0_L_a t0_L_l t0_L_c]⟩), .v (.int .i64 id0), .v (.int .i64 key0)], K, w => sh_postroadref03_Set t0_N ⟨t0_L_a, t0_L_l, t0_L_c⟩ id0 key0 (fun r0 r1 r2 w' => K (.tuple #[(.agg #[(.int .i64 r0), (.slice r1.a r1.len r1.cap)]), (.bool r2)]) w') w
  | _, _, _, _ => False
def sh_postroadref03_Set.q : CVT → List X → World → (Value → Prop) → Prop
  | CV, [.v (.agg ⟨[.int .i64 t0_N, .slice t0_L_a t0_L_l t0_L_c]⟩), .v (.int .i64 id0), .v (.int .i64 key0)], w, K => Quiet (Int × SV × Bool) (fun r => (.tuple #[(.agg #[(.int .i64 r.1), (.slice r.2.1.a r.2.1.len r.2.1.cap)]), (.bool r.2.2)])) (fun K1 w' => sh_postroadref03_Set t0_N ⟨t0_L_a, t0_L_l, t0_L_c⟩ id0 key0 (fun r0 r1 r2 w'' => K1 (r0, r1, r2) w'') w') w (fun r => K (.tuple #[(.agg #[(.int .i64 r.1), (.slice r.2.1.a r.2.1.len r.2.1.cap)]), (.bool r.2.2)]))
  | _, _, _, _ => False
noncomputable def cx_postroadref03_Set : Cx := Cx.add Try.prog cx_postroadref03_Drop 63 sh_postroadref03_Set.o sh_postroadref03_Set.q
theorem cx_postroadref03_Set.ok : CxOk cx_postroadref03_Set := by
  refine CxOk.add cx_postroadref03_Drop.ok rfl (fun CV hcv xs K w hx h => ?_) (fun CV hcv xs K w hx h => ?_)
  · unfold sh_postroadref03_Set.o at h; split at h
    · rename_i t0_N t0_L_a t0_L_l t0_L_c id0 key0; exact sh_postroadref03_Set.calls CV t0_N ⟨t0_L_a, t0_L_l, t0_L_c⟩ id0 key0 hcv h
    · exact h.elim
  · unfold sh_postroadref03_Set.q at h; split at h
    · rename_i t0_N t0_L_a t0_L_l t0_L_c id0 key0; obtain ⟨r, h1, h2⟩ := h; exact ⟨_, h2, fun w' e => sh_postroadref03_Set.calls CV t0_N ⟨t0_L_a, t0_L_l, t0_L_c⟩ id0 key0 hcv (h1 w' e)⟩
    · exact h.elim
def sh_postroadref03_Step.plan : Plan := (.seq .o (.seq (.seq .o (.block (.seq .o (.cond (.seq .o (.seq .o .o)) (.seq .o (.cond (.seq .o (.seq (.seq .o (.cond (.seq (.draw [4, 5] [.loc, .loc, .lst, .lst, .pure] [0, 1, 2, 3, 4]) .o) .o)) (.seq .o (.seq (.draw [4, 5] [.loc, .loc, .lst, .lst, .pure] [0, 1, 2, 3, 4]) .o)))) (.seq .o (.cond (.seq .o (.seq .o .o)) (.seq .o (.cond (.seq .o .o) .o)))))))))) (.seq .o .o)))
theorem sh_postroadref03_Step.is (CV : CVT) (t0_N : Int) (t0_L : SV) (d0_Kind : Int) (d0_ID : Int) (d0_Key : Int) (w : World) (R : Value → World → Prop) : sh_postroadref03_Step t0_N t0_L d0_Kind d0_ID d0_Key (fun r0 r1 r2 r3 r4 w' => R (.tuple #[(.agg #[(.int .i64 r0), (.slice r1.a r1.len r1.cap)]), (.agg #[(.int .i64 r2), (.int .i64 r3)]), (.bool r4)]) w') w = denF (cx_postroadref03_Set.with CV) Try.f38 sh_postroadref03_Step.plan [.v (.agg #[(.int .i64 t0_N), (.slice t0_L.a t0_L.len t0_L.cap)]), .v (.agg #[(.int .i64 d0_Kind), (.int .i64 d0_ID), (.int .i64 d0_Key)])] w R := by kernel_rfl
theorem sh_postroadref03_Step.calls (CV : CVT) (t0_N : Int) (t0_L : SV) (d0_Kind : Int) (d0_ID : Int) (d0_Key : Int) (hcv : CVOk Try.prog CV) {w : World} {R : Ending → World → Prop} (h : sh_postroadref03_Step t0_N t0_L d0_Kind d0_ID d0_Key (fun r0 r1 r2 r3 r4 w' => R (.returned (.tuple #[(.agg #[(.int .i64 r0), (.slice r1.a r1.len r1.cap)]), (.agg #[(.int .i64 r2), (.int .i64 r3)]), (.bool r4)])) w') w) : Calls Try.prog 38 #[(.agg #[(.int .i64 t0_N), (.slice t0_L.a t0_L.len t0_L.cap)]), (.agg #[(.int .i64 d0_Kind), (.int .i64 d0_ID), (.int .i64 d0_Key)])] w R :=
  calls_is (cx := cx_postroadref03_Set.with CV) mixed_Try (cx_postroadref03_Set.ok.with CV) hcv Try.func38 sh_postroadref03_Step.plan (xs := [.v (.agg #[(.int .i64 t0_N), (.slice t0_L.a t0_L.len t0_L.cap)]), .v (.agg #[(.int .i64 d0_Kind), (.int .i64 d0_ID), (.int .i64 d0_Key)])]) ((args_cons _ (args_cons _ args_nil))) (by kernel_rfl) (sh_postroadref03_Step.is CV t0_N t0_L d0_Kind d0_ID d0_Key w (fun v w' => R (.returned v) w')) h
def sh_postroadref03_Step.o : CVT → List X → (Value → World → Prop) → World → Prop
  | CV, [.v (.agg ⟨[.int .i64 t0_N, .slice t0_L_a t0_L_l t0_L_c]⟩), .v (.agg ⟨[.int .i64 d0_Kind, .int .i64 d0_ID, .int .i64 d0_Key]⟩)], K, w => sh_postroadref03_Step t0_N ⟨t0_L_a, t0_L_l, t0_L_c⟩ d0_Kind d0_ID d0_Key (fun r0 r1 r2 r3 r4 w' => K (.tuple #[(.agg #[(.int .i64 r0), (.slice r1.a r1.len r1.cap)]), (.agg #[(.int .i64 r2), (.int .i64 r3)]), (.bool r4)]) w') w
  | _, _, _, _ => False
def sh_postroadref03_Step.q : CVT → List X → World → (Value → Prop) → Prop
  | CV, [.v (.agg ⟨[.int .i64 t0_N, .slice t0_L_a t0_L_l t0_L_c]⟩), .v (.agg ⟨[.int .i64 d0_Kind, .int .i64 d0_ID, .int .i64 d0_Key]⟩)], w, K => Quiet (Int × SV × Int × Int × Bool) (fun r => (.tuple #[(.agg #[(.int .i64 r.1), (.slice r.2.1.a r.2.1.len r.2.1.cap)]), (.agg #[(.int .i64 r.2.2.1), (.int .i64 r.2.2.2.1)]), (.bool r.2.2.2.2)])) (fun K1 w' => sh_postroadref03_Step t0_N ⟨t0_L_a, t0_L_l, t0_L_c⟩ d0_Kind d0_ID d0_Key (fun r0 r1 r2 r3 r4 w'' => K1 (r0, r1, r2, r3, r4) w'') w') w (fun r => K (.tuple #[(.agg #[(.int .i64 r.1), (.slice r.2.1.a r.2.1.len r.2.1.cap)]), (.agg #[(.int .i64 r.2.2.1), (.int .i64 r.2.2.2.1)]), (.bool r.2.2.2.2)]))
  | _, _, _, _ => False
noncomputable def cx_postroadref03_Step : Cx := Cx.add Try.prog cx_postroadref03_Set 38 sh_postroadref03_Step.o sh_postroadref03_Step.q
theorem cx_postroadref03_Step.ok : CxOk cx_postroadref03_Step := by
  refine CxOk.add cx_postroadref03_Set.ok rfl (fun CV hcv xs K w hx h => ?_) (fun CV hcv xs K w hx h => ?_)
  · unfold sh_postroadref03_Step.o at h; split at h
    · rename_i t0_N t0_L_a t0_L_l t0_L_c d0_Kind d0_ID d0_Key; exact sh_postroadref03_Step.calls CV t0_N ⟨t0_L_a, t0_L_l, t0_L_c⟩ d0_Kind d0_ID d0_Key hcv h
    · exact h.elim
  · unfold sh_postroadref03_Step.q at h; split at h
    · rename_i t0_N t0_L_a t0_L_l t0_L_c d0_Kind d0_ID d0_Key; obtain ⟨r, h1, h2⟩ := h; exact ⟨_, h2, fun w' e => sh_postroadref03_Step.calls CV t0_N ⟨t0_L_a, t0_L_l, t0_L_c⟩ d0_Kind d0_ID d0_Key hcv (h1 w' e)⟩
    · exact h.elim
def sh_postroadlaw03_did.plan : Plan := (.seq .o (.join [] [] (.seq .o (.block (.seq .o (.cond (.seq .o .o) (.seq .o (.cond (.seq .o .o) (.seq .o (.cond (.seq .o .o) (.seq .o (.cond .o .o)))))))))) (.seq .o .o)))
theorem sh_postroadlaw03_did.is (CV : CVT) (h0 : Option Addr) (d0_Kind : Int) (d0_ID : Int) (d0_Key : Int) (w : World) (R : Value → World → Prop) : sh_postroadlaw03_did h0 d0_Kind d0_ID d0_Key (fun r0 r1 r2 w' => R (.tuple #[(.int .i64 r0), (.int .i64 r1), (.bool r2)]) w') w = denF (cx_postroadref03_Step.with CV) Try.f39 sh_postroadlaw03_did.plan [.v (.pointer h0), .v (.agg #[(.int .i64 d0_Kind), (.int .i64 d0_ID), (.int .i64 d0_Key)])] w R := by kernel_rfl
theorem sh_postroadlaw03_did.calls (CV : CVT) (h0 : Option Addr) (d0_Kind : Int) (d0_ID : Int) (d0_Key : Int) (hcv : CVOk Try.prog CV) {w : World} {R : Ending → World → Prop} (h : sh_postroadlaw03_did h0 d0_Kind d0_ID d0_Key (fun r0 r1 r2 w' => R (.returned (.tuple #[(.int .i64 r0), (.int .i64 r1), (.bool r2)])) w') w) : Calls Try.prog 39 #[(.pointer h0), (.agg #[(.int .i64 d0_Kind), (.int .i64 d0_ID), (.int .i64 d0_Key)])] w R :=
  calls_is (cx := cx_postroadref03_Step.with CV) mixed_Try (cx_postroadref03_Step.ok.with CV) hcv Try.func39 sh_postroadlaw03_did.plan (xs := [.v (.pointer h0), .v (.agg #[(.int .i64 d0_Kind), (.int .i64 d0_ID), (.int .i64 d0_Key)])]) ((args_cons _ (args_cons _ args_nil))) (by kernel_rfl) (sh_postroadlaw03_did.is CV h0 d0_Kind d0_ID d0_Key w (fun v w' => R (.returned v) w')) h
def sh_postroadlaw03_did.o : CVT → List X → (Value → World → Prop) → World → Prop
  | CV, [.v (.pointer h0), .v (.agg ⟨[.int .i64 d0_Kind, .int .i64 d0_ID, .int .i64 d0_Key]⟩)], K, w => sh_postroadlaw03_did h0 d0_Kind d0_ID d0_Key (fun r0 r1 r2 w' => K (.tuple #[(.int .i64 r0), (.int .i64 r1), (.bool r2)]) w') w
  | _, _, _, _ => False
def sh_postroadlaw03_did.q : CVT → List X → World → (Value → Prop) → Prop
  | CV, [.v (.pointer h0), .v (.agg ⟨[.int .i64 d0_Kind, .int .i64 d0_ID, .int .i64 d0_Key]⟩)], w, K => Quiet (Int × Int × Bool) (fun r => (.tuple #[(.int .i64 r.1), (.int .i64 r.2.1), (.bool r.2.2)])) (fun K1 w' => sh_postroadlaw03_did h0 d0_Kind d0_ID d0_Key (fun r0 r1 r2 w'' => K1 (r0, r1, r2) w'') w') w (fun r => K (.tuple #[(.int .i64 r.1), (.int .i64 r.2.1), (.bool r.2.2)]))
  | _, _, _, _ => False
noncomputable def cx_postroadlaw03_did : Cx := Cx.add Try.prog cx_postroadref03_Step 39 sh_postroadlaw03_did.o sh_postroadlaw03_did.q
theorem cx_postroadlaw03_did.ok : CxOk cx_postroadlaw03_did := by
  refine CxOk.add cx_postroadref03_Step.ok rfl (fun CV hcv xs K w hx h => ?_) (fun CV hcv xs K w hx h => ?_)
  · unfold sh_postroadlaw03_did.o at h; split at h
    · rename_i h0 d0_Kind d0_ID d0_Key; exact sh_postroadlaw03_did.calls CV h0 d0_Kind d0_ID d0_Key hcv h
    · exact h.elim
  · unfold sh_postroadlaw03_did.q at h; split at h
    · rename_i h0 d0_Kind d0_ID d0_Key; obtain ⟨r, h1, h2⟩ := h; exact ⟨_, h2, fun w' e => sh_postroadlaw03_did.calls CV h0 d0_Kind d0_ID d0_Key hcv (h1 w' e)⟩
    · exact h.elim
def sh_postroadlaw03_known.plan : Plan := (.seq .o (.seq .o (.seq .o (.seq .o (.seq .o (.seq .o (.seq .o (.seq .o .o))))))))
theorem sh_postroadlaw03_known.is (CV : CVT) (w : World) (R : Value → World → Prop) : sh_postroadlaw03_known  (fun r0 w' => R (.bool r0) w') w = denF (cx_postroadlaw03_did.with CV) Try.f27 sh_postroadlaw03_known.plan [] w R := by kernel_rfl
theorem sh_postroadlaw03_known.calls (CV : CVT) (hcv : CVOk Try.prog CV) {w : World} {R : Ending → World → Prop} (h : sh_postroadlaw03_known  (fun r0 w' => R (.returned (.bool r0)) w') w) : Calls Try.prog 27 #[] w R :=
  calls_is (cx := cx_postroadlaw03_did.with CV) mixed_Try (cx_postroadlaw03_did.ok.with CV) hcv Try.func27 sh_postroadlaw03_known.plan (xs := []) (args_nil) (by kernel_rfl) (sh_postroadlaw03_known.is CV w (fun v w' => R (.returned v) w')) h
def sh_postroadlaw03_known.o : CVT → List X → (Value → World → Prop) → World → Prop
  | CV, [], K, w => sh_postroadlaw03_known  (fun r0 w' => K (.bool r0) w') w
  | _, _, _, _ => False
def sh_postroadlaw03_known.q : CVT → List X → World → (Value → Prop) → Prop
  | CV, [], w, K => Quiet (Bool) (fun r => (.bool r)) (fun K1 w' => sh_postroadlaw03_known  (fun r0 w'' => K1 r0 w'') w') w (fun r => K (.bool r))
  | _, _, _, _ => False
noncomputable def cx_postroadlaw03_known : Cx := Cx.add Try.prog cx_postroadlaw03_did 27 sh_postroadlaw03_known.o sh_postroadlaw03_known.q
theorem cx_postroadlaw03_known.ok : CxOk cx_postroadlaw03_known := by
  refine CxOk.add cx_postroadlaw03_did.ok rfl (fun CV hcv xs K w hx h => ?_) (fun CV hcv xs K w hx h => ?_)
  · unfold sh_postroadlaw03_known.o at h; split at h
    · exact sh_postroadlaw03_known.calls CV hcv h
    · exact h.elim
  · unfold sh_postroadlaw03_known.q at h; split at h
    · obtain ⟨r, h1, h2⟩ := h; exact ⟨_, h2, fun w' e => sh_postroadlaw03_known.calls CV hcv (h1 w' e)⟩
    · exact h.elim
def sh_postroadlaw03_HeapSorts.plan : Plan := (.seq .o (.seq .o (.seq (.seq .o (.cond (.seq .o .o) .o)) (.seq .o (.join [] [] (.seq .o (.block (.loop [.slot 5 (.int .i64)] [] (.seq (.seq .o (.cond .o .o)) (.seq (.block (.seq .o .o)) .o))))) (.seq .o (.seq .o (.join [] [] (.seq .o (.block (.loop [.slot 6 (.int .i64), .slot 8 (.int .i64)] [] (.seq (.seq .o (.cond .o .o)) (.seq (.block (.seq .o (.join [] [] (.seq .o (.cond (.seq .o .o) .o)) (.seq .o .o)))) .o))))) (.seq .o (.seq .o .o))))))))))
theorem sh_postroadlaw03_HeapSorts.is (CV : CVT) (keys0 : SV) (w : World) (R : Value → World → Prop) : sh_postroadlaw03_HeapSorts keys0 (fun r0 w' => R (.bool r0) w') w = denF (cx_postroadlaw03_known.with CV) Try.f7 sh_postroadlaw03_HeapSorts.plan [.v (.slice keys0.a keys0.len keys0.cap)] w R := by kernel_rfl
theorem sh_postroadlaw03_HeapSorts.calls (CV : CVT) (keys0 : SV) (hcv : CVOk Try.prog CV) {w : World} {R : Ending → World → Prop} (h : sh_postroadlaw03_HeapSorts keys0 (fun r0 w' => R (.returned (.bool r0)) w') w) : Calls Try.prog 7 #[(.slice keys0.a keys0.len keys0.cap)] w R :=
  calls_is (cx := cx_postroadlaw03_known.with CV) mixed_Try (cx_postroadlaw03_known.ok.with CV) hcv Try.func7 sh_postroadlaw03_HeapSorts.plan (xs := [.v (.slice keys0.a keys0.len keys0.cap)]) ((args_cons _ args_nil)) (by kernel_rfl) (sh_postroadlaw03_HeapSorts.is CV keys0 w (fun v w' => R (.returned v) w')) h
def sh_postroadlaw03_HeapSorts.o : CVT → List X → (Value → World → Prop) → World → Prop
  | CV, [.v (.slice keys0_a keys0_l keys0_c)], K, w => sh_postroadlaw03_HeapSorts ⟨keys0_a, keys0_l, keys0_c⟩ (fun r0 w' => K (.bool r0) w') w
  | _, _, _, _ => False
def sh_postroadlaw03_HeapSorts.q : CVT → List X → World → (Value → Prop) → Prop
  | CV, [.v (.slice keys0_a keys0_l keys0_c)], w, K => Quiet (Bool) (fun r => (.bool r)) (fun K1 w' => sh_postroadlaw03_HeapSorts ⟨keys0_a, keys0_l, keys0_c⟩ (fun r0 w'' => K1 r0 w'') w') w (fun r => K (.bool r))
  | _, _, _, _ => False
noncomputable def cx_postroadlaw03_HeapSorts : Cx := Cx.add Try.prog cx_postroadlaw03_known 7 sh_postroadlaw03_HeapSorts.o sh_postroadlaw03_HeapSorts.q
theorem cx_postroadlaw03_HeapSorts.ok : CxOk cx_postroadlaw03_HeapSorts := by
  refine CxOk.add cx_postroadlaw03_known.ok rfl (fun CV hcv xs K w hx h => ?_) (fun CV hcv xs K w hx h => ?_)
  · unfold sh_postroadlaw03_HeapSorts.o at h; split at h
    · rename_i keys0_a keys0_l keys0_c; exact sh_postroadlaw03_HeapSorts.calls CV ⟨keys0_a, keys0_l, keys0_c⟩ hcv h
    · exact h.elim
  · unfold sh_postroadlaw03_HeapSorts.q at h; split at h
    · rename_i keys0_a keys0_l keys0_c; obtain ⟨r, h1, h2⟩ := h; exact ⟨_, h2, fun w' e => sh_postroadlaw03_HeapSorts.calls CV ⟨keys0_a, keys0_l, keys0_c⟩ hcv (h1 w' e)⟩
    · exact h.elim
def sh_postroadlaw03_HeapKeys.plan : Plan := (.seq .o (.seq (.seq .o (.cond (.seq .o .o) .o)) (.seq .o (.seq .o (.seq .o (.join [] [] (.seq .o (.block (.loop [.slot 6 (.int .i64)] [] (.seq (.seq .o (.cond .o .o)) (.join [] [] (.block (.seq .o (.seq (.seq .o (.cond (.seq (.seq .o (.cond (.seq .o .o) .o)) .o) .o)) (.seq (.seq .o (.cond (.seq (.seq (.draw [] [.pure, .pure, .loc, .big, .pure, .pure, .rd, .pure, .rd, .pure, .pure] [0, 1, 2, 4, 5, 6, 7, 8, 9, 3, 10]) (.cond (.seq .o .o) .o)) (.seq .o .o)) .o)) (.seq (.seq .o (.cond (.seq .o .o) .o)) (.seq .o .o)))))) .o))))) (.seq .o (.seq .o (.join [.slot 8 (.int .i64), .slot 9 (.int .i64)] [] (.seq .o (.block (.loop [.slot 8 (.int .i64), .slot 9 (.int .i64), .slot 10 (.int .i64)] [] (.seq (.seq .o (.cond .o .o)) (.join [.slot 8 (.int .i64), .slot 9 (.int .i64)] [] (.block (.seq .o (.join [] [] (.seq .o (.cond (.seq .o .o) .o)) (.seq .o (.seq .o (.cond .o .o)))))) .o))))) (.seq .o (.seq .o .o)))))))))))
theorem sh_postroadlaw03_HeapKeys.is (CV : CVT) (l0 : SV) (w : World) (R : Value → World → Prop) : sh_postroadlaw03_HeapKeys l0 (fun r0 w' => R (.bool r0) w') w = denF (cx_postroadlaw03_HeapSorts.with CV) Try.f10 sh_postroadlaw03_HeapKeys.plan [.v (.slice l0.a l0.len l0.cap)] w R := by kernel_rfl
theorem sh_postroadlaw03_HeapKeys.calls (CV : CVT) (l0 : SV) (hcv : CVOk Try.prog CV) {w : World} {R : Ending → World → Prop} (h : sh_postroadlaw03_HeapKeys l0 (fun r0 w' => R (.returned (.bool r0)) w') w) : Calls Try.prog 10 #[(.slice l0.a l0.len l0.cap)] w R :=
  calls_is (cx := cx_postroadlaw03_HeapSorts.with CV) mixed_Try (cx_postroadlaw03_HeapSorts.ok.with CV) hcv Try.func10 sh_postroadlaw03_HeapKeys.plan (xs := [.v (.slice l0.a l0.len l0.cap)]) ((args_cons _ args_nil)) (by kernel_rfl) (sh_postroadlaw03_HeapKeys.is CV l0 w (fun v w' => R (.returned v) w')) h
def sh_postroadlaw03_HeapKeys.o : CVT → List X → (Value → World → Prop) → World → Prop
  | CV, [.v (.slice l0_a l0_l l0_c)], K, w => sh_postroadlaw03_HeapKeys ⟨l0_a, l0_l, l0_c⟩ (fun r0 w' => K (.bool r0) w') w
  | _, _, _, _ => False
def sh_postroadlaw03_HeapKeys.q : CVT → List X → World → (Value → Prop) → Prop
  | CV, [.v (.slice l0_a l0_l l0_c)], w, K => Quiet (Bool) (fun r => (.bool r)) (fun K1 w' => sh_postroadlaw03_HeapKeys ⟨l0_a, l0_l, l0_c⟩ (fun r0 w'' => K1 r0 w'') w') w (fun r => K (.bool r))
  | _, _, _, _ => False
noncomputable def cx_postroadlaw03_HeapKeys : Cx := Cx.add Try.prog cx_postroadlaw03_HeapSorts 10 sh_postroadlaw03_HeapKeys.o sh_postroadlaw03_HeapKeys.q
theorem cx_postroadlaw03_HeapKeys.ok : CxOk cx_postroadlaw03_HeapKeys := by
  refine CxOk.add cx_postroadlaw03_HeapSorts.ok rfl (fun CV hcv xs K w hx h => ?_) (fun CV hcv xs K w hx h => ?_)
  · unfold sh_postroadlaw03_HeapKeys.o at h; split at h
    · rename_i l0_a l0_l l0_c; exact sh_postroadlaw03_HeapKeys.calls CV ⟨l0_a, l0_l, l0_c⟩ hcv h
    · exact h.elim
  · unfold sh_postroadlaw03_HeapKeys.q at h; split at h
    · rename_i l0_a l0_l l0_c; obtain ⟨r, h1, h2⟩ := h; exact ⟨_, h2, fun w' e => sh_postroadlaw03_HeapKeys.calls CV ⟨l0_a, l0_l, l0_c⟩ hcv (h1 w' e)⟩
    · exact h.elim
def sh_postroadlaw03_HeapSteps.plan : Plan := (.seq .o (.join [] [] (.seq .o (.cond (.seq .o .o) .o)) (.seq .o (.seq .o (.seq (.seq .o (.cond (.seq .o .o) .o)) (.seq (.seq .o (.cond (.seq .o .o) .o)) (.join [] [7] (.seq .o (.block (.loop [.slot 10 (.int .i64), .box 7 [(.int .i64), .slice]] [] (.seq (.seq .o (.cond .o .o)) (.seq (.block (.seq (.draw [] [.loc, .pure, .pure, .pure, .quiet, .bigz, .pure, .pure, .pure, .pure, .alc, .alc, .big, .big, .pure] [0, 1, 2, 3, 4, 5, 6, 7, 8, 9, 10, 11, 12, 13, 14]) (.seq .o (.seq .o (.seq .o (.seq .o (.seq .o (.seq .o (.seq (.draw [] [.pure, .pure, .loc, .pure, .pure, .pure, .pure, .loc, .pure, .pure, .pure, .pure, .pure, .pure, .pure, .pure, .pure, .pure, .loc, .pure, .pure, .pure, .pure, .pure, .loc, .pure, .pure, .pure, .pure, .pure, .pure, .pure, .pure, .pure, .pure, .pure, .pure, .pure, .pure, .pure, .pure, .pure, .pure, .pure, .quiet, .pure, .loc, .pure, .pure, .pure] [0, 1, 2, 3, 4, 5, 6, 7, 8, 9, 10, 11, 12, 13, 14, 15, 16, 17, 18, 19, 20, 21, 22, 23, 24, 25, 26, 27, 28, 29, 30, 31, 32, 33, 34, 35, 36, 37, 38, 39, 40, 41, 42, 43, 44, 45, 46, 47, 48, 49]) (.cond (.seq .o .o) .o)))))))))) .o))))) (.seq .o .o))))))))
theorem sh_postroadlaw03_HeapSteps.is (CV : CVT) (n0 : Int) (l0 : SV) (id0 : Int) (w : World) (R : Value → World → Prop) : sh_postroadlaw03_HeapSteps n0 l0 id0 (fun r0 w' => R (.bool r0) w') w = denF (cx_postroadlaw03_HeapKeys.with CV) Try.f11 sh_postroadlaw03_HeapSteps.plan [.v (.int .i64 n0), .v (.slice l0.a l0.len l0.cap), .v (.int .i64 id0)] w R := by kernel_rfl
theorem sh_postroadlaw03_HeapSteps.calls (CV : CVT) (n0 : Int) (l0 : SV) (id0 : Int) (hcv : CVOk Try.prog CV) {w : World} {R : Ending → World → Prop} (h : sh_postroadlaw03_HeapSteps n0 l0 id0 (fun r0 w' => R (.returned (.bool r0)) w') w) : Calls Try.prog 11 #[(.int .i64 n0), (.slice l0.a l0.len l0.cap), (.int .i64 id0)] w R :=
  calls_is (cx := cx_postroadlaw03_HeapKeys.with CV) mixed_Try (cx_postroadlaw03_HeapKeys.ok.with CV) hcv Try.func11 sh_postroadlaw03_HeapSteps.plan (xs := [.v (.int .i64 n0), .v (.slice l0.a l0.len l0.cap), .v (.int .i64 id0)]) ((args_cons _ (args_cons _ (args_cons _ args_nil)))) (by kernel_rfl) (sh_postroadlaw03_HeapSteps.is CV n0 l0 id0 w (fun v w' => R (.returned v) w')) h
def sh_postroadlaw03_HeapSteps.o : CVT → List X → (Value → World → Prop) → World → Prop
  | CV, [.v (.int .i64 n0), .v (.slice l0_a l0_l l0_c), .v (.int .i64 id0)], K, w => sh_postroadlaw03_HeapSteps n0 ⟨l0_a, l0_l, l0_c⟩ id0 (fun r0 w' => K (.bool r0) w') w
  | _, _, _, _ => False
def sh_postroadlaw03_HeapSteps.q : CVT → List X → World → (Value → Prop) → Prop
  | CV, [.v (.int .i64 n0), .v (.slice l0_a l0_l l0_c), .v (.int .i64 id0)], w, K => Quiet (Bool) (fun r => (.bool r)) (fun K1 w' => sh_postroadlaw03_HeapSteps n0 ⟨l0_a, l0_l, l0_c⟩ id0 (fun r0 w'' => K1 r0 w'') w') w (fun r => K (.bool r))
  | _, _, _, _ => False
noncomputable def cx_postroadlaw03_HeapSteps : Cx := Cx.add Try.prog cx_postroadlaw03_HeapKeys 11 sh_postroadlaw03_HeapSteps.o sh_postroadlaw03_HeapSteps.q
theorem cx_postroadlaw03_HeapSteps.ok : CxOk cx_postroadlaw03_HeapSteps := by
  refine CxOk.add cx_postroadlaw03_HeapKeys.ok rfl (fun CV hcv xs K w hx h => ?_) (fun CV hcv xs K w hx h => ?_)
  · unfold sh_postroadlaw03_HeapSteps.o at h; split at h
    · rename_i n0 l0_a l0_l l0_c id0; exact sh_postroadlaw03_HeapSteps.calls CV n0 ⟨l0_a, l0_l, l0_c⟩ id0 hcv h
    · exact h.elim
  · unfold sh_postroadlaw03_HeapSteps.q at h; split at h
    · rename_i n0 l0_a l0_l l0_c id0; obtain ⟨r, h1, h2⟩ := h; exact ⟨_, h2, fun w' e => sh_postroadlaw03_HeapSteps.calls CV n0 ⟨l0_a, l0_l, l0_c⟩ id0 hcv (h1 w' e)⟩
    · exact h.elim
def sh_postroadlaw03_HeapClears.plan : Plan := (.seq .o (.seq .o (.seq (.seq .o (.cond (.seq .o .o) .o)) (.seq .o (.seq .o (.join [] [] (.seq .o (.block (.loop [.slot 8 (.int .i64)] [] (.seq (.seq .o (.cond .o .o)) (.seq (.block .o) .o))))) (.seq .o (.seq .o (.join [] [] (.seq .o (.block (.loop [.slot 10 (.int .i64)] [] (.seq (.seq .o (.cond .o .o)) (.join [] [] (.block (.seq .o (.seq .o (.cond .o .o)))) .o))))) (.seq (.seq .o (.cond (.seq .o .o) .o)) (.join [] [] (.block (.loop [] [] (.seq (.seq .o (.cond .o .o)) (.block (.seq .o (.seq .o (.seq .o (.cond (.seq .o .o) .o)))))))) (.seq .o .o))))))))))))
theorem sh_postroadlaw03_HeapClears.is (CV : CVT) (keys0 : SV) (out0 : Int) (w : World) (R : Value → World → Prop) : sh_postroadlaw03_HeapClears keys0 out0 (fun r0 w' => R (.bool r0) w') w = denF (cx_postroadlaw03_HeapSteps.with CV) Try.f12 sh_postroadlaw03_HeapClears.plan [.v (.slice keys0.a keys0.len keys0.cap), .v (.int .u8 out0)] w R := by kernel_rfl
theorem sh_postroadlaw03_HeapClears.calls (CV : CVT) (keys0 : SV) (out0 : Int) (hcv : CVOk Try.prog CV) {w : World} {R : Ending → World → Prop} (h : sh_postroadlaw03_HeapClears keys0 out0 (fun r0 w' => R (.returned (.bool r0)) w') w) : Calls Try.prog 12 #[(.slice keys0.a keys0.len keys0.cap), (.int .u8 out0)] w R :=
  calls_is (cx := cx_postroadlaw03_HeapSteps.with CV) mixed_Try (cx_postroadlaw03_HeapSteps.ok.with CV) hcv Try.func12 sh_postroadlaw03_HeapClears.plan (xs := [.v (.slice keys0.a keys0.len keys0.cap), .v (.int .u8 out0)]) ((args_cons _ (args_cons _ args_nil))) (by kernel_rfl) (sh_postroadlaw03_HeapClears.is CV keys0 out0 w (fun v w' => R (.returned v) w')) h
def sh_postroadlaw03_HeapClears.o : CVT → List X → (Value → World → Prop) → World → Prop
  | CV, [.v (.slice keys0_a keys0_l keys0_c), .v (.int .u8 out0)], K, w => sh_postroadlaw03_HeapClears ⟨keys0_a, keys0_l, keys0_c⟩ out0 (fun r0 w' => K (.bool r0) w') w
  | _, _, _, _ => False
def sh_postroadlaw03_HeapClears.q : CVT → List X → World → (Value → Prop) → Prop
  | CV, [.v (.slice keys0_a keys0_l keys0_c), .v (.int .u8 out0)], w, K => Quiet (Bool) (fun r => (.bool r)) (fun K1 w' => sh_postroadlaw03_HeapClears ⟨keys0_a, keys0_l, keys0_c⟩ out0 (fun r0 w'' => K1 r0 w'') w') w (fun r => K (.bool r))
  | _, _, _, _ => False
noncomputable def cx_postroadlaw03_HeapClears : Cx := Cx.add Try.prog cx_postroadlaw03_HeapSteps 12 sh_postroadlaw03_HeapClears.o sh_postroadlaw03_HeapClears.q
theorem cx_postroadlaw03_HeapClears.ok : CxOk cx_postroadlaw03_HeapClears := by
  refine CxOk.add cx_postroadlaw03_HeapSteps.ok rfl (fun CV hcv xs K w hx h => ?_) (fun CV hcv xs K w hx h => ?_)
  · unfold sh_postroadlaw03_HeapClears.o at h; split at h
    · rename_i keys0_a keys0_l keys0_c out0; exact sh_postroadlaw03_HeapClears.calls CV ⟨keys0_a, keys0_l, keys0_c⟩ out0 hcv h
    · exact h.elim
  · unfold sh_postroadlaw03_HeapClears.q at h; split at h
    · rename_i keys0_a keys0_l keys0_c out0; obtain ⟨r, h1, h2⟩ := h; exact ⟨_, h2, fun w' e => sh_postroadlaw03_HeapClears.calls CV ⟨keys0_a, keys0_l, keys0_c⟩ out0 hcv (h1 w' e)⟩
    · exact h.elim
def sh_postroadlaw03_HeapTwo.plan : Plan := (.seq .o (.seq (.seq .o (.cond (.seq .o .o) .o)) (.seq .o (.seq .o (.seq .o (.join [] [] (.seq .o (.block (.loop [.slot 8 (.int .i64)] [] (.join [] [] (.seq .o (.cond .o .o)) (.join [] [] (.block (.join [] [] (.seq .o (.cond .o .o)) (.seq (.seq .o (.cond .o .o)) (.seq .o (.seq .o (.seq .o (.cond (.seq .o .o) .o))))))) .o))))) (.seq .o .o)))))))
theorem sh_postroadlaw03_HeapTwo.is (CV : CVT) (a0 : SV) (b0 : SV) (w : World) (R : Value → World → Prop) : sh_postroadlaw03_HeapTwo a0 b0 (fun r0 w' => R (.bool r0) w') w = denF (cx_postroadlaw03_HeapClears.with CV) Try.f13 sh_postroadlaw03_HeapTwo.plan [.v (.slice a0.a a0.len a0.cap), .v (.slice b0.a b0.len b0.cap)] w R := by kernel_rfl
theorem sh_postroadlaw03_HeapTwo.calls (CV : CVT) (a0 : SV) (b0 : SV) (hcv : CVOk Try.prog CV) {w : World} {R : Ending → World → Prop} (h : sh_postroadlaw03_HeapTwo a0 b0 (fun r0 w' => R (.returned (.bool r0)) w') w) : Calls Try.prog 13 #[(.slice a0.a a0.len a0.cap), (.slice b0.a b0.len b0.cap)] w R :=
  calls_is (cx := cx_postroadlaw03_HeapClears.with CV) mixed_Try (cx_postroadlaw03_HeapClears.ok.with CV) hcv Try.func13 sh_postroadlaw03_HeapTwo.plan (xs := [.v (.slice a0.a a0.len a0.cap), .v (.slice b0.a b0.len b0.cap)]) ((args_cons _ (args_cons _ args_nil))) (by kernel_rfl) (sh_postroadlaw03_HeapTwo.is CV a0 b0 w (fun v w' => R (.returned v) w')) h
def sh_postroadlaw03_HeapTwo.o : CVT → List X → (Value → World → Prop) → World → Prop
  | CV, [.v (.slice a0_a a0_l a0_c), .v (.slice b0_a b0_l b0_c)], K, w => sh_postroadlaw03_HeapTwo ⟨a0_a, a0_l, a0_c⟩ ⟨b0_a, b0_l, b0_c⟩ (fun r0 w' => K (.bool r0) w') w
  | _, _, _, _ => False
def sh_postroadlaw03_HeapTwo.q : CVT → List X → World → (Value → Prop) → Prop
  | CV, [.v (.slice a0_a a0_l a0_c), .v (.slice b0_a b0_l b0_c)], w, K => Quiet (Bool) (fun r => (.bool r)) (fun K1 w' => sh_postroadlaw03_HeapTwo ⟨a0_a, a0_l, a0_c⟩ ⟨b0_a, b0_l, b0_c⟩ (fun r0 w'' => K1 r0 w'') w') w (fun r => K (.bool r))
  | _, _, _, _ => False
noncomputable def cx_postroadlaw03_HeapTwo : Cx := Cx.add Try.prog cx_postroadlaw03_HeapClears 13 sh_postroadlaw03_HeapTwo.o sh_postroadlaw03_HeapTwo.q
theorem cx_postroadlaw03_HeapTwo.ok : CxOk cx_postroadlaw03_HeapTwo := by
  refine CxOk.add cx_postroadlaw03_HeapClears.ok rfl (fun CV hcv xs K w hx h => ?_) (fun CV hcv xs K w hx h => ?_)
  · unfold sh_postroadlaw03_HeapTwo.o at h; split at h
    · rename_i a0_a a0_l a0_c b0_a b0_l b0_c; exact sh_postroadlaw03_HeapTwo.calls CV ⟨a0_a, a0_l, a0_c⟩ ⟨b0_a, b0_l, b0_c⟩ hcv h
    · exact h.elim
  · unfold sh_postroadlaw03_HeapTwo.q at h; split at h
    · rename_i a0_a a0_l a0_c b0_a b0_l b0_c; obtain ⟨r, h1, h2⟩ := h; exact ⟨_, h2, fun w' e => sh_postroadlaw03_HeapTwo.calls CV ⟨a0_a, a0_l, a0_c⟩ ⟨b0_a, b0_l, b0_c⟩ hcv (h1 w' e)⟩
    · exact h.elim
def sh_postroadlaw03_HeapPops.plan : Plan := (.seq .o (.seq (.seq .o (.cond (.seq .o .o) .o)) (.seq .o (.join [] [] (.seq .o (.block (.loop [.slot 4 (.int .i64)] [] (.seq (.seq .o (.cond .o .o)) (.seq (.block .o) .o))))) (.join [] [] (.block (.loop [] [] (.seq (.seq .o (.cond .o .o)) (.block (.seq .o (.seq .o (.seq .o (.seq .o (.seq .o (.cond (.seq .o .o) .o)))))))))) (.seq .o (.seq .o .o)))))))
theorem sh_postroadlaw03_HeapPops.is (CV : CVT) (l0 : SV) (w : World) (R : Value → World → Prop) : sh_postroadlaw03_HeapPops l0 (fun r0 w' => R (.bool r0) w') w = denF (cx_postroadlaw03_HeapTwo.with CV) Try.f14 sh_postroadlaw03_HeapPops.plan [.v (.slice l0.a l0.len l0.cap)] w R := by kernel_rfl
theorem sh_postroadlaw03_HeapPops.calls (CV : CVT) (l0 : SV) (hcv : CVOk Try.prog CV) {w : World} {R : Ending → World → Prop} (h : sh_postroadlaw03_HeapPops l0 (fun r0 w' => R (.returned (.bool r0)) w') w) : Calls Try.prog 14 #[(.slice l0.a l0.len l0.cap)] w R :=
  calls_is (cx := cx_postroadlaw03_HeapTwo.with CV) mixed_Try (cx_postroadlaw03_HeapTwo.ok.with CV) hcv Try.func14 sh_postroadlaw03_HeapPops.plan (xs := [.v (.slice l0.a l0.len l0.cap)]) ((args_cons _ args_nil)) (by kernel_rfl) (sh_postroadlaw03_HeapPops.is CV l0 w (fun v w' => R (.returned v) w')) h
def sh_postroadlaw03_HeapPops.o : CVT → List X → (Value → World → Prop) → World → Prop
  | CV, [.v (.slice l0_a l0_l l0_c)], K, w => sh_postroadlaw03_HeapPops ⟨l0_a, l0_l, l0_c⟩ (fun r0 w' => K (.bool r0) w') w
  | _, _, _, _ => False
def sh_postroadlaw03_HeapPops.q : CVT → List X → World → (Value → Prop) → Prop
  | CV, [.v (.slice l0_a l0_l l0_c)], w, K => Quiet (Bool) (fun r => (.bool r)) (fun K1 w' => sh_postroadlaw03_HeapPops ⟨l0_a, l0_l, l0_c⟩ (fun r0 w'' => K1 r0 w'') w') w (fun r => K (.bool r))
  | _, _, _, _ => False
noncomputable def cx_postroadlaw03_HeapPops : Cx := Cx.add Try.prog cx_postroadlaw03_HeapTwo 14 sh_postroadlaw03_HeapPops.o sh_postroadlaw03_HeapPops.q
theorem cx_postroadlaw03_HeapPops.ok : CxOk cx_postroadlaw03_HeapPops := by
  refine CxOk.add cx_postroadlaw03_HeapTwo.ok rfl (fun CV hcv xs K w hx h => ?_) (fun CV hcv xs K w hx h => ?_)
  · unfold sh_postroadlaw03_HeapPops.o at h; split at h
    · rename_i l0_a l0_l l0_c; exact sh_postroadlaw03_HeapPops.calls CV ⟨l0_a, l0_l, l0_c⟩ hcv h
    · exact h.elim
  · unfold sh_postroadlaw03_HeapPops.q at h; split at h
    · rename_i l0_a l0_l l0_c; obtain ⟨r, h1, h2⟩ := h; exact ⟨_, h2, fun w' e => sh_postroadlaw03_HeapPops.calls CV ⟨l0_a, l0_l, l0_c⟩ hcv (h1 w' e)⟩
    · exact h.elim
end Go.Sh
