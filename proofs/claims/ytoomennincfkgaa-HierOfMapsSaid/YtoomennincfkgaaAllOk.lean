/- The shallow definitions are what the code asks; printed by gen.py of these sessions. -/
import Derived.Test.YtoomennincfkgaaAllDef
import Derived.Test.YtoomennincfkgaaSnd8
import Derived.Test.YtoomennincfkgaaProg
import Derived.KernelRfl
set_option maxRecDepth 100000
set_option linter.unusedVariables false
namespace Go.Sh
open Go.Proofs
theorem mixed_Try : Try.prog.follows .mixedOrders = true := by kernel_rfl
noncomputable def cx_0 : Cx := Cx.none Try.prog
theorem cx_0.ok : CxOk cx_0 := CxOk.none _
def sh_postroadlaw10_long.plan : Plan := (.seq .o (.seq .o .o))
theorem sh_postroadlaw10_long.is (CV : CVT) (h0_Rank : SV) (h0_Ways : SV) (w : World) (R : Value → World → Prop) : sh_postroadlaw10_long h0_Rank h0_Ways (fun r0 w' => R (.bool r0) w') w = denF (cx_0.with CV) Try.f10 sh_postroadlaw10_long.plan [.v (.agg #[(.slice h0_Rank.a h0_Rank.len h0_Rank.cap), (.slice h0_Ways.a h0_Ways.len h0_Ways.cap)])] w R := by kernel_rfl
theorem sh_postroadlaw10_long.calls (CV : CVT) (h0_Rank : SV) (h0_Ways : SV) (hcv : CVOk Try.prog CV) {w : World} {R : Ending → World → Prop} (h : sh_postroadlaw10_long h0_Rank h0_Ways (fun r0 w' => R (.returned (.bool r0)) w') w) : Calls Try.prog 10 #[(.agg #[(.slice h0_Rank.a h0_Rank.len h0_Rank.cap), (.slice h0_Ways.a h0_Ways.len h0_Ways.cap)])] w R :=
  calls_is (cx := cx_0.with CV) mixed_Try (cx_0.ok.with CV) hcv Try.func10 sh_postroadlaw10_long.plan (xs := [.v (.agg #[(.slice h0_Rank.a h0_Rank.len h0_Rank.cap), (.slice h0_Ways.a h0_Ways.len h0_Ways.cap)])]) ((args_cons _ args_nil)) (by kernel_rfl) (sh_postroadlaw10_long.is CV h0_Rank h0_Ways w (fun v w' => R (.returned v) w')) h
def sh_postroadlaw10_long.o : CVT → List X → (Value → World → Prop) → World → Prop
  | CV, [.v (.agg ⟨[.slice h0_Rank_a h0_Rank_l h0_Rank_c, .slice h0_Ways_a h0_Ways_l h0_Ways_c]⟩)], K, w => sh_postroadlaw10_long ⟨h0_Rank_a, h0_Rank_l, h0_Rank_c⟩ ⟨h0_Ways_a, h0_Ways_l, h0_Ways_c⟩ (fun r0 w' => K (.bool r0) w') w
  | _, _, _, _ => False
def sh_postroadlaw10_long.q : CVT → List X → World → (Value → Prop) → Prop
  | CV, [.v (.agg ⟨[.slice h0_Rank_a h0_Rank_l h0_Rank_c, .slice h0_Ways_a h0_Ways_l h0_Ways_c]⟩)], w, K => Quiet (Bool) (fun r => (.bool r)) (fun K1 w' => sh_postroadlaw10_long ⟨h0_Rank_a, h0_Rank_l, h0_Rank_c⟩ ⟨h0_Ways_a, h0_Ways_l, h0_Ways_c⟩ (fun r0 w'' => K1 r0 w'') w') w (fun r => K (.bool r))
  | _, _, _, _ => False
noncomputable def cx_postroadlaw10_long : Cx := Cx.add Try.prog cx_0 10 sh_postroadlaw10_long.o sh_postroadlaw10_long.q
theorem cx_postroadlaw10_long.ok : CxOk cx_postroadlaw10_long := by
  refine CxOk.add cx_0.ok rfl (fun CV hcv xs K w hx h => ?_) (fun CV hcv xs K w hx h => ?_)
  · unfold sh_postroadlaw10_long.o at h; split at h
    · rename_i h0_Rank_a h0_Rank_l h0_Rank_c h0_Ways_a h0_Ways_l h0_Ways_c; exact sh_postroadlaw10_long.calls CV ⟨h0_Rank_a, h0_Rank_l, h0_Rank_c⟩ ⟨h0_Ways_a, h0_Ways_l, h0_Ways_c⟩ hcv h
    · exact h.elim
  · unfold sh_postroadlaw10_long.q at h; split at h
    · rename_i h0_Rank_a h0_Rank_l h0_Rank_c h0_Ways_a h0_Ways_l h0_Ways_c; obtain ⟨r, h1, h2⟩ := h; exact ⟨_, h2, fun w' e => sh_postroadlaw10_long.calls CV ⟨h0_Rank_a, h0_Rank_l, h0_Rank_c⟩ ⟨h0_Ways_a, h0_Ways_l, h0_Ways_c⟩ hcv (h1 w' e)⟩
    · exact h.elim
def sh_postroadref10_At.plan : Plan := (.seq .o (.seq (.seq .o (.block (.loop [.slot 5 (.int .i64)] [] (.seq (.seq .o (.cond .o .o)) (.seq (.block (.seq .o (.cond (.seq .o .o) .o))) .o))))) (.seq .o .o)))
theorem sh_postroadref10_At.is (CV : CVT) (h0_Rank : SV) (h0_Ways : SV) (rank0 : Int) (w : World) (R : Value → World → Prop) : sh_postroadref10_At h0_Rank h0_Ways rank0 (fun r0 w' => R (.int .i64 r0) w') w = denF (cx_postroadlaw10_long.with CV) Try.f29 sh_postroadref10_At.plan [.v (.agg #[(.slice h0_Rank.a h0_Rank.len h0_Rank.cap), (.slice h0_Ways.a h0_Ways.len h0_Ways.cap)]), .v (.int .i64 rank0)] w R := by kernel_rfl
theorem sh_postroadref10_At.calls (CV : CVT) (h0_Rank : SV) (h0_Ways : SV) (rank0 : Int) (hcv : CVOk Try.prog CV) {w : World} {R : Ending → World → Prop} (h : sh_postroadref10_At h0_Rank h0_Ways rank0 (fun r0 w' => R (.returned (.int .i64 r0)) w') w) : Calls Try.prog 29 #[(.agg #[(.slice h0_Rank.a h0_Rank.len h0_Rank.cap), (.slice h0_Ways.a h0_Ways.len h0_Ways.cap)]), (.int .i64 rank0)] w R :=
  calls_is (cx := cx_postroadlaw10_long.with CV) mixed_Try (cx_postroadlaw10_long.ok.with CV) hcv Try.func29 sh_postroadref10_At.plan (xs := [.v (.agg #[(.slice h0_Rank.a h0_Rank.len h0_Rank.cap), (.slice h0_Ways.a h0_Ways.len h0_Ways.cap)]), .v (.int .i64 rank0)]) ((args_cons _ (args_cons _ args_nil))) (by kernel_rfl) (sh_postroadref10_At.is CV h0_Rank h0_Ways rank0 w (fun v w' => R (.returned v) w')) h
def sh_postroadref10_At.o : CVT → List X → (Value → World → Prop) → World → Prop
  | CV, [.v (.agg ⟨[.slice h0_Rank_a h0_Rank_l h0_Rank_c, .slice h0_Ways_a h0_Ways_l h0_Ways_c]⟩), .v (.int .i64 rank0)], K, w => sh_postroadref10_At ⟨h0_Rank_a, h0_Rank_l, h0_Rank_c⟩ ⟨h0_Ways_a, h0_Ways_l, h0_Ways_c⟩ rank0 (fun r0 w' => K (.int .i64 r0) w') w
  | _, _, _, _ => False
def sh_postroadref10_At.q : CVT → List X → World → (Value → Prop) → Prop
  | CV, [.v (.agg ⟨[.slice h0_Rank_a h0_Rank_l h0_Rank_c, .slice h0_Ways_a h0_Ways_l h0_Ways_c]⟩), .v (.int .i64 rank0)], w, K => Quiet (Int) (fun r => (.int .i64 r)) (fun K1 w' => sh_postroadref10_At ⟨h0_Rank_a, h0_Rank_l, h0_Rank_c⟩ ⟨h0_Ways_a, h0_Ways_l, h0_Ways_c⟩ rank0 (fun r0 w'' => K1 r0 w'') w') w (fun r => K (.int .i64 r))
  | _, _, _, _ => False
noncomputable def cx_postroadref10_At : Cx := Cx.add Try.prog cx_postroadlaw10_long 29 sh_postroadref10_At.o sh_postroadref10_At.q
theorem cx_postroadref10_At.ok : CxOk cx_postroadref10_At := by
  refine CxOk.add cx_postroadlaw10_long.ok rfl (fun CV hcv xs K w hx h => ?_) (fun CV hcv xs K w hx h => ?_)
  · unfold sh_postroadref10_At.o at h; split at h
    · rename_i h0_Rank_a h0_Rank_l h0_Rank_c h0_Ways_a h0_Ways_l h0_Ways_c rank0; exact sh_postroadref10_At.calls CV ⟨h0_Rank_a, h0_Rank_l, h0_Rank_c⟩ ⟨h0_Ways_a, h0_Ways_l, h0_Ways_c⟩ rank0 hcv h
    · exact h.elim
  · unfold sh_postroadref10_At.q at h; split at h
    · rename_i h0_Rank_a h0_Rank_l h0_Rank_c h0_Ways_a h0_Ways_l h0_Ways_c rank0; obtain ⟨r, h1, h2⟩ := h; exact ⟨_, h2, fun w' e => sh_postroadref10_At.calls CV ⟨h0_Rank_a, h0_Rank_l, h0_Rank_c⟩ ⟨h0_Ways_a, h0_Ways_l, h0_Ways_c⟩ rank0 hcv (h1 w' e)⟩
    · exact h.elim
def sh_postroadref10_place.plan : Plan := (.seq .o (.seq .o .o))
theorem sh_postroadref10_place.is (CV : CVT) (h0_Rank : SV) (h0_Ways : SV) (v0 : Int) (w : World) (R : Value → World → Prop) : sh_postroadref10_place h0_Rank h0_Ways v0 (fun r0 w' => R (.bool r0) w') w = denF (cx_postroadref10_At.with CV) Try.f39 sh_postroadref10_place.plan [.v (.agg #[(.slice h0_Rank.a h0_Rank.len h0_Rank.cap), (.slice h0_Ways.a h0_Ways.len h0_Ways.cap)]), .v (.int .i64 v0)] w R := by kernel_rfl
theorem sh_postroadref10_place.calls (CV : CVT) (h0_Rank : SV) (h0_Ways : SV) (v0 : Int) (hcv : CVOk Try.prog CV) {w : World} {R : Ending → World → Prop} (h : sh_postroadref10_place h0_Rank h0_Ways v0 (fun r0 w' => R (.returned (.bool r0)) w') w) : Calls Try.prog 39 #[(.agg #[(.slice h0_Rank.a h0_Rank.len h0_Rank.cap), (.slice h0_Ways.a h0_Ways.len h0_Ways.cap)]), (.int .i64 v0)] w R :=
  calls_is (cx := cx_postroadref10_At.with CV) mixed_Try (cx_postroadref10_At.ok.with CV) hcv Try.func39 sh_postroadref10_place.plan (xs := [.v (.agg #[(.slice h0_Rank.a h0_Rank.len h0_Rank.cap), (.slice h0_Ways.a h0_Ways.len h0_Ways.cap)]), .v (.int .i64 v0)]) ((args_cons _ (args_cons _ args_nil))) (by kernel_rfl) (sh_postroadref10_place.is CV h0_Rank h0_Ways v0 w (fun v w' => R (.returned v) w')) h
def sh_postroadref10_place.o : CVT → List X → (Value → World → Prop) → World → Prop
  | CV, [.v (.agg ⟨[.slice h0_Rank_a h0_Rank_l h0_Rank_c, .slice h0_Ways_a h0_Ways_l h0_Ways_c]⟩), .v (.int .i64 v0)], K, w => sh_postroadref10_place ⟨h0_Rank_a, h0_Rank_l, h0_Rank_c⟩ ⟨h0_Ways_a, h0_Ways_l, h0_Ways_c⟩ v0 (fun r0 w' => K (.bool r0) w') w
  | _, _, _, _ => False
def sh_postroadref10_place.q : CVT → List X → World → (Value → Prop) → Prop
  | CV, [.v (.agg ⟨[.slice h0_Rank_a h0_Rank_l h0_Rank_c, .slice h0_Ways_a h0_Ways_l h0_Ways_c]⟩), .v (.int .i64 v0)], w, K => Quiet (Bool) (fun r => (.bool r)) (fun K1 w' => sh_postroadref10_place ⟨h0_Rank_a, h0_Rank_l, h0_Rank_c⟩ ⟨h0_Ways_a, h0_Ways_l, h0_Ways_c⟩ v0 (fun r0 w'' => K1 r0 w'') w') w (fun r => K (.bool r))
  | _, _, _, _ => False
noncomputable def cx_postroadref10_place : Cx := Cx.add Try.prog cx_postroadref10_At 39 sh_postroadref10_place.o sh_postroadref10_place.q
theorem cx_postroadref10_place.ok : CxOk cx_postroadref10_place := by
  refine CxOk.add cx_postroadref10_At.ok rfl (fun CV hcv xs K w hx h => ?_) (fun CV hcv xs K w hx h => ?_)
  · unfold sh_postroadref10_place.o at h; split at h
    · rename_i h0_Rank_a h0_Rank_l h0_Rank_c h0_Ways_a h0_Ways_l h0_Ways_c v0; exact sh_postroadref10_place.calls CV ⟨h0_Rank_a, h0_Rank_l, h0_Rank_c⟩ ⟨h0_Ways_a, h0_Ways_l, h0_Ways_c⟩ v0 hcv h
    · exact h.elim
  · unfold sh_postroadref10_place.q at h; split at h
    · rename_i h0_Rank_a h0_Rank_l h0_Rank_c h0_Ways_a h0_Ways_l h0_Ways_c v0; obtain ⟨r, h1, h2⟩ := h; exact ⟨_, h2, fun w' e => sh_postroadref10_place.calls CV ⟨h0_Rank_a, h0_Rank_l, h0_Rank_c⟩ ⟨h0_Ways_a, h0_Ways_l, h0_Ways_c⟩ v0 hcv (h1 w' e)⟩
    · exact h.elim
def sh_postroadref10_Find.plan : Plan := (.seq .o (.seq (.seq .o (.block (.loop [.slot 7 (.int .i64)] [] (.seq (.seq .o (.cond .o .o)) (.join [] [] (.block (.seq .o (.cond (.seq .o .o) .o))) .o))))) (.seq .o .o)))
theorem sh_postroadref10_Find.is (CV : CVT) (h0_Rank : SV) (h0_Ways : SV) (u0 : Int) (v0 : Int) (w : World) (R : Value → World → Prop) : sh_postroadref10_Find h0_Rank h0_Ways u0 v0 (fun r0 w' => R (.int .i64 r0) w') w = denF (cx_postroadref10_place.with CV) Try.f30 sh_postroadref10_Find.plan [.v (.agg #[(.slice h0_Rank.a h0_Rank.len h0_Rank.cap), (.slice h0_Ways.a h0_Ways.len h0_Ways.cap)]), .v (.int .i64 u0), .v (.int .i64 v0)] w R := by kernel_rfl
theorem sh_postroadref10_Find.calls (CV : CVT) (h0_Rank : SV) (h0_Ways : SV) (u0 : Int) (v0 : Int) (hcv : CVOk Try.prog CV) {w : World} {R : Ending → World → Prop} (h : sh_postroadref10_Find h0_Rank h0_Ways u0 v0 (fun r0 w' => R (.returned (.int .i64 r0)) w') w) : Calls Try.prog 30 #[(.agg #[(.slice h0_Rank.a h0_Rank.len h0_Rank.cap), (.slice h0_Ways.a h0_Ways.len h0_Ways.cap)]), (.int .i64 u0), (.int .i64 v0)] w R :=
  calls_is (cx := cx_postroadref10_place.with CV) mixed_Try (cx_postroadref10_place.ok.with CV) hcv Try.func30 sh_postroadref10_Find.plan (xs := [.v (.agg #[(.slice h0_Rank.a h0_Rank.len h0_Rank.cap), (.slice h0_Ways.a h0_Ways.len h0_Ways.cap)]), .v (.int .i64 u0), .v (.int .i64 v0)]) ((args_cons _ (args_cons _ (args_cons _ args_nil)))) (by kernel_rfl) (sh_postroadref10_Find.is CV h0_Rank h0_Ways u0 v0 w (fun v w' => R (.returned v) w')) h
def sh_postroadref10_Find.o : CVT → List X → (Value → World → Prop) → World → Prop
  | CV, [.v (.agg ⟨[.slice h0_Rank_a h0_Rank_l h0_Rank_c, .slice h0_Ways_a h0_Ways_l h0_Ways_c]⟩), .v (.int .i64 u0), .v (.int .i64 v0)], K, w => sh_postroadref10_Find ⟨h0_Rank_a, h0_Rank_l, h0_Rank_c⟩ ⟨h0_Ways_a, h0_Ways_l, h0_Ways_c⟩ u0 v0 (fun r0 w' => K (.int .i64 r0) w') w
  | _, _, _, _ => False
def sh_postroadref10_Find.q : CVT → List X → World → (Value → Prop) → Prop
  | CV, [.v (.agg ⟨[.slice h0_Rank_a h0_Rank_l h0_Rank_c, .slice h0_Ways_a h0_Ways_l h0_Ways_c]⟩), .v (.int .i64 u0), .v (.int .i64 v0)], w, K => Quiet (Int) (fun r => (.int .i64 r)) (fun K1 w' => sh_postroadref10_Find ⟨h0_Rank_a, h0_Rank_l, h0_Rank_c⟩ ⟨h0_Ways_a, h0_Ways_l, h0_Ways_c⟩ u0 v0 (fun r0 w'' => K1 r0 w'') w') w (fun r => K (.int .i64 r))
  | _, _, _, _ => False
noncomputable def cx_postroadref10_Find : Cx := Cx.add Try.prog cx_postroadref10_place 30 sh_postroadref10_Find.o sh_postroadref10_Find.q
theorem cx_postroadref10_Find.ok : CxOk cx_postroadref10_Find := by
  refine CxOk.add cx_postroadref10_place.ok rfl (fun CV hcv xs K w hx h => ?_) (fun CV hcv xs K w hx h => ?_)
  · unfold sh_postroadref10_Find.o at h; split at h
    · rename_i h0_Rank_a h0_Rank_l h0_Rank_c h0_Ways_a h0_Ways_l h0_Ways_c u0 v0; exact sh_postroadref10_Find.calls CV ⟨h0_Rank_a, h0_Rank_l, h0_Rank_c⟩ ⟨h0_Ways_a, h0_Ways_l, h0_Ways_c⟩ u0 v0 hcv h
    · exact h.elim
  · unfold sh_postroadref10_Find.q at h; split at h
    · rename_i h0_Rank_a h0_Rank_l h0_Rank_c h0_Ways_a h0_Ways_l h0_Ways_c u0 v0; obtain ⟨r, h1, h2⟩ := h; exact ⟨_, h2, fun w' e => sh_postroadref10_Find.calls CV ⟨h0_Rank_a, h0_Rank_l, h0_Rank_c⟩ ⟨h0_Ways_a, h0_Ways_l, h0_Ways_c⟩ u0 v0 hcv (h1 w' e)⟩
    · exact h.elim
def sh_postroadref10_right.plan : Plan := (.seq .o (.seq .o (.seq (.seq .o (.cond (.seq .o .o) .o)) (.seq (.seq .o (.cond (.seq .o .o) .o)) (.seq (.seq (.draw [] [.pure, .pure, .loc, .pure, .pure, .loc, .pure, .pure, .loc, .quiet, .pure, .pure, .pure, .pure, .loc, .pure, .pure, .loc, .pure, .quiet, .pure, .loc, .pure, .loc, .pure, .quiet, .pure, .pure, .pure, .pure, .loc, .pure, .pure, .loc, .pure, .quiet, .pure, .loc, .pure, .loc, .pure, .quiet, .pure, .pure] [0, 1, 2, 3, 4, 5, 6, 7, 8, 9, 10, 11, 12, 13, 14, 15, 16, 17, 18, 19, 20, 21, 22, 23, 24, 25, 26, 27, 28, 29, 30, 31, 32, 33, 34, 35, 36, 37, 38, 39, 40, 41, 42, 43]) (.cond (.seq .o .o) .o)) (.seq .o (.seq .o (.seq (.draw [] [.pure, .pure, .pure, .pure, .pure, .pure, .pure, .pure, .loc, .pure, .pure, .pure, .pure, .quiet, .pure, .loc, .pure, .pure, .pure, .pure, .quiet, .pure, .pure, .pure, .loc, .pure, .pure, .pure] [0, 1, 2, 3, 4, 5, 6, 7, 8, 9, 10, 11, 12, 13, 14, 15, 16, 17, 18, 19, 20, 21, 22, 23, 24, 25, 26, 27]) .o))))))))
theorem sh_postroadref10_right.is (CV : CVT) (h0_Rank : SV) (h0_Ways : SV) (i0 : Int) (w : World) (R : Value → World → Prop) : sh_postroadref10_right h0_Rank h0_Ways i0 (fun r0 w' => R (.bool r0) w') w = denF (cx_postroadref10_Find.with CV) Try.f31 sh_postroadref10_right.plan [.v (.agg #[(.slice h0_Rank.a h0_Rank.len h0_Rank.cap), (.slice h0_Ways.a h0_Ways.len h0_Ways.cap)]), .v (.int .i64 i0)] w R := by kernel_rfl
theorem sh_postroadref10_right.calls (CV : CVT) (h0_Rank : SV) (h0_Ways : SV) (i0 : Int) (hcv : CVOk Try.prog CV) {w : World} {R : Ending → World → Prop} (h : sh_postroadref10_right h0_Rank h0_Ways i0 (fun r0 w' => R (.returned (.bool r0)) w') w) : Calls Try.prog 31 #[(.agg #[(.slice h0_Rank.a h0_Rank.len h0_Rank.cap), (.slice h0_Ways.a h0_Ways.len h0_Ways.cap)]), (.int .i64 i0)] w R :=
  calls_is (cx := cx_postroadref10_Find.with CV) mixed_Try (cx_postroadref10_Find.ok.with CV) hcv Try.func31 sh_postroadref10_right.plan (xs := [.v (.agg #[(.slice h0_Rank.a h0_Rank.len h0_Rank.cap), (.slice h0_Ways.a h0_Ways.len h0_Ways.cap)]), .v (.int .i64 i0)]) ((args_cons _ (args_cons _ args_nil))) (by kernel_rfl) (sh_postroadref10_right.is CV h0_Rank h0_Ways i0 w (fun v w' => R (.returned v) w')) h
def sh_postroadref10_right.o : CVT → List X → (Value → World → Prop) → World → Prop
  | CV, [.v (.agg ⟨[.slice h0_Rank_a h0_Rank_l h0_Rank_c, .slice h0_Ways_a h0_Ways_l h0_Ways_c]⟩), .v (.int .i64 i0)], K, w => sh_postroadref10_right ⟨h0_Rank_a, h0_Rank_l, h0_Rank_c⟩ ⟨h0_Ways_a, h0_Ways_l, h0_Ways_c⟩ i0 (fun r0 w' => K (.bool r0) w') w
  | _, _, _, _ => False
def sh_postroadref10_right.q : CVT → List X → World → (Value → Prop) → Prop
  | CV, [.v (.agg ⟨[.slice h0_Rank_a h0_Rank_l h0_Rank_c, .slice h0_Ways_a h0_Ways_l h0_Ways_c]⟩), .v (.int .i64 i0)], w, K => Quiet (Bool) (fun r => (.bool r)) (fun K1 w' => sh_postroadref10_right ⟨h0_Rank_a, h0_Rank_l, h0_Rank_c⟩ ⟨h0_Ways_a, h0_Ways_l, h0_Ways_c⟩ i0 (fun r0 w'' => K1 r0 w'') w') w (fun r => K (.bool r))
  | _, _, _, _ => False
noncomputable def cx_postroadref10_right : Cx := Cx.add Try.prog cx_postroadref10_Find 31 sh_postroadref10_right.o sh_postroadref10_right.q
theorem cx_postroadref10_right.ok : CxOk cx_postroadref10_right := by
  refine CxOk.add cx_postroadref10_Find.ok rfl (fun CV hcv xs K w hx h => ?_) (fun CV hcv xs K w hx h => ?_)
  · unfold sh_postroadref10_right.o at h; split at h
    · rename_i h0_Rank_a h0_Rank_l h0_Rank_c h0_Ways_a h0_Ways_l h0_Ways_c i0; exact sh_postroadref10_right.calls CV ⟨h0_Rank_a, h0_Rank_l, h0_Rank_c⟩ ⟨h0_Ways_a, h0_Ways_l, h0_Ways_c⟩ i0 hcv h
    · exact h.elim
  · unfold sh_postroadref10_right.q at h; split at h
    · rename_i h0_Rank_a h0_Rank_l h0_Rank_c h0_Ways_a h0_Ways_l h0_Ways_c i0; obtain ⟨r, h1, h2⟩ := h; exact ⟨_, h2, fun w' e => sh_postroadref10_right.calls CV ⟨h0_Rank_a, h0_Rank_l, h0_Rank_c⟩ ⟨h0_Ways_a, h0_Ways_l, h0_Ways_c⟩ i0 hcv (h1 w' e)⟩
    · exact h.elim
def sh_postroadref10_Check.plan : Plan := (.seq .o (.seq (.seq .o (.cond (.seq .o .o) .o)) (.join [] [] (.seq .o (.block (.loop [.slot 3 (.int .i64)] [] (.seq (.seq .o (.cond .o .o)) (.seq (.block (.seq .o (.cond (.seq .o .o) .o))) .o))))) (.seq (.seq .o (.block (.loop [.slot 4 (.int .i64)] [] (.seq (.seq .o (.cond .o .o)) (.seq (.block (.seq .o (.cond (.seq .o .o) .o))) .o))))) (.seq .o .o)))))
theorem sh_postroadref10_Check.is (CV : CVT) (h0_Rank : SV) (h0_Ways : SV) (w : World) (R : Value → World → Prop) : sh_postroadref10_Check h0_Rank h0_Ways (fun r0 w' => R (.int .i64 r0) w') w = denF (cx_postroadref10_right.with CV) Try.f11 sh_postroadref10_Check.plan [.v (.agg #[(.slice h0_Rank.a h0_Rank.len h0_Rank.cap), (.slice h0_Ways.a h0_Ways.len h0_Ways.cap)])] w R := by kernel_rfl
theorem sh_postroadref10_Check.calls (CV : CVT) (h0_Rank : SV) (h0_Ways : SV) (hcv : CVOk Try.prog CV) {w : World} {R : Ending → World → Prop} (h : sh_postroadref10_Check h0_Rank h0_Ways (fun r0 w' => R (.returned (.int .i64 r0)) w') w) : Calls Try.prog 11 #[(.agg #[(.slice h0_Rank.a h0_Rank.len h0_Rank.cap), (.slice h0_Ways.a h0_Ways.len h0_Ways.cap)])] w R :=
  calls_is (cx := cx_postroadref10_right.with CV) mixed_Try (cx_postroadref10_right.ok.with CV) hcv Try.func11 sh_postroadref10_Check.plan (xs := [.v (.agg #[(.slice h0_Rank.a h0_Rank.len h0_Rank.cap), (.slice h0_Ways.a h0_Ways.len h0_Ways.cap)])]) ((args_cons _ args_nil)) (by kernel_rfl) (sh_postroadref10_Check.is CV h0_Rank h0_Ways w (fun v w' => R (.returned v) w')) h
def sh_postroadref10_Check.o : CVT → List X → (Value → World → Prop) → World → Prop
  | CV, [.v (.agg ⟨[.slice h0_Rank_a h0_Rank_l h0_Rank_c, .slice h0_Ways_a h0_Ways_l h0_Ways_c]⟩)], K, w => sh_postroadref10_Check ⟨h0_Rank_a, h0_Rank_l, h0_Rank_c⟩ ⟨h0_Ways_a, h0_Ways_l, h0_Ways_c⟩ (fun r0 w' => K (.int .i64 r0) w') w
  | _, _, _, _ => False
def sh_postroadref10_Check.q : CVT → List X → World → (Value → Prop) → Prop
  | CV, [.v (.agg ⟨[.slice h0_Rank_a h0_Rank_l h0_Rank_c, .slice h0_Ways_a h0_Ways_l h0_Ways_c]⟩)], w, K => Quiet (Int) (fun r => (.int .i64 r)) (fun K1 w' => sh_postroadref10_Check ⟨h0_Rank_a, h0_Rank_l, h0_Rank_c⟩ ⟨h0_Ways_a, h0_Ways_l, h0_Ways_c⟩ (fun r0 w'' => K1 r0 w'') w') w (fun r => K (.int .i64 r))
  | _, _, _, _ => False
noncomputable def cx_postroadref10_Check : Cx := Cx.add Try.prog cx_postroadref10_right 11 sh_postroadref10_Check.o sh_postroadref10_Check.q
theorem cx_postroadref10_Check.ok : CxOk cx_postroadref10_Check := by
  refine CxOk.add cx_postroadref10_right.ok rfl (fun CV hcv xs K w hx h => ?_) (fun CV hcv xs K w hx h => ?_)
  · unfold sh_postroadref10_Check.o at h; split at h
    · rename_i h0_Rank_a h0_Rank_l h0_Rank_c h0_Ways_a h0_Ways_l h0_Ways_c; exact sh_postroadref10_Check.calls CV ⟨h0_Rank_a, h0_Rank_l, h0_Rank_c⟩ ⟨h0_Ways_a, h0_Ways_l, h0_Ways_c⟩ hcv h
    · exact h.elim
  · unfold sh_postroadref10_Check.q at h; split at h
    · rename_i h0_Rank_a h0_Rank_l h0_Rank_c h0_Ways_a h0_Ways_l h0_Ways_c; obtain ⟨r, h1, h2⟩ := h; exact ⟨_, h2, fun w' e => sh_postroadref10_Check.calls CV ⟨h0_Rank_a, h0_Rank_l, h0_Rank_c⟩ ⟨h0_Ways_a, h0_Ways_l, h0_Ways_c⟩ hcv (h1 w' e)⟩
    · exact h.elim
def sh_hier_placed.plan : Plan := (.seq .o (.seq .o (.join [] [] (.seq .o (.block (.loop [.slot 13 (.int .i64)] [] (.seq .o (.seq (.cond .o .o) (.seq (.block (.seq .o .o)) .o)))))) (.join [] [] (.seq .o (.block (.loop [.slot 22 (.int .i64)] [] (.seq .o (.seq (.cond .o .o) (.seq (.block (.seq .o (.seq (.seq .o (.cond (.seq .o .o) .o)) .o))) .o)))))) (.seq .o .o)))))
theorem sh_hier_placed.is (CV : CVT) (rank0 : SV) (w : World) (R : Value → World → Prop) : sh_hier_placed rank0 (fun r0 r1 w' => R (.tuple #[(.slice r0.a r0.len r0.cap), (.bool r1)]) w') w = denF (cx_postroadref10_Check.with CV) Try.f40 sh_hier_placed.plan [.v (.slice rank0.a rank0.len rank0.cap)] w R := by kernel_rfl
theorem sh_hier_placed.calls (CV : CVT) (rank0 : SV) (hcv : CVOk Try.prog CV) {w : World} {R : Ending → World → Prop} (h : sh_hier_placed rank0 (fun r0 r1 w' => R (.returned (.tuple #[(.slice r0.a r0.len r0.cap), (.bool r1)])) w') w) : Calls Try.prog 40 #[(.slice rank0.a rank0.len rank0.cap)] w R :=
  calls_is (cx := cx_postroadref10_Check.with CV) mixed_Try (cx_postroadref10_Check.ok.with CV) hcv Try.func40 sh_hier_placed.plan (xs := [.v (.slice rank0.a rank0.len rank0.cap)]) ((args_cons _ args_nil)) (by kernel_rfl) (sh_hier_placed.is CV rank0 w (fun v w' => R (.returned v) w')) h
def sh_hier_placed.o : CVT → List X → (Value → World → Prop) → World → Prop
  | CV, [.v (.slice rank0_a rank0_l rank0_c)], K, w => sh_hier_placed ⟨rank0_a, rank0_l, rank0_c⟩ (fun r0 r1 w' => K (.tuple #[(.slice r0.a r0.len r0.cap), (.bool r1)]) w') w
  | _, _, _, _ => False
def sh_hier_placed.q : CVT → List X → World → (Value → Prop) → Prop
  | CV, [.v (.slice rank0_a rank0_l rank0_c)], w, K => Quiet (SV × Bool) (fun r => (.tuple #[(.slice r.1.a r.1.len r.1.cap), (.bool r.2)])) (fun K1 w' => sh_hier_placed ⟨rank0_a, rank0_l, rank0_c⟩ (fun r0 r1 w'' => K1 (r0, r1) w'') w') w (fun r => K (.tuple #[(.slice r.1.a r.1.len r.1.cap), (.bool r.2)]))
  | _, _, _, _ => False
noncomputable def cx_hier_placed : Cx := Cx.add Try.prog cx_postroadref10_Check 40 sh_hier_placed.o sh_hier_placed.q
theorem cx_hier_placed.ok : CxOk cx_hier_placed := by
  refine CxOk.add cx_postroadref10_Check.ok rfl (fun CV hcv xs K w hx h => ?_) (fun CV hcv xs K w hx h => ?_)
  · unfold sh_hier_placed.o at h; split at h
    · rename_i rank0_a rank0_l rank0_c; exact sh_hier_placed.calls CV ⟨rank0_a, rank0_l, rank0_c⟩ hcv h
    · exact h.elim
  · unfold sh_hier_placed.q at h; split at h
    · rename_i rank0_a rank0_l rank0_c; obtain ⟨r, h1, h2⟩ := h; exact ⟨_, h2, fun w' e => sh_hier_placed.calls CV ⟨rank0_a, rank0_l, rank0_c⟩ hcv (h1 w' e)⟩
    · exact h.elim
def sh_hier_found.plan : Plan := (.seq .o (.seq .o (.seq .o (.join [] [] (.seq .o (.block (.loop [.slot 17 (.int .i64)] [] (.seq .o (.seq (.cond .o .o) (.seq (.block (.seq .o (.join [] [] (.seq .o (.block (.seq (.seq .o (.cond .o (.seq .o (.cond .o (.seq .o (.cond .o (.seq .o (.cond .o .o)))))))) (.cond (.seq .o .o) .o)))) .o))) .o)))))) (.seq .o .o)))))
theorem sh_hier_found.is (CV : CVT) (h0_Rank : SV) (h0_Ways : SV) (w : World) (R : Value → World → Prop) : sh_hier_found h0_Rank h0_Ways (fun r0 r1 w' => R (.tuple #[(.map r0), (.bool r1)]) w') w = denF (cx_hier_placed.with CV) Try.f41 sh_hier_found.plan [.v (.agg #[(.slice h0_Rank.a h0_Rank.len h0_Rank.cap), (.slice h0_Ways.a h0_Ways.len h0_Ways.cap)])] w R := by kernel_rfl
theorem sh_hier_found.calls (CV : CVT) (h0_Rank : SV) (h0_Ways : SV) (hcv : CVOk Try.prog CV) {w : World} {R : Ending → World → Prop} (h : sh_hier_found h0_Rank h0_Ways (fun r0 r1 w' => R (.returned (.tuple #[(.map r0), (.bool r1)])) w') w) : Calls Try.prog 41 #[(.agg #[(.slice h0_Rank.a h0_Rank.len h0_Rank.cap), (.slice h0_Ways.a h0_Ways.len h0_Ways.cap)])] w R :=
  calls_is (cx := cx_hier_placed.with CV) mixed_Try (cx_hier_placed.ok.with CV) hcv Try.func41 sh_hier_found.plan (xs := [.v (.agg #[(.slice h0_Rank.a h0_Rank.len h0_Rank.cap), (.slice h0_Ways.a h0_Ways.len h0_Ways.cap)])]) ((args_cons _ args_nil)) (by kernel_rfl) (sh_hier_found.is CV h0_Rank h0_Ways w (fun v w' => R (.returned v) w')) h
def sh_hier_found.o : CVT → List X → (Value → World → Prop) → World → Prop
  | CV, [.v (.agg ⟨[.slice h0_Rank_a h0_Rank_l h0_Rank_c, .slice h0_Ways_a h0_Ways_l h0_Ways_c]⟩)], K, w => sh_hier_found ⟨h0_Rank_a, h0_Rank_l, h0_Rank_c⟩ ⟨h0_Ways_a, h0_Ways_l, h0_Ways_c⟩ (fun r0 r1 w' => K (.tuple #[(.map r0), (.bool r1)]) w') w
  | _, _, _, _ => False
def sh_hier_found.q : CVT → List X → World → (Value → Prop) → Prop
  | CV, [.v (.agg ⟨[.slice h0_Rank_a h0_Rank_l h0_Rank_c, .slice h0_Ways_a h0_Ways_l h0_Ways_c]⟩)], w, K => Quiet ((Option Nat) × Bool) (fun r => (.tuple #[(.map r.1), (.bool r.2)])) (fun K1 w' => sh_hier_found ⟨h0_Rank_a, h0_Rank_l, h0_Rank_c⟩ ⟨h0_Ways_a, h0_Ways_l, h0_Ways_c⟩ (fun r0 r1 w'' => K1 (r0, r1) w'') w') w (fun r => K (.tuple #[(.map r.1), (.bool r.2)]))
  | _, _, _, _ => False
noncomputable def cx_hier_found : Cx := Cx.add Try.prog cx_hier_placed 41 sh_hier_found.o sh_hier_found.q
theorem cx_hier_found.ok : CxOk cx_hier_found := by
  refine CxOk.add cx_hier_placed.ok rfl (fun CV hcv xs K w hx h => ?_) (fun CV hcv xs K w hx h => ?_)
  · unfold sh_hier_found.o at h; split at h
    · rename_i h0_Rank_a h0_Rank_l h0_Rank_c h0_Ways_a h0_Ways_l h0_Ways_c; exact sh_hier_found.calls CV ⟨h0_Rank_a, h0_Rank_l, h0_Rank_c⟩ ⟨h0_Ways_a, h0_Ways_l, h0_Ways_c⟩ hcv h
    · exact h.elim
  · unfold sh_hier_found.q at h; split at h
    · rename_i h0_Rank_a h0_Rank_l h0_Rank_c h0_Ways_a h0_Ways_l h0_Ways_c; obtain ⟨r, h1, h2⟩ := h; exact ⟨_, h2, fun w' e => sh_hier_found.calls CV ⟨h0_Rank_a, h0_Rank_l, h0_Rank_c⟩ ⟨h0_Ways_a, h0_Ways_l, h0_Ways_c⟩ hcv (h1 w' e)⟩
    · exact h.elim
def sh_hier_halves.plan : Plan := (.seq .o (.seq .o (.seq .o (.seq .o .o))))
theorem sh_hier_halves.is (CV : CVT) (h0_Rank : SV) (h0_Ways : SV) (find0 : Option Nat) (w_0_From : Int) (w_0_To : Int) (w_0_Way_W : Int) (w_0_Way_Mid : Int) (w_0_Way_Arc : Int) (w : World) (R : Value → World → Prop) : sh_hier_halves h0_Rank h0_Ways find0 w_0_From w_0_To w_0_Way_W w_0_Way_Mid w_0_Way_Arc (fun r0 r1 r2 w' => R (.tuple #[(.int .i64 r0), (.int .i64 r1), (.bool r2)]) w') w = denF (cx_hier_found.with CV) Try.f38 sh_hier_halves.plan [.v (.agg #[(.slice h0_Rank.a h0_Rank.len h0_Rank.cap), (.slice h0_Ways.a h0_Ways.len h0_Ways.cap)]), .v (.map find0), .v (.agg #[(.int .i64 w_0_From), (.int .i64 w_0_To), (.int .i64 w_0_Way_W), (.int .i64 w_0_Way_Mid), (.int .i64 w_0_Way_Arc)])] w R := by kernel_rfl
theorem sh_hier_halves.calls (CV : CVT) (h0_Rank : SV) (h0_Ways : SV) (find0 : Option Nat) (w_0_From : Int) (w_0_To : Int) (w_0_Way_W : Int) (w_0_Way_Mid : Int) (w_0_Way_Arc : Int) (hcv : CVOk Try.prog CV) {w : World} {R : Ending → World → Prop} (h : sh_hier_halves h0_Rank h0_Ways find0 w_0_From w_0_To w_0_Way_W w_0_Way_Mid w_0_Way_Arc (fun r0 r1 r2 w' => R (.returned (.tuple #[(.int .i64 r0), (.int .i64 r1), (.bool r2)])) w') w) : Calls Try.prog 38 #[(.agg #[(.slice h0_Rank.a h0_Rank.len h0_Rank.cap), (.slice h0_Ways.a h0_Ways.len h0_Ways.cap)]), (.map find0), (.agg #[(.int .i64 w_0_From), (.int .i64 w_0_To), (.int .i64 w_0_Way_W), (.int .i64 w_0_Way_Mid), (.int .i64 w_0_Way_Arc)])] w R :=
  calls_is (cx := cx_hier_found.with CV) mixed_Try (cx_hier_found.ok.with CV) hcv Try.func38 sh_hier_halves.plan (xs := [.v (.agg #[(.slice h0_Rank.a h0_Rank.len h0_Rank.cap), (.slice h0_Ways.a h0_Ways.len h0_Ways.cap)]), .v (.map find0), .v (.agg #[(.int .i64 w_0_From), (.int .i64 w_0_To), (.int .i64 w_0_Way_W), (.int .i64 w_0_Way_Mid), (.int .i64 w_0_Way_Arc)])]) ((args_cons _ (args_cons _ (args_cons _ args_nil)))) (by kernel_rfl) (sh_hier_halves.is CV h0_Rank h0_Ways find0 w_0_From w_0_To w_0_Way_W w_0_Way_Mid w_0_Way_Arc w (fun v w' => R (.returned v) w')) h
def sh_hier_halves.o : CVT → List X → (Value → World → Prop) → World → Prop
  | CV, [.v (.agg ⟨[.slice h0_Rank_a h0_Rank_l h0_Rank_c, .slice h0_Ways_a h0_Ways_l h0_Ways_c]⟩), .v (.map find0), .v (.agg ⟨[.int .i64 w_0_From, .int .i64 w_0_To, .int .i64 w_0_Way_W, .int .i64 w_0_Way_Mid, .int .i64 w_0_Way_Arc]⟩)], K, w => sh_hier_halves ⟨h0_Rank_a, h0_Rank_l, h0_Rank_c⟩ ⟨h0_Ways_a, h0_Ways_l, h0_Ways_c⟩ find0 w_0_From w_0_To w_0_Way_W w_0_Way_Mid w_0_Way_Arc (fun r0 r1 r2 w' => K (.tuple #[(.int .i64 r0), (.int .i64 r1), (.bool r2)]) w') w
  | _, _, _, _ => False
def sh_hier_halves.q : CVT → List X → World → (Value → Prop) → Prop
  | CV, [.v (.agg ⟨[.slice h0_Rank_a h0_Rank_l h0_Rank_c, .slice h0_Ways_a h0_Ways_l h0_Ways_c]⟩), .v (.map find0), .v (.agg ⟨[.int .i64 w_0_From, .int .i64 w_0_To, .int .i64 w_0_Way_W, .int .i64 w_0_Way_Mid, .int .i64 w_0_Way_Arc]⟩)], w, K => Quiet (Int × Int × Bool) (fun r => (.tuple #[(.int .i64 r.1), (.int .i64 r.2.1), (.bool r.2.2)])) (fun K1 w' => sh_hier_halves ⟨h0_Rank_a, h0_Rank_l, h0_Rank_c⟩ ⟨h0_Ways_a, h0_Ways_l, h0_Ways_c⟩ find0 w_0_From w_0_To w_0_Way_W w_0_Way_Mid w_0_Way_Arc (fun r0 r1 r2 w'' => K1 (r0, r1, r2) w'') w') w (fun r => K (.tuple #[(.int .i64 r.1), (.int .i64 r.2.1), (.bool r.2.2)]))
  | _, _, _, _ => False
noncomputable def cx_hier_halves : Cx := Cx.add Try.prog cx_hier_found 38 sh_hier_halves.o sh_hier_halves.q
theorem cx_hier_halves.ok : CxOk cx_hier_halves := by
  refine CxOk.add cx_hier_found.ok rfl (fun CV hcv xs K w hx h => ?_) (fun CV hcv xs K w hx h => ?_)
  · unfold sh_hier_halves.o at h; split at h
    · rename_i h0_Rank_a h0_Rank_l h0_Rank_c h0_Ways_a h0_Ways_l h0_Ways_c find0 w_0_From w_0_To w_0_Way_W w_0_Way_Mid w_0_Way_Arc; exact sh_hier_halves.calls CV ⟨h0_Rank_a, h0_Rank_l, h0_Rank_c⟩ ⟨h0_Ways_a, h0_Ways_l, h0_Ways_c⟩ find0 w_0_From w_0_To w_0_Way_W w_0_Way_Mid w_0_Way_Arc hcv h
    · exact h.elim
  · unfold sh_hier_halves.q at h; split at h
    · rename_i h0_Rank_a h0_Rank_l h0_Rank_c h0_Ways_a h0_Ways_l h0_Ways_c find0 w_0_From w_0_To w_0_Way_W w_0_Way_Mid w_0_Way_Arc; obtain ⟨r, h1, h2⟩ := h; exact ⟨_, h2, fun w' e => sh_hier_halves.calls CV ⟨h0_Rank_a, h0_Rank_l, h0_Rank_c⟩ ⟨h0_Ways_a, h0_Ways_l, h0_Ways_c⟩ find0 w_0_From w_0_To w_0_Way_W w_0_Way_Mid w_0_Way_Arc hcv (h1 w' e)⟩
    · exact h.elim
def sh_hier_right.plan : Plan := (.seq .o (.seq (.seq .o (.cond (.seq .o .o) .o)) (.seq (.seq (.draw [] [.pure, .pure, .loc, .pure, .pure, .pure, .pure, .loc, .pure, .pure, .pure, .pure, .pure, .loc, .pure, .loc, .pure, .pure, .pure, .pure, .pure, .loc, .pure, .pure, .loc, .pure, .quiet, .pure, .loc, .pure, .loc, .pure, .quiet, .pure, .loc, .pure, .loc, .pure, .quiet, .pure, .pure, .pure] [0, 1, 2, 3, 4, 5, 6, 7, 8, 9, 10, 11, 12, 13, 14, 15, 16, 17, 18, 19, 20, 21, 22, 23, 24, 25, 26, 27, 28, 29, 30, 31, 32, 33, 34, 35, 36, 37, 38, 39, 40, 41]) (.cond (.seq .o .o) .o)) (.seq .o (.seq (.draw [] [.pure, .pure, .pure, .loc, .pure, .pure, .pure, .pure, .quiet, .pure, .loc, .pure, .pure, .pure, .pure, .quiet, .pure, .pure, .pure, .loc, .pure, .pure, .pure] [0, 1, 2, 3, 4, 5, 6, 7, 8, 9, 10, 11, 12, 13, 14, 15, 16, 17, 18, 19, 20, 21, 22]) .o)))))
theorem sh_hier_right.is (CV : CVT) (h0_Rank : SV) (h0_Ways : SV) (find0 : Option Nat) (w_0_From : Int) (w_0_To : Int) (w_0_Way_W : Int) (w_0_Way_Mid : Int) (w_0_Way_Arc : Int) (w : World) (R : Value → World → Prop) : sh_hier_right h0_Rank h0_Ways find0 w_0_From w_0_To w_0_Way_W w_0_Way_Mid w_0_Way_Arc (fun r0 w' => R (.bool r0) w') w = denF (cx_hier_halves.with CV) Try.f42 sh_hier_right.plan [.v (.agg #[(.slice h0_Rank.a h0_Rank.len h0_Rank.cap), (.slice h0_Ways.a h0_Ways.len h0_Ways.cap)]), .v (.map find0), .v (.agg #[(.int .i64 w_0_From), (.int .i64 w_0_To), (.int .i64 w_0_Way_W), (.int .i64 w_0_Way_Mid), (.int .i64 w_0_Way_Arc)])] w R := by kernel_rfl
theorem sh_hier_right.calls (CV : CVT) (h0_Rank : SV) (h0_Ways : SV) (find0 : Option Nat) (w_0_From : Int) (w_0_To : Int) (w_0_Way_W : Int) (w_0_Way_Mid : Int) (w_0_Way_Arc : Int) (hcv : CVOk Try.prog CV) {w : World} {R : Ending → World → Prop} (h : sh_hier_right h0_Rank h0_Ways find0 w_0_From w_0_To w_0_Way_W w_0_Way_Mid w_0_Way_Arc (fun r0 w' => R (.returned (.bool r0)) w') w) : Calls Try.prog 42 #[(.agg #[(.slice h0_Rank.a h0_Rank.len h0_Rank.cap), (.slice h0_Ways.a h0_Ways.len h0_Ways.cap)]), (.map find0), (.agg #[(.int .i64 w_0_From), (.int .i64 w_0_To), (.int .i64 w_0_Way_W), (.int .i64 w_0_Way_Mid), (.int .i64 w_0_Way_Arc)])] w R :=
  calls_is (cx := cx_hier_halves.with CV) mixed_Try (cx_hier_halves.ok.with CV) hcv Try.func42 sh_hier_right.plan (xs := [.v (.agg #[(.slice h0_Rank.a h0_Rank.len h0_Rank.cap), (.slice h0_Ways.a h0_Ways.len h0_Ways.cap)]), .v (.map find0), .v (.agg #[(.int .i64 w_0_From), (.int .i64 w_0_To), (.int .i64 w_0_Way_W), (.int .i64 w_0_Way_Mid), (.int .i64 w_0_Way_Arc)])]) ((args_cons _ (args_cons _ (args_cons _ args_nil)))) (by kernel_rfl) (sh_hier_right.is CV h0_Rank h0_Ways find0 w_0_From w_0_To w_0_Way_W w_0_Way_Mid w_0_Way_Arc w (fun v w' => R (.returned v) w')) h
def sh_hier_right.o : CVT → List X → (Value → World → Prop) → World → Prop
  | CV, [.v (.agg ⟨[.slice h0_Rank_a h0_Rank_l h0_Rank_c, .slice h0_Ways_a h0_Ways_l h0_Ways_c]⟩), .v (.map find0), .v (.agg ⟨[.int .i64 w_0_From, .int .i64 w_0_To, .int .i64 w_0_Way_W, .int .i64 w_0_Way_Mid, .int .i64 w_0_Way_Arc]⟩)], K, w => sh_hier_right ⟨h0_Rank_a, h0_Rank_l, h0_Rank_c⟩ ⟨h0_Ways_a, h0_Ways_l, h0_Ways_c⟩ find0 w_0_From w_0_To w_0_Way_W w_0_Way_Mid w_0_Way_Arc (fun r0 w' => K (.bool r0) w') w
  | _, _, _, _ => False
def sh_hier_right.q : CVT → List X → World → (Value → Prop) → Prop
  | CV, [.v (.agg ⟨[.slice h0_Rank_a h0_Rank_l h0_Rank_c, .slice h0_Ways_a h0_Ways_l h0_Ways_c]⟩), .v (.map find0), .v (.agg ⟨[.int .i64 w_0_From, .int .i64 w_0_To, .int .i64 w_0_Way_W, .int .i64 w_0_Way_Mid, .int .i64 w_0_Way_Arc]⟩)], w, K => Quiet (Bool) (fun r => (.bool r)) (fun K1 w' => sh_hier_right ⟨h0_Rank_a, h0_Rank_l, h0_Rank_c⟩ ⟨h0_Ways_a, h0_Ways_l, h0_Ways_c⟩ find0 w_0_From w_0_To w_0_Way_W w_0_Way_Mid w_0_Way_Arc (fun r0 w'' => K1 r0 w'') w') w (fun r => K (.bool r))
  | _, _, _, _ => False
noncomputable def cx_hier_right : Cx := Cx.add Try.prog cx_hier_halves 42 sh_hier_right.o sh_hier_right.q
theorem cx_hier_right.ok : CxOk cx_hier_right := by
  refine CxOk.add cx_hier_halves.ok rfl (fun CV hcv xs K w hx h => ?_) (fun CV hcv xs K w hx h => ?_)
  · unfold sh_hier_right.o at h; split at h
    · rename_i h0_Rank_a h0_Rank_l h0_Rank_c h0_Ways_a h0_Ways_l h0_Ways_c find0 w_0_From w_0_To w_0_Way_W w_0_Way_Mid w_0_Way_Arc; exact sh_hier_right.calls CV ⟨h0_Rank_a, h0_Rank_l, h0_Rank_c⟩ ⟨h0_Ways_a, h0_Ways_l, h0_Ways_c⟩ find0 w_0_From w_0_To w_0_Way_W w_0_Way_Mid w_0_Way_Arc hcv h
    · exact h.elim
  · unfold sh_hier_right.q at h; split at h
    · rename_i h0_Rank_a h0_Rank_l h0_Rank_c h0_Ways_a h0_Ways_l h0_Ways_c find0 w_0_From w_0_To w_0_Way_W w_0_Way_Mid w_0_Way_Arc; obtain ⟨r, h1, h2⟩ := h; exact ⟨_, h2, fun w' e => sh_hier_right.calls CV ⟨h0_Rank_a, h0_Rank_l, h0_Rank_c⟩ ⟨h0_Ways_a, h0_Ways_l, h0_Ways_c⟩ find0 w_0_From w_0_To w_0_Way_W w_0_Way_Mid w_0_Way_Arc hcv (h1 w' e)⟩
    · exact h.elim
def sh_hier_check.plan : Plan := (.seq .o (.seq (.seq .o (.cond (.seq .o .o) .o)) (.seq .o (.seq .o (.seq (.seq .o (.cond (.seq .o .o) .o)) (.join [] [] (.seq .o (.block (.loop [.slot 40 (.int .i64)] [] (.seq .o (.seq (.cond .o .o) (.seq (.block (.seq .o (.seq .o (.cond (.seq .o .o) .o)))) .o)))))) (.seq .o .o)))))))
theorem sh_hier_check.is (CV : CVT) (h0_Rank : SV) (h0_Ways : SV) (w : World) (R : Value → World → Prop) : sh_hier_check h0_Rank h0_Ways (fun r0 r1 w' => R (.tuple #[(.pointer r0), (.int .i64 r1)]) w') w = denF (cx_hier_right.with CV) Try.f32 sh_hier_check.plan [.v (.agg #[(.slice h0_Rank.a h0_Rank.len h0_Rank.cap), (.slice h0_Ways.a h0_Ways.len h0_Ways.cap)])] w R := by kernel_rfl
theorem sh_hier_check.calls (CV : CVT) (h0_Rank : SV) (h0_Ways : SV) (hcv : CVOk Try.prog CV) {w : World} {R : Ending → World → Prop} (h : sh_hier_check h0_Rank h0_Ways (fun r0 r1 w' => R (.returned (.tuple #[(.pointer r0), (.int .i64 r1)])) w') w) : Calls Try.prog 32 #[(.agg #[(.slice h0_Rank.a h0_Rank.len h0_Rank.cap), (.slice h0_Ways.a h0_Ways.len h0_Ways.cap)])] w R :=
  calls_is (cx := cx_hier_right.with CV) mixed_Try (cx_hier_right.ok.with CV) hcv Try.func32 sh_hier_check.plan (xs := [.v (.agg #[(.slice h0_Rank.a h0_Rank.len h0_Rank.cap), (.slice h0_Ways.a h0_Ways.len h0_Ways.cap)])]) ((args_cons _ args_nil)) (by kernel_rfl) (sh_hier_check.is CV h0_Rank h0_Ways w (fun v w' => R (.returned v) w')) h
def sh_hier_check.o : CVT → List X → (Value → World → Prop) → World → Prop
  | CV, [.v (.agg ⟨[.slice h0_Rank_a h0_Rank_l h0_Rank_c, .slice h0_Ways_a h0_Ways_l h0_Ways_c]⟩)], K, w => sh_hier_check ⟨h0_Rank_a, h0_Rank_l, h0_Rank_c⟩ ⟨h0_Ways_a, h0_Ways_l, h0_Ways_c⟩ (fun r0 r1 w' => K (.tuple #[(.pointer r0), (.int .i64 r1)]) w') w
  | _, _, _, _ => False
def sh_hier_check.q : CVT → List X → World → (Value → Prop) → Prop
  | CV, [.v (.agg ⟨[.slice h0_Rank_a h0_Rank_l h0_Rank_c, .slice h0_Ways_a h0_Ways_l h0_Ways_c]⟩)], w, K => Quiet ((Option Addr) × Int) (fun r => (.tuple #[(.pointer r.1), (.int .i64 r.2)])) (fun K1 w' => sh_hier_check ⟨h0_Rank_a, h0_Rank_l, h0_Rank_c⟩ ⟨h0_Ways_a, h0_Ways_l, h0_Ways_c⟩ (fun r0 r1 w'' => K1 (r0, r1) w'') w') w (fun r => K (.tuple #[(.pointer r.1), (.int .i64 r.2)]))
  | _, _, _, _ => False
noncomputable def cx_hier_check : Cx := Cx.add Try.prog cx_hier_right 32 sh_hier_check.o sh_hier_check.q
theorem cx_hier_check.ok : CxOk cx_hier_check := by
  refine CxOk.add cx_hier_right.ok rfl (fun CV hcv xs K w hx h => ?_) (fun CV hcv xs K w hx h => ?_)
  · unfold sh_hier_check.o at h; split at h
    · rename_i h0_Rank_a h0_Rank_l h0_Rank_c h0_Ways_a h0_Ways_l h0_Ways_c; exact sh_hier_check.calls CV ⟨h0_Rank_a, h0_Rank_l, h0_Rank_c⟩ ⟨h0_Ways_a, h0_Ways_l, h0_Ways_c⟩ hcv h
    · exact h.elim
  · unfold sh_hier_check.q at h; split at h
    · rename_i h0_Rank_a h0_Rank_l h0_Rank_c h0_Ways_a h0_Ways_l h0_Ways_c; obtain ⟨r, h1, h2⟩ := h; exact ⟨_, h2, fun w' e => sh_hier_check.calls CV ⟨h0_Rank_a, h0_Rank_l, h0_Rank_c⟩ ⟨h0_Ways_a, h0_Ways_l, h0_Ways_c⟩ hcv (h1 w' e)⟩
    · exact h.elim
def sh_hier_put.plan : Plan := (.seq .o (.scope (.seq .o (.seq .o (.join [.slot 5 (.int .i64)] [] (.block (.loop [.slot 5 (.int .i64)] [] (.seq (.seq .o (.cond .o .o)) (.seq (.block (.seq (.draw [] [.pure, .pure, .pure, .pure, .pure, .quiet, .pure, .loc, .pure] [0, 1, 2, 3, 4, 5, 6, 7, 8]) (.cond .o .o))) .o)))) (.seq .o (.seq (.draw [] [.pure, .pure, .pure, .pure, .pure, .pure, .pure, .big] [0, 1, 2, 3, 4, 5, 6, 7]) (.seq .o (.seq .o .o)))))))))
theorem sh_hier_put.is (CV : CVT) (l0 : SV) (e0_V : Int) (e0_W : Int) (e0_Arc : Int) (w : World) (R : Value → World → Prop) : sh_hier_put l0 e0_V e0_W e0_Arc (fun r0 w' => R (.slice r0.a r0.len r0.cap) w') w = denF (cx_hier_check.with CV) Try.f33 sh_hier_put.plan [.v (.slice l0.a l0.len l0.cap), .v (.agg #[(.int .i64 e0_V), (.int .i64 e0_W), (.int .i64 e0_Arc)])] w R := by kernel_rfl
theorem sh_hier_put.calls (CV : CVT) (l0 : SV) (e0_V : Int) (e0_W : Int) (e0_Arc : Int) (hcv : CVOk Try.prog CV) {w : World} {R : Ending → World → Prop} (h : sh_hier_put l0 e0_V e0_W e0_Arc (fun r0 w' => R (.returned (.slice r0.a r0.len r0.cap)) w') w) : Calls Try.prog 33 #[(.slice l0.a l0.len l0.cap), (.agg #[(.int .i64 e0_V), (.int .i64 e0_W), (.int .i64 e0_Arc)])] w R :=
  calls_is (cx := cx_hier_check.with CV) mixed_Try (cx_hier_check.ok.with CV) hcv Try.func33 sh_hier_put.plan (xs := [.v (.slice l0.a l0.len l0.cap), .v (.agg #[(.int .i64 e0_V), (.int .i64 e0_W), (.int .i64 e0_Arc)])]) ((args_cons _ (args_cons _ args_nil))) (by kernel_rfl) (sh_hier_put.is CV l0 e0_V e0_W e0_Arc w (fun v w' => R (.returned v) w')) h
def sh_hier_put.o : CVT → List X → (Value → World → Prop) → World → Prop
  | CV, [.v (.slice l0_a l0_l l0_c), .v (.agg ⟨[.int .i64 e0_V, .int .i64 e0_W, .int .i64 e0_Arc]⟩)], K, w => sh_hier_put ⟨l0_a, l0_l, l0_c⟩ e0_V e0_W e0_Arc (fun r0 w' => K (.slice r0.a r0.len r0.cap) w') w
  | _, _, _, _ => False
def sh_hier_put.q : CVT → List X → World → (Value → Prop) → Prop
  | CV, [.v (.slice l0_a l0_l l0_c), .v (.agg ⟨[.int .i64 e0_V, .int .i64 e0_W, .int .i64 e0_Arc]⟩)], w, K => Quiet (SV) (fun r => (.slice r.a r.len r.cap)) (fun K1 w' => sh_hier_put ⟨l0_a, l0_l, l0_c⟩ e0_V e0_W e0_Arc (fun r0 w'' => K1 r0 w'') w') w (fun r => K (.slice r.a r.len r.cap))
  | _, _, _, _ => False
noncomputable def cx_hier_put : Cx := Cx.add Try.prog cx_hier_check 33 sh_hier_put.o sh_hier_put.q
theorem cx_hier_put.ok : CxOk cx_hier_put := by
  refine CxOk.add cx_hier_check.ok rfl (fun CV hcv xs K w hx h => ?_) (fun CV hcv xs K w hx h => ?_)
  · unfold sh_hier_put.o at h; split at h
    · rename_i l0_a l0_l l0_c e0_V e0_W e0_Arc; exact sh_hier_put.calls CV ⟨l0_a, l0_l, l0_c⟩ e0_V e0_W e0_Arc hcv h
    · exact h.elim
  · unfold sh_hier_put.q at h; split at h
    · rename_i l0_a l0_l l0_c e0_V e0_W e0_Arc; obtain ⟨r, h1, h2⟩ := h; exact ⟨_, h2, fun w' e => sh_hier_put.calls CV ⟨l0_a, l0_l, l0_c⟩ e0_V e0_W e0_Arc hcv (h1 w' e)⟩
    · exact h.elim
def sh_hier_New.plan : Plan := (.seq .o (.seq .o (.seq .o (.seq .o (.seq (.seq .o (.cond (.seq .o .o) .o)) (.seq (.draw [] [.pure, .pure, .pure, .loc, .pure, .new, .pure, .rd, .pure, .alc, .pure, .pure, .bigz, .pure, .pure, .big] [0, 1, 2, 3, 4, 6, 7, 8, 5, 10, 11, 12, 9, 13, 14, 15]) (.seq (.seq .o (.block (.loop [.slot 39 (.int .i64)] [] (.seq .o (.seq (.cond .o .o) (.seq (.block (.seq .o (.seq (.draw [] [.pure, .loc, .pure, .loc, .pure, .quiet, .pure, .loc, .pure, .loc, .pure, .quiet, .pure] [0, 1, 2, 3, 4, 5, 6, 7, 8, 9, 10, 11, 12]) (.cond (.draw [] [.pure, .pure, .pure, .rd, .pure, .rd, .pure, .pure, .pure, .quiet, .pure, .loc, .pure, .quiet, .pure, .loc, .pure, .pure, .loc, .pure, .pure, .big, .pure, .big] [0, 1, 2, 3, 4, 5, 6, 7, 8, 9, 10, 11, 12, 13, 14, 15, 16, 17, 18, 19, 20, 21, 22, 23]) (.draw [] [.pure, .pure, .pure, .rd, .pure, .rd, .pure, .pure, .pure, .quiet, .pure, .loc, .pure, .quiet, .pure, .loc, .pure, .pure, .loc, .pure, .pure, .big, .pure, .big] [0, 1, 2, 3, 4, 5, 6, 7, 8, 9, 10, 11, 12, 13, 14, 15, 16, 17, 18, 19, 20, 21, 22, 23]))))) .o)))))) (.seq .o .o))))))))
theorem sh_hier_New.is (CV : CVT) (h0_Rank : SV) (h0_Ways : SV) (w : World) (R : Value → World → Prop) : sh_hier_New h0_Rank h0_Ways (fun r0 w' => R (.pointer r0) w') w = denF (cx_hier_put.with CV) Try.f13 sh_hier_New.plan [.v (.agg #[(.slice h0_Rank.a h0_Rank.len h0_Rank.cap), (.slice h0_Ways.a h0_Ways.len h0_Ways.cap)])] w R := by kernel_rfl
theorem sh_hier_New.calls (CV : CVT) (h0_Rank : SV) (h0_Ways : SV) (hcv : CVOk Try.prog CV) {w : World} {R : Ending → World → Prop} (h : sh_hier_New h0_Rank h0_Ways (fun r0 w' => R (.returned (.pointer r0)) w') w) : Calls Try.prog 13 #[(.agg #[(.slice h0_Rank.a h0_Rank.len h0_Rank.cap), (.slice h0_Ways.a h0_Ways.len h0_Ways.cap)])] w R :=
  calls_is (cx := cx_hier_put.with CV) mixed_Try (cx_hier_put.ok.with CV) hcv Try.func13 sh_hier_New.plan (xs := [.v (.agg #[(.slice h0_Rank.a h0_Rank.len h0_Rank.cap), (.slice h0_Ways.a h0_Ways.len h0_Ways.cap)])]) ((args_cons _ args_nil)) (by kernel_rfl) (sh_hier_New.is CV h0_Rank h0_Ways w (fun v w' => R (.returned v) w')) h
def sh_hier_New.o : CVT → List X → (Value → World → Prop) → World → Prop
  | CV, [.v (.agg ⟨[.slice h0_Rank_a h0_Rank_l h0_Rank_c, .slice h0_Ways_a h0_Ways_l h0_Ways_c]⟩)], K, w => sh_hier_New ⟨h0_Rank_a, h0_Rank_l, h0_Rank_c⟩ ⟨h0_Ways_a, h0_Ways_l, h0_Ways_c⟩ (fun r0 w' => K (.pointer r0) w') w
  | _, _, _, _ => False
def sh_hier_New.q : CVT → List X → World → (Value → Prop) → Prop
  | CV, [.v (.agg ⟨[.slice h0_Rank_a h0_Rank_l h0_Rank_c, .slice h0_Ways_a h0_Ways_l h0_Ways_c]⟩)], w, K => Quiet ((Option Addr)) (fun r => (.pointer r)) (fun K1 w' => sh_hier_New ⟨h0_Rank_a, h0_Rank_l, h0_Rank_c⟩ ⟨h0_Ways_a, h0_Ways_l, h0_Ways_c⟩ (fun r0 w'' => K1 r0 w'') w') w (fun r => K (.pointer r))
  | _, _, _, _ => False
noncomputable def cx_hier_New : Cx := Cx.add Try.prog cx_hier_put 13 sh_hier_New.o sh_hier_New.q
theorem cx_hier_New.ok : CxOk cx_hier_New := by
  refine CxOk.add cx_hier_put.ok rfl (fun CV hcv xs K w hx h => ?_) (fun CV hcv xs K w hx h => ?_)
  · unfold sh_hier_New.o at h; split at h
    · rename_i h0_Rank_a h0_Rank_l h0_Rank_c h0_Ways_a h0_Ways_l h0_Ways_c; exact sh_hier_New.calls CV ⟨h0_Rank_a, h0_Rank_l, h0_Rank_c⟩ ⟨h0_Ways_a, h0_Ways_l, h0_Ways_c⟩ hcv h
    · exact h.elim
  · unfold sh_hier_New.q at h; split at h
    · rename_i h0_Rank_a h0_Rank_l h0_Rank_c h0_Ways_a h0_Ways_l h0_Ways_c; obtain ⟨r, h1, h2⟩ := h; exact ⟨_, h2, fun w' e => sh_hier_New.calls CV ⟨h0_Rank_a, h0_Rank_l, h0_Rank_c⟩ ⟨h0_Ways_a, h0_Ways_l, h0_Ways_c⟩ hcv (h1 w' e)⟩
    · exact h.elim
def sh_hier_Hier_N.plan : Plan := (.seq .o (.seq (.seq .o (.cond (.seq .o .o) .o)) (.seq .o .o)))
theorem sh_hier_Hier_N.is (CV : CVT) (h0 : Option Addr) (w : World) (R : Value → World → Prop) : sh_hier_Hier_N h0 (fun r0 w' => R (.int .i64 r0) w') w = denF (cx_hier_New.with CV) Try.f22 sh_hier_Hier_N.plan [.v (.pointer h0)] w R := by kernel_rfl
theorem sh_hier_Hier_N.calls (CV : CVT) (h0 : Option Addr) (hcv : CVOk Try.prog CV) {w : World} {R : Ending → World → Prop} (h : sh_hier_Hier_N h0 (fun r0 w' => R (.returned (.int .i64 r0)) w') w) : Calls Try.prog 22 #[(.pointer h0)] w R :=
  calls_is (cx := cx_hier_New.with CV) mixed_Try (cx_hier_New.ok.with CV) hcv Try.func22 sh_hier_Hier_N.plan (xs := [.v (.pointer h0)]) ((args_cons _ args_nil)) (by kernel_rfl) (sh_hier_Hier_N.is CV h0 w (fun v w' => R (.returned v) w')) h
def sh_hier_Hier_N.o : CVT → List X → (Value → World → Prop) → World → Prop
  | CV, [.v (.pointer h0)], K, w => sh_hier_Hier_N h0 (fun r0 w' => K (.int .i64 r0) w') w
  | _, _, _, _ => False
def sh_hier_Hier_N.q : CVT → List X → World → (Value → Prop) → Prop
  | CV, [.v (.pointer h0)], w, K => Quiet (Int) (fun r => (.int .i64 r)) (fun K1 w' => sh_hier_Hier_N h0 (fun r0 w'' => K1 r0 w'') w') w (fun r => K (.int .i64 r))
  | _, _, _, _ => False
noncomputable def cx_hier_Hier_N : Cx := Cx.add Try.prog cx_hier_New 22 sh_hier_Hier_N.o sh_hier_Hier_N.q
theorem cx_hier_Hier_N.ok : CxOk cx_hier_Hier_N := by
  refine CxOk.add cx_hier_New.ok rfl (fun CV hcv xs K w hx h => ?_) (fun CV hcv xs K w hx h => ?_)
  · unfold sh_hier_Hier_N.o at h; split at h
    · rename_i h0; exact sh_hier_Hier_N.calls CV h0 hcv h
    · exact h.elim
  · unfold sh_hier_Hier_N.q at h; split at h
    · rename_i h0; obtain ⟨r, h1, h2⟩ := h; exact ⟨_, h2, fun w' e => sh_hier_Hier_N.calls CV h0 hcv (h1 w' e)⟩
    · exact h.elim
def sh_hier_Hier_Rank.plan : Plan := (.seq .o (.seq (.seq .o (.cond (.seq .o .o) .o)) (.seq .o .o)))
theorem sh_hier_Hier_Rank.is (CV : CVT) (h0 : Option Addr) (v0 : Int) (w : World) (R : Value → World → Prop) : sh_hier_Hier_Rank h0 v0 (fun r0 w' => R (.int .i64 r0) w') w = denF (cx_hier_Hier_N.with CV) Try.f23 sh_hier_Hier_Rank.plan [.v (.pointer h0), .v (.int .i64 v0)] w R := by kernel_rfl
theorem sh_hier_Hier_Rank.calls (CV : CVT) (h0 : Option Addr) (v0 : Int) (hcv : CVOk Try.prog CV) {w : World} {R : Ending → World → Prop} (h : sh_hier_Hier_Rank h0 v0 (fun r0 w' => R (.returned (.int .i64 r0)) w') w) : Calls Try.prog 23 #[(.pointer h0), (.int .i64 v0)] w R :=
  calls_is (cx := cx_hier_Hier_N.with CV) mixed_Try (cx_hier_Hier_N.ok.with CV) hcv Try.func23 sh_hier_Hier_Rank.plan (xs := [.v (.pointer h0), .v (.int .i64 v0)]) ((args_cons _ (args_cons _ args_nil))) (by kernel_rfl) (sh_hier_Hier_Rank.is CV h0 v0 w (fun v w' => R (.returned v) w')) h
def sh_hier_Hier_Rank.o : CVT → List X → (Value → World → Prop) → World → Prop
  | CV, [.v (.pointer h0), .v (.int .i64 v0)], K, w => sh_hier_Hier_Rank h0 v0 (fun r0 w' => K (.int .i64 r0) w') w
  | _, _, _, _ => False
def sh_hier_Hier_Rank.q : CVT → List X → World → (Value → Prop) → Prop
  | CV, [.v (.pointer h0), .v (.int .i64 v0)], w, K => Quiet (Int) (fun r => (.int .i64 r)) (fun K1 w' => sh_hier_Hier_Rank h0 v0 (fun r0 w'' => K1 r0 w'') w') w (fun r => K (.int .i64 r))
  | _, _, _, _ => False
noncomputable def cx_hier_Hier_Rank : Cx := Cx.add Try.prog cx_hier_Hier_N 23 sh_hier_Hier_Rank.o sh_hier_Hier_Rank.q
theorem cx_hier_Hier_Rank.ok : CxOk cx_hier_Hier_Rank := by
  refine CxOk.add cx_hier_Hier_N.ok rfl (fun CV hcv xs K w hx h => ?_) (fun CV hcv xs K w hx h => ?_)
  · unfold sh_hier_Hier_Rank.o at h; split at h
    · rename_i h0 v0; exact sh_hier_Hier_Rank.calls CV h0 v0 hcv h
    · exact h.elim
  · unfold sh_hier_Hier_Rank.q at h; split at h
    · rename_i h0 v0; obtain ⟨r, h1, h2⟩ := h; exact ⟨_, h2, fun w' e => sh_hier_Hier_Rank.calls CV h0 v0 hcv (h1 w' e)⟩
    · exact h.elim
def sh_hier_Hier_Down.plan : Plan := (.seq .o (.seq (.seq .o (.cond (.seq .o .o) .o)) (.seq .o .o)))
theorem sh_hier_Hier_Down.is (CV : CVT) (h0 : Option Addr) (v0 : Int) (w : World) (R : Value → World → Prop) : sh_hier_Hier_Down h0 v0 (fun r0 w' => R (.slice r0.a r0.len r0.cap) w') w = denF (cx_hier_Hier_Rank.with CV) Try.f17 sh_hier_Hier_Down.plan [.v (.pointer h0), .v (.int .i64 v0)] w R := by kernel_rfl
theorem sh_hier_Hier_Down.calls (CV : CVT) (h0 : Option Addr) (v0 : Int) (hcv : CVOk Try.prog CV) {w : World} {R : Ending → World → Prop} (h : sh_hier_Hier_Down h0 v0 (fun r0 w' => R (.returned (.slice r0.a r0.len r0.cap)) w') w) : Calls Try.prog 17 #[(.pointer h0), (.int .i64 v0)] w R :=
  calls_is (cx := cx_hier_Hier_Rank.with CV) mixed_Try (cx_hier_Hier_Rank.ok.with CV) hcv Try.func17 sh_hier_Hier_Down.plan (xs := [.v (.pointer h0), .v (.int .i64 v0)]) ((args_cons _ (args_cons _ args_nil))) (by kernel_rfl) (sh_hier_Hier_Down.is CV h0 v0 w (fun v w' => R (.returned v) w')) h
def sh_hier_Hier_Down.o : CVT → List X → (Value → World → Prop) → World → Prop
  | CV, [.v (.pointer h0), .v (.int .i64 v0)], K, w => sh_hier_Hier_Down h0 v0 (fun r0 w' => K (.slice r0.a r0.len r0.cap) w') w
  | _, _, _, _ => False
def sh_hier_Hier_Down.q : CVT → List X → World → (Value → Prop) → Prop
  | CV, [.v (.pointer h0), .v (.int .i64 v0)], w, K => Quiet (SV) (fun r => (.slice r.a r.len r.cap)) (fun K1 w' => sh_hier_Hier_Down h0 v0 (fun r0 w'' => K1 r0 w'') w') w (fun r => K (.slice r.a r.len r.cap))
  | _, _, _, _ => False
noncomputable def cx_hier_Hier_Down : Cx := Cx.add Try.prog cx_hier_Hier_Rank 17 sh_hier_Hier_Down.o sh_hier_Hier_Down.q
theorem cx_hier_Hier_Down.ok : CxOk cx_hier_Hier_Down := by
  refine CxOk.add cx_hier_Hier_Rank.ok rfl (fun CV hcv xs K w hx h => ?_) (fun CV hcv xs K w hx h => ?_)
  · unfold sh_hier_Hier_Down.o at h; split at h
    · rename_i h0 v0; exact sh_hier_Hier_Down.calls CV h0 v0 hcv h
    · exact h.elim
  · unfold sh_hier_Hier_Down.q at h; split at h
    · rename_i h0 v0; obtain ⟨r, h1, h2⟩ := h; exact ⟨_, h2, fun w' e => sh_hier_Hier_Down.calls CV h0 v0 hcv (h1 w' e)⟩
    · exact h.elim
def sh_postroadref06_SameEdges.plan : Plan := (.seq .o (.seq (.seq .o (.cond (.seq .o .o) .o)) (.seq (.seq .o (.block (.loop [.slot 5 (.int .i64)] [] (.seq (.seq .o (.cond .o .o)) (.seq (.block (.seq (.draw [] [.pure, .pure, .pure, .quiet, .pure, .pure, .pure, .quiet, .pure] [0, 1, 2, 3, 4, 5, 6, 7, 8]) (.cond (.seq .o .o) .o))) .o))))) (.seq .o .o))))
theorem sh_postroadref06_SameEdges.is (CV : CVT) (a0 : SV) (b0 : SV) (w : World) (R : Value → World → Prop) : sh_postroadref06_SameEdges a0 b0 (fun r0 w' => R (.bool r0) w') w = denF (cx_hier_Hier_Down.with CV) Try.f14 sh_postroadref06_SameEdges.plan [.v (.slice a0.a a0.len a0.cap), .v (.slice b0.a b0.len b0.cap)] w R := by kernel_rfl
theorem sh_postroadref06_SameEdges.calls (CV : CVT) (a0 : SV) (b0 : SV) (hcv : CVOk Try.prog CV) {w : World} {R : Ending → World → Prop} (h : sh_postroadref06_SameEdges a0 b0 (fun r0 w' => R (.returned (.bool r0)) w') w) : Calls Try.prog 14 #[(.slice a0.a a0.len a0.cap), (.slice b0.a b0.len b0.cap)] w R :=
  calls_is (cx := cx_hier_Hier_Down.with CV) mixed_Try (cx_hier_Hier_Down.ok.with CV) hcv Try.func14 sh_postroadref06_SameEdges.plan (xs := [.v (.slice a0.a a0.len a0.cap), .v (.slice b0.a b0.len b0.cap)]) ((args_cons _ (args_cons _ args_nil))) (by kernel_rfl) (sh_postroadref06_SameEdges.is CV a0 b0 w (fun v w' => R (.returned v) w')) h
def sh_postroadref06_SameEdges.o : CVT → List X → (Value → World → Prop) → World → Prop
  | CV, [.v (.slice a0_a a0_l a0_c), .v (.slice b0_a b0_l b0_c)], K, w => sh_postroadref06_SameEdges ⟨a0_a, a0_l, a0_c⟩ ⟨b0_a, b0_l, b0_c⟩ (fun r0 w' => K (.bool r0) w') w
  | _, _, _, _ => False
def sh_postroadref06_SameEdges.q : CVT → List X → World → (Value → Prop) → Prop
  | CV, [.v (.slice a0_a a0_l a0_c), .v (.slice b0_a b0_l b0_c)], w, K => Quiet (Bool) (fun r => (.bool r)) (fun K1 w' => sh_postroadref06_SameEdges ⟨a0_a, a0_l, a0_c⟩ ⟨b0_a, b0_l, b0_c⟩ (fun r0 w'' => K1 r0 w'') w') w (fun r => K (.bool r))
  | _, _, _, _ => False
noncomputable def cx_postroadref06_SameEdges : Cx := Cx.add Try.prog cx_hier_Hier_Down 14 sh_postroadref06_SameEdges.o sh_postroadref06_SameEdges.q
theorem cx_postroadref06_SameEdges.ok : CxOk cx_postroadref06_SameEdges := by
  refine CxOk.add cx_hier_Hier_Down.ok rfl (fun CV hcv xs K w hx h => ?_) (fun CV hcv xs K w hx h => ?_)
  · unfold sh_postroadref06_SameEdges.o at h; split at h
    · rename_i a0_a a0_l a0_c b0_a b0_l b0_c; exact sh_postroadref06_SameEdges.calls CV ⟨a0_a, a0_l, a0_c⟩ ⟨b0_a, b0_l, b0_c⟩ hcv h
    · exact h.elim
  · unfold sh_postroadref06_SameEdges.q at h; split at h
    · rename_i a0_a a0_l a0_c b0_a b0_l b0_c; obtain ⟨r, h1, h2⟩ := h; exact ⟨_, h2, fun w' e => sh_postroadref06_SameEdges.calls CV ⟨a0_a, a0_l, a0_c⟩ ⟨b0_a, b0_l, b0_c⟩ hcv (h1 w' e)⟩
    · exact h.elim
def sh_hier_Hier_Up.plan : Plan := (.seq .o (.seq (.seq .o (.cond (.seq .o .o) .o)) (.seq .o .o)))
theorem sh_hier_Hier_Up.is (CV : CVT) (h0 : Option Addr) (v0 : Int) (w : World) (R : Value → World → Prop) : sh_hier_Hier_Up h0 v0 (fun r0 w' => R (.slice r0.a r0.len r0.cap) w') w = denF (cx_postroadref06_SameEdges.with CV) Try.f15 sh_hier_Hier_Up.plan [.v (.pointer h0), .v (.int .i64 v0)] w R := by kernel_rfl
theorem sh_hier_Hier_Up.calls (CV : CVT) (h0 : Option Addr) (v0 : Int) (hcv : CVOk Try.prog CV) {w : World} {R : Ending → World → Prop} (h : sh_hier_Hier_Up h0 v0 (fun r0 w' => R (.returned (.slice r0.a r0.len r0.cap)) w') w) : Calls Try.prog 15 #[(.pointer h0), (.int .i64 v0)] w R :=
  calls_is (cx := cx_postroadref06_SameEdges.with CV) mixed_Try (cx_postroadref06_SameEdges.ok.with CV) hcv Try.func15 sh_hier_Hier_Up.plan (xs := [.v (.pointer h0), .v (.int .i64 v0)]) ((args_cons _ (args_cons _ args_nil))) (by kernel_rfl) (sh_hier_Hier_Up.is CV h0 v0 w (fun v w' => R (.returned v) w')) h
def sh_hier_Hier_Up.o : CVT → List X → (Value → World → Prop) → World → Prop
  | CV, [.v (.pointer h0), .v (.int .i64 v0)], K, w => sh_hier_Hier_Up h0 v0 (fun r0 w' => K (.slice r0.a r0.len r0.cap) w') w
  | _, _, _, _ => False
def sh_hier_Hier_Up.q : CVT → List X → World → (Value → Prop) → Prop
  | CV, [.v (.pointer h0), .v (.int .i64 v0)], w, K => Quiet (SV) (fun r => (.slice r.a r.len r.cap)) (fun K1 w' => sh_hier_Hier_Up h0 v0 (fun r0 w'' => K1 r0 w'') w') w (fun r => K (.slice r.a r.len r.cap))
  | _, _, _, _ => False
noncomputable def cx_hier_Hier_Up : Cx := Cx.add Try.prog cx_postroadref06_SameEdges 15 sh_hier_Hier_Up.o sh_hier_Hier_Up.q
theorem cx_hier_Hier_Up.ok : CxOk cx_hier_Hier_Up := by
  refine CxOk.add cx_postroadref06_SameEdges.ok rfl (fun CV hcv xs K w hx h => ?_) (fun CV hcv xs K w hx h => ?_)
  · unfold sh_hier_Hier_Up.o at h; split at h
    · rename_i h0 v0; exact sh_hier_Hier_Up.calls CV h0 v0 hcv h
    · exact h.elim
  · unfold sh_hier_Hier_Up.q at h; split at h
    · rename_i h0 v0; obtain ⟨r, h1, h2⟩ := h; exact ⟨_, h2, fun w' e => sh_hier_Hier_Up.calls CV h0 v0 hcv (h1 w' e)⟩
    · exact h.elim
def sh_postroadlaw10_known.plan : Plan := (.seq .o (.seq .o (.seq .o (.seq .o .o))))
theorem sh_postroadlaw10_known.is (CV : CVT) (w : World) (R : Value → World → Prop) : sh_postroadlaw10_known  (fun r0 w' => R (.bool r0) w') w = denF (cx_hier_Hier_Up.with CV) Try.f12 sh_postroadlaw10_known.plan [] w R := by kernel_rfl
theorem sh_postroadlaw10_known.calls (CV : CVT) (hcv : CVOk Try.prog CV) {w : World} {R : Ending → World → Prop} (h : sh_postroadlaw10_known  (fun r0 w' => R (.returned (.bool r0)) w') w) : Calls Try.prog 12 #[] w R :=
  calls_is (cx := cx_hier_Hier_Up.with CV) mixed_Try (cx_hier_Hier_Up.ok.with CV) hcv Try.func12 sh_postroadlaw10_known.plan (xs := []) (args_nil) (by kernel_rfl) (sh_postroadlaw10_known.is CV w (fun v w' => R (.returned v) w')) h
def sh_postroadlaw10_known.o : CVT → List X → (Value → World → Prop) → World → Prop
  | CV, [], K, w => sh_postroadlaw10_known  (fun r0 w' => K (.bool r0) w') w
  | _, _, _, _ => False
def sh_postroadlaw10_known.q : CVT → List X → World → (Value → Prop) → Prop
  | CV, [], w, K => Quiet (Bool) (fun r => (.bool r)) (fun K1 w' => sh_postroadlaw10_known  (fun r0 w'' => K1 r0 w'') w') w (fun r => K (.bool r))
  | _, _, _, _ => False
noncomputable def cx_postroadlaw10_known : Cx := Cx.add Try.prog cx_hier_Hier_Up 12 sh_postroadlaw10_known.o sh_postroadlaw10_known.q
theorem cx_postroadlaw10_known.ok : CxOk cx_postroadlaw10_known := by
  refine CxOk.add cx_hier_Hier_Up.ok rfl (fun CV hcv xs K w hx h => ?_) (fun CV hcv xs K w hx h => ?_)
  · unfold sh_postroadlaw10_known.o at h; split at h
    · exact sh_postroadlaw10_known.calls CV hcv h
    · exact h.elim
  · unfold sh_postroadlaw10_known.q at h; split at h
    · obtain ⟨r, h1, h2⟩ := h; exact ⟨_, h2, fun w' e => sh_postroadlaw10_known.calls CV hcv (h1 w' e)⟩
    · exact h.elim
def sh_postroadref10_put.plan : Plan := (.seq .o (.seq .o (.join [.slot 5 (.int .i64)] [] (.block (.loop [.slot 5 (.int .i64)] [] (.seq (.seq (.draw [] [.pure, .pure, .pure, .pure, .pure, .pure, .pure, .pure, .pure, .quiet, .pure, .loc, .pure, .pure] [0, 1, 2, 3, 4, 5, 6, 7, 8, 9, 10, 11, 12, 13]) (.cond .o .o)) (.block .o)))) (.seq .o (.seq .o (.seq .o (.seq .o .o)))))))
theorem sh_postroadref10_put.is (CV : CVT) (l0 : SV) (e0_V : Int) (e0_W : Int) (e0_Arc : Int) (w : World) (R : Value → World → Prop) : sh_postroadref10_put l0 e0_V e0_W e0_Arc (fun r0 w' => R (.slice r0.a r0.len r0.cap) w') w = denF (cx_postroadlaw10_known.with CV) Try.f34 sh_postroadref10_put.plan [.v (.slice l0.a l0.len l0.cap), .v (.agg #[(.int .i64 e0_V), (.int .i64 e0_W), (.int .i64 e0_Arc)])] w R := by kernel_rfl
theorem sh_postroadref10_put.calls (CV : CVT) (l0 : SV) (e0_V : Int) (e0_W : Int) (e0_Arc : Int) (hcv : CVOk Try.prog CV) {w : World} {R : Ending → World → Prop} (h : sh_postroadref10_put l0 e0_V e0_W e0_Arc (fun r0 w' => R (.returned (.slice r0.a r0.len r0.cap)) w') w) : Calls Try.prog 34 #[(.slice l0.a l0.len l0.cap), (.agg #[(.int .i64 e0_V), (.int .i64 e0_W), (.int .i64 e0_Arc)])] w R :=
  calls_is (cx := cx_postroadlaw10_known.with CV) mixed_Try (cx_postroadlaw10_known.ok.with CV) hcv Try.func34 sh_postroadref10_put.plan (xs := [.v (.slice l0.a l0.len l0.cap), .v (.agg #[(.int .i64 e0_V), (.int .i64 e0_W), (.int .i64 e0_Arc)])]) ((args_cons _ (args_cons _ args_nil))) (by kernel_rfl) (sh_postroadref10_put.is CV l0 e0_V e0_W e0_Arc w (fun v w' => R (.returned v) w')) h
def sh_postroadref10_put.o : CVT → List X → (Value → World → Prop) → World → Prop
  | CV, [.v (.slice l0_a l0_l l0_c), .v (.agg ⟨[.int .i64 e0_V, .int .i64 e0_W, .int .i64 e0_Arc]⟩)], K, w => sh_postroadref10_put ⟨l0_a, l0_l, l0_c⟩ e0_V e0_W e0_Arc (fun r0 w' => K (.slice r0.a r0.len r0.cap) w') w
  | _, _, _, _ => False
def sh_postroadref10_put.q : CVT → List X → World → (Value → Prop) → Prop
  | CV, [.v (.slice l0_a l0_l l0_c), .v (.agg ⟨[.int .i64 e0_V, .int .i64 e0_W, .int .i64 e0_Arc]⟩)], w, K => Quiet (SV) (fun r => (.slice r.a r.len r.cap)) (fun K1 w' => sh_postroadref10_put ⟨l0_a, l0_l, l0_c⟩ e0_V e0_W e0_Arc (fun r0 w'' => K1 r0 w'') w') w (fun r => K (.slice r.a r.len r.cap))
  | _, _, _, _ => False
noncomputable def cx_postroadref10_put : Cx := Cx.add Try.prog cx_postroadlaw10_known 34 sh_postroadref10_put.o sh_postroadref10_put.q
theorem cx_postroadref10_put.ok : CxOk cx_postroadref10_put := by
  refine CxOk.add cx_postroadlaw10_known.ok rfl (fun CV hcv xs K w hx h => ?_) (fun CV hcv xs K w hx h => ?_)
  · unfold sh_postroadref10_put.o at h; split at h
    · rename_i l0_a l0_l l0_c e0_V e0_W e0_Arc; exact sh_postroadref10_put.calls CV ⟨l0_a, l0_l, l0_c⟩ e0_V e0_W e0_Arc hcv h
    · exact h.elim
  · unfold sh_postroadref10_put.q at h; split at h
    · rename_i l0_a l0_l l0_c e0_V e0_W e0_Arc; obtain ⟨r, h1, h2⟩ := h; exact ⟨_, h2, fun w' e => sh_postroadref10_put.calls CV ⟨l0_a, l0_l, l0_c⟩ e0_V e0_W e0_Arc hcv (h1 w' e)⟩
    · exact h.elim
def sh_postroadref10_Up.plan : Plan := (.seq .o (.seq .o (.seq (.seq .o (.block (.loop [.slot 5 .slice, .slot 6 (.int .i64)] [] (.seq (.seq .o (.cond .o .o)) (.join [.slot 5 .slice] [] (.block (.seq .o (.seq (.draw [] [.pure, .loc, .pure, .pure, .pure, .pure, .loc, .pure, .loc, .pure, .quiet, .pure, .loc, .pure, .pure, .quiet, .pure, .pure] [0, 1, 2, 3, 4, 5, 6, 7, 8, 9, 10, 11, 12, 13, 14, 15, 16, 17]) (.cond .o .o)))) .o))))) (.seq .o .o))))
theorem sh_postroadref10_Up.is (CV : CVT) (h0_Rank : SV) (h0_Ways : SV) (v0 : Int) (w : World) (R : Value → World → Prop) : sh_postroadref10_Up h0_Rank h0_Ways v0 (fun r0 w' => R (.slice r0.a r0.len r0.cap) w') w = denF (cx_postroadref10_put.with CV) Try.f16 sh_postroadref10_Up.plan [.v (.agg #[(.slice h0_Rank.a h0_Rank.len h0_Rank.cap), (.slice h0_Ways.a h0_Ways.len h0_Ways.cap)]), .v (.int .i64 v0)] w R := by kernel_rfl
theorem sh_postroadref10_Up.calls (CV : CVT) (h0_Rank : SV) (h0_Ways : SV) (v0 : Int) (hcv : CVOk Try.prog CV) {w : World} {R : Ending → World → Prop} (h : sh_postroadref10_Up h0_Rank h0_Ways v0 (fun r0 w' => R (.returned (.slice r0.a r0.len r0.cap)) w') w) : Calls Try.prog 16 #[(.agg #[(.slice h0_Rank.a h0_Rank.len h0_Rank.cap), (.slice h0_Ways.a h0_Ways.len h0_Ways.cap)]), (.int .i64 v0)] w R :=
  calls_is (cx := cx_postroadref10_put.with CV) mixed_Try (cx_postroadref10_put.ok.with CV) hcv Try.func16 sh_postroadref10_Up.plan (xs := [.v (.agg #[(.slice h0_Rank.a h0_Rank.len h0_Rank.cap), (.slice h0_Ways.a h0_Ways.len h0_Ways.cap)]), .v (.int .i64 v0)]) ((args_cons _ (args_cons _ args_nil))) (by kernel_rfl) (sh_postroadref10_Up.is CV h0_Rank h0_Ways v0 w (fun v w' => R (.returned v) w')) h
def sh_postroadref10_Up.o : CVT → List X → (Value → World → Prop) → World → Prop
  | CV, [.v (.agg ⟨[.slice h0_Rank_a h0_Rank_l h0_Rank_c, .slice h0_Ways_a h0_Ways_l h0_Ways_c]⟩), .v (.int .i64 v0)], K, w => sh_postroadref10_Up ⟨h0_Rank_a, h0_Rank_l, h0_Rank_c⟩ ⟨h0_Ways_a, h0_Ways_l, h0_Ways_c⟩ v0 (fun r0 w' => K (.slice r0.a r0.len r0.cap) w') w
  | _, _, _, _ => False
def sh_postroadref10_Up.q : CVT → List X → World → (Value → Prop) → Prop
  | CV, [.v (.agg ⟨[.slice h0_Rank_a h0_Rank_l h0_Rank_c, .slice h0_Ways_a h0_Ways_l h0_Ways_c]⟩), .v (.int .i64 v0)], w, K => Quiet (SV) (fun r => (.slice r.a r.len r.cap)) (fun K1 w' => sh_postroadref10_Up ⟨h0_Rank_a, h0_Rank_l, h0_Rank_c⟩ ⟨h0_Ways_a, h0_Ways_l, h0_Ways_c⟩ v0 (fun r0 w'' => K1 r0 w'') w') w (fun r => K (.slice r.a r.len r.cap))
  | _, _, _, _ => False
noncomputable def cx_postroadref10_Up : Cx := Cx.add Try.prog cx_postroadref10_put 16 sh_postroadref10_Up.o sh_postroadref10_Up.q
theorem cx_postroadref10_Up.ok : CxOk cx_postroadref10_Up := by
  refine CxOk.add cx_postroadref10_put.ok rfl (fun CV hcv xs K w hx h => ?_) (fun CV hcv xs K w hx h => ?_)
  · unfold sh_postroadref10_Up.o at h; split at h
    · rename_i h0_Rank_a h0_Rank_l h0_Rank_c h0_Ways_a h0_Ways_l h0_Ways_c v0; exact sh_postroadref10_Up.calls CV ⟨h0_Rank_a, h0_Rank_l, h0_Rank_c⟩ ⟨h0_Ways_a, h0_Ways_l, h0_Ways_c⟩ v0 hcv h
    · exact h.elim
  · unfold sh_postroadref10_Up.q at h; split at h
    · rename_i h0_Rank_a h0_Rank_l h0_Rank_c h0_Ways_a h0_Ways_l h0_Ways_c v0; obtain ⟨r, h1, h2⟩ := h; exact ⟨_, h2, fun w' e => sh_postroadref10_Up.calls CV ⟨h0_Rank_a, h0_Rank_l, h0_Rank_c⟩ ⟨h0_Ways_a, h0_Ways_l, h0_Ways_c⟩ v0 hcv (h1 w' e)⟩
    · exact h.elim
def sh_postroadref10_Down.plan : Plan := (.seq .o (.seq .o (.seq (.seq .o (.block (.loop [.slot 5 .slice, .slot 6 (.int .i64)] [] (.seq (.seq .o (.cond .o .o)) (.join [.slot 5 .slice] [] (.block (.seq .o (.seq (.draw [] [.pure, .loc, .pure, .pure, .pure, .pure, .loc, .pure, .loc, .pure, .quiet, .pure, .loc, .pure, .pure, .quiet, .pure, .pure] [0, 1, 2, 3, 4, 5, 6, 7, 8, 9, 10, 11, 12, 13, 14, 15, 16, 17]) (.cond .o .o)))) .o))))) (.seq .o .o))))
theorem sh_postroadref10_Down.is (CV : CVT) (h0_Rank : SV) (h0_Ways : SV) (v0 : Int) (w : World) (R : Value → World → Prop) : sh_postroadref10_Down h0_Rank h0_Ways v0 (fun r0 w' => R (.slice r0.a r0.len r0.cap) w') w = denF (cx_postroadref10_Up.with CV) Try.f18 sh_postroadref10_Down.plan [.v (.agg #[(.slice h0_Rank.a h0_Rank.len h0_Rank.cap), (.slice h0_Ways.a h0_Ways.len h0_Ways.cap)]), .v (.int .i64 v0)] w R := by kernel_rfl
theorem sh_postroadref10_Down.calls (CV : CVT) (h0_Rank : SV) (h0_Ways : SV) (v0 : Int) (hcv : CVOk Try.prog CV) {w : World} {R : Ending → World → Prop} (h : sh_postroadref10_Down h0_Rank h0_Ways v0 (fun r0 w' => R (.returned (.slice r0.a r0.len r0.cap)) w') w) : Calls Try.prog 18 #[(.agg #[(.slice h0_Rank.a h0_Rank.len h0_Rank.cap), (.slice h0_Ways.a h0_Ways.len h0_Ways.cap)]), (.int .i64 v0)] w R :=
  calls_is (cx := cx_postroadref10_Up.with CV) mixed_Try (cx_postroadref10_Up.ok.with CV) hcv Try.func18 sh_postroadref10_Down.plan (xs := [.v (.agg #[(.slice h0_Rank.a h0_Rank.len h0_Rank.cap), (.slice h0_Ways.a h0_Ways.len h0_Ways.cap)]), .v (.int .i64 v0)]) ((args_cons _ (args_cons _ args_nil))) (by kernel_rfl) (sh_postroadref10_Down.is CV h0_Rank h0_Ways v0 w (fun v w' => R (.returned v) w')) h
def sh_postroadref10_Down.o : CVT → List X → (Value → World → Prop) → World → Prop
  | CV, [.v (.agg ⟨[.slice h0_Rank_a h0_Rank_l h0_Rank_c, .slice h0_Ways_a h0_Ways_l h0_Ways_c]⟩), .v (.int .i64 v0)], K, w => sh_postroadref10_Down ⟨h0_Rank_a, h0_Rank_l, h0_Rank_c⟩ ⟨h0_Ways_a, h0_Ways_l, h0_Ways_c⟩ v0 (fun r0 w' => K (.slice r0.a r0.len r0.cap) w') w
  | _, _, _, _ => False
def sh_postroadref10_Down.q : CVT → List X → World → (Value → Prop) → Prop
  | CV, [.v (.agg ⟨[.slice h0_Rank_a h0_Rank_l h0_Rank_c, .slice h0_Ways_a h0_Ways_l h0_Ways_c]⟩), .v (.int .i64 v0)], w, K => Quiet (SV) (fun r => (.slice r.a r.len r.cap)) (fun K1 w' => sh_postroadref10_Down ⟨h0_Rank_a, h0_Rank_l, h0_Rank_c⟩ ⟨h0_Ways_a, h0_Ways_l, h0_Ways_c⟩ v0 (fun r0 w'' => K1 r0 w'') w') w (fun r => K (.slice r.a r.len r.cap))
  | _, _, _, _ => False
noncomputable def cx_postroadref10_Down : Cx := Cx.add Try.prog cx_postroadref10_Up 18 sh_postroadref10_Down.o sh_postroadref10_Down.q
theorem cx_postroadref10_Down.ok : CxOk cx_postroadref10_Down := by
  refine CxOk.add cx_postroadref10_Up.ok rfl (fun CV hcv xs K w hx h => ?_) (fun CV hcv xs K w hx h => ?_)
  · unfold sh_postroadref10_Down.o at h; split at h
    · rename_i h0_Rank_a h0_Rank_l h0_Rank_c h0_Ways_a h0_Ways_l h0_Ways_c v0; exact sh_postroadref10_Down.calls CV ⟨h0_Rank_a, h0_Rank_l, h0_Rank_c⟩ ⟨h0_Ways_a, h0_Ways_l, h0_Ways_c⟩ v0 hcv h
    · exact h.elim
  · unfold sh_postroadref10_Down.q at h; split at h
    · rename_i h0_Rank_a h0_Rank_l h0_Rank_c h0_Ways_a h0_Ways_l h0_Ways_c v0; obtain ⟨r, h1, h2⟩ := h; exact ⟨_, h2, fun w' e => sh_postroadref10_Down.calls CV ⟨h0_Rank_a, h0_Rank_l, h0_Rank_c⟩ ⟨h0_Ways_a, h0_Ways_l, h0_Ways_c⟩ v0 hcv (h1 w' e)⟩
    · exact h.elim
def sh_postroadlaw10_HierSides.plan : Plan := (.seq .o (.seq (.seq .o (.cond (.seq .o .o) .o)) (.seq .o (.join [] [] (.seq .o (.block (.loop [.slot 4 (.int .i64)] [] (.seq (.seq .o (.cond .o .o)) (.seq (.block (.seq (.draw [] [.pure, .pure, .big, .rd, .pure, .big, .quiet, .pure, .pure, .pure, .pure, .big, .rd, .pure, .big, .quiet, .pure, .pure] [0, 1, 3, 4, 2, 5, 6, 7, 8, 9, 10, 12, 13, 11, 14, 15, 16, 17]) (.cond (.seq .o .o) .o))) .o))))) (.seq .o .o)))))
theorem sh_postroadlaw10_HierSides.is (CV : CVT) (h0_Rank : SV) (h0_Ways : SV) (w : World) (R : Value → World → Prop) : sh_postroadlaw10_HierSides h0_Rank h0_Ways (fun r0 w' => R (.bool r0) w') w = denF (cx_postroadref10_Down.with CV) Try.f3 sh_postroadlaw10_HierSides.plan [.v (.agg #[(.slice h0_Rank.a h0_Rank.len h0_Rank.cap), (.slice h0_Ways.a h0_Ways.len h0_Ways.cap)])] w R := by kernel_rfl
theorem sh_postroadlaw10_HierSides.calls (CV : CVT) (h0_Rank : SV) (h0_Ways : SV) (hcv : CVOk Try.prog CV) {w : World} {R : Ending → World → Prop} (h : sh_postroadlaw10_HierSides h0_Rank h0_Ways (fun r0 w' => R (.returned (.bool r0)) w') w) : Calls Try.prog 3 #[(.agg #[(.slice h0_Rank.a h0_Rank.len h0_Rank.cap), (.slice h0_Ways.a h0_Ways.len h0_Ways.cap)])] w R :=
  calls_is (cx := cx_postroadref10_Down.with CV) mixed_Try (cx_postroadref10_Down.ok.with CV) hcv Try.func3 sh_postroadlaw10_HierSides.plan (xs := [.v (.agg #[(.slice h0_Rank.a h0_Rank.len h0_Rank.cap), (.slice h0_Ways.a h0_Ways.len h0_Ways.cap)])]) ((args_cons _ args_nil)) (by kernel_rfl) (sh_postroadlaw10_HierSides.is CV h0_Rank h0_Ways w (fun v w' => R (.returned v) w')) h
def sh_postroadlaw10_HierSides.o : CVT → List X → (Value → World → Prop) → World → Prop
  | CV, [.v (.agg ⟨[.slice h0_Rank_a h0_Rank_l h0_Rank_c, .slice h0_Ways_a h0_Ways_l h0_Ways_c]⟩)], K, w => sh_postroadlaw10_HierSides ⟨h0_Rank_a, h0_Rank_l, h0_Rank_c⟩ ⟨h0_Ways_a, h0_Ways_l, h0_Ways_c⟩ (fun r0 w' => K (.bool r0) w') w
  | _, _, _, _ => False
def sh_postroadlaw10_HierSides.q : CVT → List X → World → (Value → Prop) → Prop
  | CV, [.v (.agg ⟨[.slice h0_Rank_a h0_Rank_l h0_Rank_c, .slice h0_Ways_a h0_Ways_l h0_Ways_c]⟩)], w, K => Quiet (Bool) (fun r => (.bool r)) (fun K1 w' => sh_postroadlaw10_HierSides ⟨h0_Rank_a, h0_Rank_l, h0_Rank_c⟩ ⟨h0_Ways_a, h0_Ways_l, h0_Ways_c⟩ (fun r0 w'' => K1 r0 w'') w') w (fun r => K (.bool r))
  | _, _, _, _ => False
noncomputable def cx_postroadlaw10_HierSides : Cx := Cx.add Try.prog cx_postroadref10_Down 3 sh_postroadlaw10_HierSides.o sh_postroadlaw10_HierSides.q
theorem cx_postroadlaw10_HierSides.ok : CxOk cx_postroadlaw10_HierSides := by
  refine CxOk.add cx_postroadref10_Down.ok rfl (fun CV hcv xs K w hx h => ?_) (fun CV hcv xs K w hx h => ?_)
  · unfold sh_postroadlaw10_HierSides.o at h; split at h
    · rename_i h0_Rank_a h0_Rank_l h0_Rank_c h0_Ways_a h0_Ways_l h0_Ways_c; exact sh_postroadlaw10_HierSides.calls CV ⟨h0_Rank_a, h0_Rank_l, h0_Rank_c⟩ ⟨h0_Ways_a, h0_Ways_l, h0_Ways_c⟩ hcv h
    · exact h.elim
  · unfold sh_postroadlaw10_HierSides.q at h; split at h
    · rename_i h0_Rank_a h0_Rank_l h0_Rank_c h0_Ways_a h0_Ways_l h0_Ways_c; obtain ⟨r, h1, h2⟩ := h; exact ⟨_, h2, fun w' e => sh_postroadlaw10_HierSides.calls CV ⟨h0_Rank_a, h0_Rank_l, h0_Rank_c⟩ ⟨h0_Ways_a, h0_Ways_l, h0_Ways_c⟩ hcv (h1 w' e)⟩
    · exact h.elim
def sh_postroadlaw10_HierTwo.plan : Plan := (.seq .o (.seq (.seq .o (.cond (.seq .o .o) .o)) (.seq .o (.seq .o (.seq .o (.seq .o (.seq .o (.join [] [] (.seq .o (.block (.loop [.slot 11 (.int .i64)] [] (.seq (.seq .o (.cond .o .o)) (.seq (.block .o) .o))))) (.join [] [] (.seq .o (.block (.loop [.slot 12 (.int .i64)] [] (.seq (.seq .o (.cond .o .o)) (.seq (.block .o) .o))))) (.seq .o (.seq .o (.join [] [] (.seq .o (.block (.loop [.slot 15 (.int .i64)] [] (.seq (.seq .o (.cond .o .o)) (.seq (.block (.seq .o (.cond (.seq .o .o) .o))) .o))))) (.join [] [] (.seq .o (.block (.loop [.slot 16 (.int .i64)] [] (.seq (.seq .o (.cond .o .o)) (.seq (.block (.seq .o (.cond (.seq .o .o) .o))) .o))))) (.seq .o .o))))))))))))))
theorem sh_postroadlaw10_HierTwo.is (CV : CVT) (h0_Rank : SV) (h0_Ways : SV) (g0_Rank : SV) (g0_Ways : SV) (v0 : Int) (w : World) (R : Value → World → Prop) : sh_postroadlaw10_HierTwo h0_Rank h0_Ways g0_Rank g0_Ways v0 (fun r0 w' => R (.bool r0) w') w = denF (cx_postroadlaw10_HierSides.with CV) Try.f4 sh_postroadlaw10_HierTwo.plan [.v (.agg #[(.slice h0_Rank.a h0_Rank.len h0_Rank.cap), (.slice h0_Ways.a h0_Ways.len h0_Ways.cap)]), .v (.agg #[(.slice g0_Rank.a g0_Rank.len g0_Rank.cap), (.slice g0_Ways.a g0_Ways.len g0_Ways.cap)]), .v (.int .i64 v0)] w R := by kernel_rfl
theorem sh_postroadlaw10_HierTwo.calls (CV : CVT) (h0_Rank : SV) (h0_Ways : SV) (g0_Rank : SV) (g0_Ways : SV) (v0 : Int) (hcv : CVOk Try.prog CV) {w : World} {R : Ending → World → Prop} (h : sh_postroadlaw10_HierTwo h0_Rank h0_Ways g0_Rank g0_Ways v0 (fun r0 w' => R (.returned (.bool r0)) w') w) : Calls Try.prog 4 #[(.agg #[(.slice h0_Rank.a h0_Rank.len h0_Rank.cap), (.slice h0_Ways.a h0_Ways.len h0_Ways.cap)]), (.agg #[(.slice g0_Rank.a g0_Rank.len g0_Rank.cap), (.slice g0_Ways.a g0_Ways.len g0_Ways.cap)]), (.int .i64 v0)] w R :=
  calls_is (cx := cx_postroadlaw10_HierSides.with CV) mixed_Try (cx_postroadlaw10_HierSides.ok.with CV) hcv Try.func4 sh_postroadlaw10_HierTwo.plan (xs := [.v (.agg #[(.slice h0_Rank.a h0_Rank.len h0_Rank.cap), (.slice h0_Ways.a h0_Ways.len h0_Ways.cap)]), .v (.agg #[(.slice g0_Rank.a g0_Rank.len g0_Rank.cap), (.slice g0_Ways.a g0_Ways.len g0_Ways.cap)]), .v (.int .i64 v0)]) ((args_cons _ (args_cons _ (args_cons _ args_nil)))) (by kernel_rfl) (sh_postroadlaw10_HierTwo.is CV h0_Rank h0_Ways g0_Rank g0_Ways v0 w (fun v w' => R (.returned v) w')) h
def sh_postroadlaw10_HierTwo.o : CVT → List X → (Value → World → Prop) → World → Prop
  | CV, [.v (.agg ⟨[.slice h0_Rank_a h0_Rank_l h0_Rank_c, .slice h0_Ways_a h0_Ways_l h0_Ways_c]⟩), .v (.agg ⟨[.slice g0_Rank_a g0_Rank_l g0_Rank_c, .slice g0_Ways_a g0_Ways_l g0_Ways_c]⟩), .v (.int .i64 v0)], K, w => sh_postroadlaw10_HierTwo ⟨h0_Rank_a, h0_Rank_l, h0_Rank_c⟩ ⟨h0_Ways_a, h0_Ways_l, h0_Ways_c⟩ ⟨g0_Rank_a, g0_Rank_l, g0_Rank_c⟩ ⟨g0_Ways_a, g0_Ways_l, g0_Ways_c⟩ v0 (fun r0 w' => K (.bool r0) w') w
  | _, _, _, _ => False
def sh_postroadlaw10_HierTwo.q : CVT → List X → World → (Value → Prop) → Prop
  | CV, [.v (.agg ⟨[.slice h0_Rank_a h0_Rank_l h0_Rank_c, .slice h0_Ways_a h0_Ways_l h0_Ways_c]⟩), .v (.agg ⟨[.slice g0_Rank_a g0_Rank_l g0_Rank_c, .slice g0_Ways_a g0_Ways_l g0_Ways_c]⟩), .v (.int .i64 v0)], w, K => Quiet (Bool) (fun r => (.bool r)) (fun K1 w' => sh_postroadlaw10_HierTwo ⟨h0_Rank_a, h0_Rank_l, h0_Rank_c⟩ ⟨h0_Ways_a, h0_Ways_l, h0_Ways_c⟩ ⟨g0_Rank_a, g0_Rank_l, g0_Rank_c⟩ ⟨g0_Ways_a, g0_Ways_l, g0_Ways_c⟩ v0 (fun r0 w'' => K1 r0 w'') w') w (fun r => K (.bool r))
  | _, _, _, _ => False
noncomputable def cx_postroadlaw10_HierTwo : Cx := Cx.add Try.prog cx_postroadlaw10_HierSides 4 sh_postroadlaw10_HierTwo.o sh_postroadlaw10_HierTwo.q
theorem cx_postroadlaw10_HierTwo.ok : CxOk cx_postroadlaw10_HierTwo := by
  refine CxOk.add cx_postroadlaw10_HierSides.ok rfl (fun CV hcv xs K w hx h => ?_) (fun CV hcv xs K w hx h => ?_)
  · unfold sh_postroadlaw10_HierTwo.o at h; split at h
    · rename_i h0_Rank_a h0_Rank_l h0_Rank_c h0_Ways_a h0_Ways_l h0_Ways_c g0_Rank_a g0_Rank_l g0_Rank_c g0_Ways_a g0_Ways_l g0_Ways_c v0; exact sh_postroadlaw10_HierTwo.calls CV ⟨h0_Rank_a, h0_Rank_l, h0_Rank_c⟩ ⟨h0_Ways_a, h0_Ways_l, h0_Ways_c⟩ ⟨g0_Rank_a, g0_Rank_l, g0_Rank_c⟩ ⟨g0_Ways_a, g0_Ways_l, g0_Ways_c⟩ v0 hcv h
    · exact h.elim
  · unfold sh_postroadlaw10_HierTwo.q at h; split at h
    · rename_i h0_Rank_a h0_Rank_l h0_Rank_c h0_Ways_a h0_Ways_l h0_Ways_c g0_Rank_a g0_Rank_l g0_Rank_c g0_Ways_a g0_Ways_l g0_Ways_c v0; obtain ⟨r, h1, h2⟩ := h; exact ⟨_, h2, fun w' e => sh_postroadlaw10_HierTwo.calls CV ⟨h0_Rank_a, h0_Rank_l, h0_Rank_c⟩ ⟨h0_Ways_a, h0_Ways_l, h0_Ways_c⟩ ⟨g0_Rank_a, g0_Rank_l, g0_Rank_c⟩ ⟨g0_Ways_a, g0_Ways_l, g0_Ways_c⟩ v0 hcv (h1 w' e)⟩
    · exact h.elim
def sh_postroadref06_part.plan : Plan := (.seq .o (.seq .o (.seq (.seq .o (.cond (.seq .o .o) .o)) (.seq .o .o))))
theorem sh_postroadref06_part.is (CV : CVT) (x0 : Int) (n0 : Int) (w : World) (R : Value → World → Prop) : sh_postroadref06_part x0 n0 (fun r0 w' => R (.int .i64 r0) w') w = denF (cx_postroadlaw10_HierTwo.with CV) Try.f43 sh_postroadref06_part.plan [.v (.int .i64 x0), .v (.int .i64 n0)] w R := by kernel_rfl
theorem sh_postroadref06_part.calls (CV : CVT) (x0 : Int) (n0 : Int) (hcv : CVOk Try.prog CV) {w : World} {R : Ending → World → Prop} (h : sh_postroadref06_part x0 n0 (fun r0 w' => R (.returned (.int .i64 r0)) w') w) : Calls Try.prog 43 #[(.int .i64 x0), (.int .i64 n0)] w R :=
  calls_is (cx := cx_postroadlaw10_HierTwo.with CV) mixed_Try (cx_postroadlaw10_HierTwo.ok.with CV) hcv Try.func43 sh_postroadref06_part.plan (xs := [.v (.int .i64 x0), .v (.int .i64 n0)]) ((args_cons _ (args_cons _ args_nil))) (by kernel_rfl) (sh_postroadref06_part.is CV x0 n0 w (fun v w' => R (.returned v) w')) h
def sh_postroadref06_part.o : CVT → List X → (Value → World → Prop) → World → Prop
  | CV, [.v (.int .i64 x0), .v (.int .i64 n0)], K, w => sh_postroadref06_part x0 n0 (fun r0 w' => K (.int .i64 r0) w') w
  | _, _, _, _ => False
def sh_postroadref06_part.q : CVT → List X → World → (Value → Prop) → Prop
  | CV, [.v (.int .i64 x0), .v (.int .i64 n0)], w, K => Quiet (Int) (fun r => (.int .i64 r)) (fun K1 w' => sh_postroadref06_part x0 n0 (fun r0 w'' => K1 r0 w'') w') w (fun r => K (.int .i64 r))
  | _, _, _, _ => False
noncomputable def cx_postroadref06_part : Cx := Cx.add Try.prog cx_postroadlaw10_HierTwo 43 sh_postroadref06_part.o sh_postroadref06_part.q
theorem cx_postroadref06_part.ok : CxOk cx_postroadref06_part := by
  refine CxOk.add cx_postroadlaw10_HierTwo.ok rfl (fun CV hcv xs K w hx h => ?_) (fun CV hcv xs K w hx h => ?_)
  · unfold sh_postroadref06_part.o at h; split at h
    · rename_i x0 n0; exact sh_postroadref06_part.calls CV x0 n0 hcv h
    · exact h.elim
  · unfold sh_postroadref06_part.q at h; split at h
    · rename_i x0 n0; obtain ⟨r, h1, h2⟩ := h; exact ⟨_, h2, fun w' e => sh_postroadref06_part.calls CV x0 n0 hcv (h1 w' e)⟩
    · exact h.elim
def sh_postroadref06_Of.plan : Plan := (.seq .o (.seq .o (.seq .o (.join [.box 5 [(.int .i64), .slice]] [] (.seq .o (.block (.loop [.slot 6 (.int .i64), .box 5 [(.int .i64), .slice]] [] (.seq (.seq .o (.cond .o .o)) (.seq (.block (.seq .o (.draw [] [.pure, .loc, .pure, .loc, .pure, .quiet, .pure, .loc, .pure, .quiet, .pure, .loc, .quiet, .pure, .new, .big, .pure, .big] [0, 1, 2, 3, 4, 5, 6, 7, 8, 9, 10, 11, 12, 13, 14, 15, 16, 17]))) .o))))) (.seq .o .o)))))
theorem sh_postroadref06_Of.is (CV : CVT) (n0 : Int) (arcs0 : SV) (w : World) (R : Value → World → Prop) : sh_postroadref06_Of n0 arcs0 (fun r0 r1 w' => R (.agg #[(.int .i64 r0), (.slice r1.a r1.len r1.cap)]) w') w = denF (cx_postroadref06_part.with CV) Try.f35 sh_postroadref06_Of.plan [.v (.int .i64 n0), .v (.slice arcs0.a arcs0.len arcs0.cap)] w R := by kernel_rfl
theorem sh_postroadref06_Of.calls (CV : CVT) (n0 : Int) (arcs0 : SV) (hcv : CVOk Try.prog CV) {w : World} {R : Ending → World → Prop} (h : sh_postroadref06_Of n0 arcs0 (fun r0 r1 w' => R (.returned (.agg #[(.int .i64 r0), (.slice r1.a r1.len r1.cap)])) w') w) : Calls Try.prog 35 #[(.int .i64 n0), (.slice arcs0.a arcs0.len arcs0.cap)] w R :=
  calls_is (cx := cx_postroadref06_part.with CV) mixed_Try (cx_postroadref06_part.ok.with CV) hcv Try.func35 sh_postroadref06_Of.plan (xs := [.v (.int .i64 n0), .v (.slice arcs0.a arcs0.len arcs0.cap)]) ((args_cons _ (args_cons _ args_nil))) (by kernel_rfl) (sh_postroadref06_Of.is CV n0 arcs0 w (fun v w' => R (.returned v) w')) h
def sh_postroadref06_Of.o : CVT → List X → (Value → World → Prop) → World → Prop
  | CV, [.v (.int .i64 n0), .v (.slice arcs0_a arcs0_l arcs0_c)], K, w => sh_postroadref06_Of n0 ⟨arcs0_a, arcs0_l, arcs0_c⟩ (fun r0 r1 w' => K (.agg #[(.int .i64 r0), (.slice r1.a r1.len r1.cap)]) w') w
  | _, _, _, _ => False
def sh_postroadref06_Of.q : CVT → List X → World → (Value → Prop) → Prop
  | CV, [.v (.int .i64 n0), .v (.slice arcs0_a arcs0_l arcs0_c)], w, K => Quiet (Int × SV) (fun r => (.agg #[(.int .i64 r.1), (.slice r.2.a r.2.len r.2.cap)])) (fun K1 w' => sh_postroadref06_Of n0 ⟨arcs0_a, arcs0_l, arcs0_c⟩ (fun r0 r1 w'' => K1 (r0, r1) w'') w') w (fun r => K (.agg #[(.int .i64 r.1), (.slice r.2.a r.2.len r.2.cap)]))
  | _, _, _, _ => False
noncomputable def cx_postroadref06_Of : Cx := Cx.add Try.prog cx_postroadref06_part 35 sh_postroadref06_Of.o sh_postroadref06_Of.q
theorem cx_postroadref06_Of.ok : CxOk cx_postroadref06_Of := by
  refine CxOk.add cx_postroadref06_part.ok rfl (fun CV hcv xs K w hx h => ?_) (fun CV hcv xs K w hx h => ?_)
  · unfold sh_postroadref06_Of.o at h; split at h
    · rename_i n0 arcs0_a arcs0_l arcs0_c; exact sh_postroadref06_Of.calls CV n0 ⟨arcs0_a, arcs0_l, arcs0_c⟩ hcv h
    · exact h.elim
  · unfold sh_postroadref06_Of.q at h; split at h
    · rename_i n0 arcs0_a arcs0_l arcs0_c; obtain ⟨r, h1, h2⟩ := h; exact ⟨_, h2, fun w' e => sh_postroadref06_Of.calls CV n0 ⟨arcs0_a, arcs0_l, arcs0_c⟩ hcv (h1 w' e)⟩
    · exact h.elim
def sh_postroadref07_Of.plan : Plan := (.seq .o (.seq .o .o))
theorem sh_postroadref07_Of.is (CV : CVT) (n0 : Int) (arcs0 : SV) (w : World) (R : Value → World → Prop) : sh_postroadref07_Of n0 arcs0 (fun r0 r1 w' => R (.agg #[(.int .i64 r0), (.slice r1.a r1.len r1.cap)]) w') w = denF (cx_postroadref06_Of.with CV) Try.f19 sh_postroadref07_Of.plan [.v (.int .i64 n0), .v (.slice arcs0.a arcs0.len arcs0.cap)] w R := by kernel_rfl
theorem sh_postroadref07_Of.calls (CV : CVT) (n0 : Int) (arcs0 : SV) (hcv : CVOk Try.prog CV) {w : World} {R : Ending → World → Prop} (h : sh_postroadref07_Of n0 arcs0 (fun r0 r1 w' => R (.returned (.agg #[(.int .i64 r0), (.slice r1.a r1.len r1.cap)])) w') w) : Calls Try.prog 19 #[(.int .i64 n0), (.slice arcs0.a arcs0.len arcs0.cap)] w R :=
  calls_is (cx := cx_postroadref06_Of.with CV) mixed_Try (cx_postroadref06_Of.ok.with CV) hcv Try.func19 sh_postroadref07_Of.plan (xs := [.v (.int .i64 n0), .v (.slice arcs0.a arcs0.len arcs0.cap)]) ((args_cons _ (args_cons _ args_nil))) (by kernel_rfl) (sh_postroadref07_Of.is CV n0 arcs0 w (fun v w' => R (.returned v) w')) h
def sh_postroadref07_Of.o : CVT → List X → (Value → World → Prop) → World → Prop
  | CV, [.v (.int .i64 n0), .v (.slice arcs0_a arcs0_l arcs0_c)], K, w => sh_postroadref07_Of n0 ⟨arcs0_a, arcs0_l, arcs0_c⟩ (fun r0 r1 w' => K (.agg #[(.int .i64 r0), (.slice r1.a r1.len r1.cap)]) w') w
  | _, _, _, _ => False
def sh_postroadref07_Of.q : CVT → List X → World → (Value → Prop) → Prop
  | CV, [.v (.int .i64 n0), .v (.slice arcs0_a arcs0_l arcs0_c)], w, K => Quiet (Int × SV) (fun r => (.agg #[(.int .i64 r.1), (.slice r.2.a r.2.len r.2.cap)])) (fun K1 w' => sh_postroadref07_Of n0 ⟨arcs0_a, arcs0_l, arcs0_c⟩ (fun r0 r1 w'' => K1 (r0, r1) w'') w') w (fun r => K (.agg #[(.int .i64 r.1), (.slice r.2.a r.2.len r.2.cap)]))
  | _, _, _, _ => False
noncomputable def cx_postroadref07_Of : Cx := Cx.add Try.prog cx_postroadref06_Of 19 sh_postroadref07_Of.o sh_postroadref07_Of.q
theorem cx_postroadref07_Of.ok : CxOk cx_postroadref07_Of := by
  refine CxOk.add cx_postroadref06_Of.ok rfl (fun CV hcv xs K w hx h => ?_) (fun CV hcv xs K w hx h => ?_)
  · unfold sh_postroadref07_Of.o at h; split at h
    · rename_i n0 arcs0_a arcs0_l arcs0_c; exact sh_postroadref07_Of.calls CV n0 ⟨arcs0_a, arcs0_l, arcs0_c⟩ hcv h
    · exact h.elim
  · unfold sh_postroadref07_Of.q at h; split at h
    · rename_i n0 arcs0_a arcs0_l arcs0_c; obtain ⟨r, h1, h2⟩ := h; exact ⟨_, h2, fun w' e => sh_postroadref07_Of.calls CV n0 ⟨arcs0_a, arcs0_l, arcs0_c⟩ hcv (h1 w' e)⟩
    · exact h.elim
def sh_postroadref05_Check.plan : Plan := (.seq .o (.seq (.seq .o (.cond (.seq .o .o) .o)) (.seq (.seq .o (.cond (.seq .o .o) .o)) (.seq (.seq .o (.block (.loop [.slot 3 (.int .i64)] [] (.seq (.seq .o (.cond .o .o)) (.seq (.block (.seq .o (.seq .o (.cond (.seq .o .o) .o)))) .o))))) (.seq .o .o)))))
theorem sh_postroadref05_Check.is (CV : CVT) (m0_N : Int) (m0_Arcs : SV) (w : World) (R : Value → World → Prop) : sh_postroadref05_Check m0_N m0_Arcs (fun r0 w' => R (.int .i64 r0) w') w = denF (cx_postroadref07_Of.with CV) Try.f44 sh_postroadref05_Check.plan [.v (.agg #[(.int .i64 m0_N), (.slice m0_Arcs.a m0_Arcs.len m0_Arcs.cap)])] w R := by kernel_rfl
theorem sh_postroadref05_Check.calls (CV : CVT) (m0_N : Int) (m0_Arcs : SV) (hcv : CVOk Try.prog CV) {w : World} {R : Ending → World → Prop} (h : sh_postroadref05_Check m0_N m0_Arcs (fun r0 w' => R (.returned (.int .i64 r0)) w') w) : Calls Try.prog 44 #[(.agg #[(.int .i64 m0_N), (.slice m0_Arcs.a m0_Arcs.len m0_Arcs.cap)])] w R :=
  calls_is (cx := cx_postroadref07_Of.with CV) mixed_Try (cx_postroadref07_Of.ok.with CV) hcv Try.func44 sh_postroadref05_Check.plan (xs := [.v (.agg #[(.int .i64 m0_N), (.slice m0_Arcs.a m0_Arcs.len m0_Arcs.cap)])]) ((args_cons _ args_nil)) (by kernel_rfl) (sh_postroadref05_Check.is CV m0_N m0_Arcs w (fun v w' => R (.returned v) w')) h
def sh_postroadref05_Check.o : CVT → List X → (Value → World → Prop) → World → Prop
  | CV, [.v (.agg ⟨[.int .i64 m0_N, .slice m0_Arcs_a m0_Arcs_l m0_Arcs_c]⟩)], K, w => sh_postroadref05_Check m0_N ⟨m0_Arcs_a, m0_Arcs_l, m0_Arcs_c⟩ (fun r0 w' => K (.int .i64 r0) w') w
  | _, _, _, _ => False
def sh_postroadref05_Check.q : CVT → List X → World → (Value → Prop) → Prop
  | CV, [.v (.agg ⟨[.int .i64 m0_N, .slice m0_Arcs_a m0_Arcs_l m0_Arcs_c]⟩)], w, K => Quiet (Int) (fun r => (.int .i64 r)) (fun K1 w' => sh_postroadref05_Check m0_N ⟨m0_Arcs_a, m0_Arcs_l, m0_Arcs_c⟩ (fun r0 w'' => K1 r0 w'') w') w (fun r => K (.int .i64 r))
  | _, _, _, _ => False
noncomputable def cx_postroadref05_Check : Cx := Cx.add Try.prog cx_postroadref07_Of 44 sh_postroadref05_Check.o sh_postroadref05_Check.q
theorem cx_postroadref05_Check.ok : CxOk cx_postroadref05_Check := by
  refine CxOk.add cx_postroadref07_Of.ok rfl (fun CV hcv xs K w hx h => ?_) (fun CV hcv xs K w hx h => ?_)
  · unfold sh_postroadref05_Check.o at h; split at h
    · rename_i m0_N m0_Arcs_a m0_Arcs_l m0_Arcs_c; exact sh_postroadref05_Check.calls CV m0_N ⟨m0_Arcs_a, m0_Arcs_l, m0_Arcs_c⟩ hcv h
    · exact h.elim
  · unfold sh_postroadref05_Check.q at h; split at h
    · rename_i m0_N m0_Arcs_a m0_Arcs_l m0_Arcs_c; obtain ⟨r, h1, h2⟩ := h; exact ⟨_, h2, fun w' e => sh_postroadref05_Check.calls CV m0_N ⟨m0_Arcs_a, m0_Arcs_l, m0_Arcs_c⟩ hcv (h1 w' e)⟩
    · exact h.elim
def sh_postroadref06_counts.plan : Plan := (.seq .o (.seq .o (.seq (.seq .o (.cond (.seq .o .o) .o)) (.seq (.seq .o (.block (.loop [.slot 6 (.int .i64)] [] (.seq (.seq .o (.cond .o .o)) (.join [] [] (.block (.seq .o (.seq .o (.cond (.seq .o .o) .o)))) .o))))) (.seq .o .o)))))
theorem sh_postroadref06_counts.is (CV : CVT) (m0_N : Int) (m0_Arcs : SV) (k0 : Int) (w : World) (R : Value → World → Prop) : sh_postroadref06_counts m0_N m0_Arcs k0 (fun r0 w' => R (.bool r0) w') w = denF (cx_postroadref05_Check.with CV) Try.f45 sh_postroadref06_counts.plan [.v (.agg #[(.int .i64 m0_N), (.slice m0_Arcs.a m0_Arcs.len m0_Arcs.cap)]), .v (.int .i64 k0)] w R := by kernel_rfl
theorem sh_postroadref06_counts.calls (CV : CVT) (m0_N : Int) (m0_Arcs : SV) (k0 : Int) (hcv : CVOk Try.prog CV) {w : World} {R : Ending → World → Prop} (h : sh_postroadref06_counts m0_N m0_Arcs k0 (fun r0 w' => R (.returned (.bool r0)) w') w) : Calls Try.prog 45 #[(.agg #[(.int .i64 m0_N), (.slice m0_Arcs.a m0_Arcs.len m0_Arcs.cap)]), (.int .i64 k0)] w R :=
  calls_is (cx := cx_postroadref05_Check.with CV) mixed_Try (cx_postroadref05_Check.ok.with CV) hcv Try.func45 sh_postroadref06_counts.plan (xs := [.v (.agg #[(.int .i64 m0_N), (.slice m0_Arcs.a m0_Arcs.len m0_Arcs.cap)]), .v (.int .i64 k0)]) ((args_cons _ (args_cons _ args_nil))) (by kernel_rfl) (sh_postroadref06_counts.is CV m0_N m0_Arcs k0 w (fun v w' => R (.returned v) w')) h
def sh_postroadref06_counts.o : CVT → List X → (Value → World → Prop) → World → Prop
  | CV, [.v (.agg ⟨[.int .i64 m0_N, .slice m0_Arcs_a m0_Arcs_l m0_Arcs_c]⟩), .v (.int .i64 k0)], K, w => sh_postroadref06_counts m0_N ⟨m0_Arcs_a, m0_Arcs_l, m0_Arcs_c⟩ k0 (fun r0 w' => K (.bool r0) w') w
  | _, _, _, _ => False
def sh_postroadref06_counts.q : CVT → List X → World → (Value → Prop) → Prop
  | CV, [.v (.agg ⟨[.int .i64 m0_N, .slice m0_Arcs_a m0_Arcs_l m0_Arcs_c]⟩), .v (.int .i64 k0)], w, K => Quiet (Bool) (fun r => (.bool r)) (fun K1 w' => sh_postroadref06_counts m0_N ⟨m0_Arcs_a, m0_Arcs_l, m0_Arcs_c⟩ k0 (fun r0 w'' => K1 r0 w'') w') w (fun r => K (.bool r))
  | _, _, _, _ => False
noncomputable def cx_postroadref06_counts : Cx := Cx.add Try.prog cx_postroadref05_Check 45 sh_postroadref06_counts.o sh_postroadref06_counts.q
theorem cx_postroadref06_counts.ok : CxOk cx_postroadref06_counts := by
  refine CxOk.add cx_postroadref05_Check.ok rfl (fun CV hcv xs K w hx h => ?_) (fun CV hcv xs K w hx h => ?_)
  · unfold sh_postroadref06_counts.o at h; split at h
    · rename_i m0_N m0_Arcs_a m0_Arcs_l m0_Arcs_c k0; exact sh_postroadref06_counts.calls CV m0_N ⟨m0_Arcs_a, m0_Arcs_l, m0_Arcs_c⟩ k0 hcv h
    · exact h.elim
  · unfold sh_postroadref06_counts.q at h; split at h
    · rename_i m0_N m0_Arcs_a m0_Arcs_l m0_Arcs_c k0; obtain ⟨r, h1, h2⟩ := h; exact ⟨_, h2, fun w' e => sh_postroadref06_counts.calls CV m0_N ⟨m0_Arcs_a, m0_Arcs_l, m0_Arcs_c⟩ k0 hcv (h1 w' e)⟩
    · exact h.elim
def sh_postroadref06_New.plan : Plan := (.seq .o (.seq (.seq .o (.cond (.seq .o .o) .o)) (.seq .o (.join [.box 4 [(.int .i64), .slice, .slice]] [] (.seq .o (.block (.loop [.slot 5 (.int .i64), .box 4 [(.int .i64), .slice, .slice]] [] (.seq (.seq .o (.cond .o .o)) (.seq (.block (.seq .o (.join [.slot 6 (.int .i64)] [] (.seq .o (.cond .o .o)) .o))) .o))))) (.seq .o .o)))))
theorem sh_postroadref06_New.is (CV : CVT) (m0_N : Int) (m0_Arcs : SV) (w : World) (R : Value → World → Prop) : sh_postroadref06_New m0_N m0_Arcs (fun r0 r1 r2 r3 w' => R (.tuple #[(.agg #[(.int .i64 r0), (.slice r1.a r1.len r1.cap), (.slice r2.a r2.len r2.cap)]), (.bool r3)]) w') w = denF (cx_postroadref06_counts.with CV) Try.f36 sh_postroadref06_New.plan [.v (.agg #[(.int .i64 m0_N), (.slice m0_Arcs.a m0_Arcs.len m0_Arcs.cap)])] w R := by kernel_rfl
theorem sh_postroadref06_New.calls (CV : CVT) (m0_N : Int) (m0_Arcs : SV) (hcv : CVOk Try.prog CV) {w : World} {R : Ending → World → Prop} (h : sh_postroadref06_New m0_N m0_Arcs (fun r0 r1 r2 r3 w' => R (.returned (.tuple #[(.agg #[(.int .i64 r0), (.slice r1.a r1.len r1.cap), (.slice r2.a r2.len r2.cap)]), (.bool r3)])) w') w) : Calls Try.prog 36 #[(.agg #[(.int .i64 m0_N), (.slice m0_Arcs.a m0_Arcs.len m0_Arcs.cap)])] w R :=
  calls_is (cx := cx_postroadref06_counts.with CV) mixed_Try (cx_postroadref06_counts.ok.with CV) hcv Try.func36 sh_postroadref06_New.plan (xs := [.v (.agg #[(.int .i64 m0_N), (.slice m0_Arcs.a m0_Arcs.len m0_Arcs.cap)])]) ((args_cons _ args_nil)) (by kernel_rfl) (sh_postroadref06_New.is CV m0_N m0_Arcs w (fun v w' => R (.returned v) w')) h
def sh_postroadref06_New.o : CVT → List X → (Value → World → Prop) → World → Prop
  | CV, [.v (.agg ⟨[.int .i64 m0_N, .slice m0_Arcs_a m0_Arcs_l m0_Arcs_c]⟩)], K, w => sh_postroadref06_New m0_N ⟨m0_Arcs_a, m0_Arcs_l, m0_Arcs_c⟩ (fun r0 r1 r2 r3 w' => K (.tuple #[(.agg #[(.int .i64 r0), (.slice r1.a r1.len r1.cap), (.slice r2.a r2.len r2.cap)]), (.bool r3)]) w') w
  | _, _, _, _ => False
def sh_postroadref06_New.q : CVT → List X → World → (Value → Prop) → Prop
  | CV, [.v (.agg ⟨[.int .i64 m0_N, .slice m0_Arcs_a m0_Arcs_l m0_Arcs_c]⟩)], w, K => Quiet (Int × SV × SV × Bool) (fun r => (.tuple #[(.agg #[(.int .i64 r.1), (.slice r.2.1.a r.2.1.len r.2.1.cap), (.slice r.2.2.1.a r.2.2.1.len r.2.2.1.cap)]), (.bool r.2.2.2)])) (fun K1 w' => sh_postroadref06_New m0_N ⟨m0_Arcs_a, m0_Arcs_l, m0_Arcs_c⟩ (fun r0 r1 r2 r3 w'' => K1 (r0, r1, r2, r3) w'') w') w (fun r => K (.tuple #[(.agg #[(.int .i64 r.1), (.slice r.2.1.a r.2.1.len r.2.1.cap), (.slice r.2.2.1.a r.2.2.1.len r.2.2.1.cap)]), (.bool r.2.2.2)]))
  | _, _, _, _ => False
noncomputable def cx_postroadref06_New : Cx := Cx.add Try.prog cx_postroadref06_counts 36 sh_postroadref06_New.o sh_postroadref06_New.q
theorem cx_postroadref06_New.ok : CxOk cx_postroadref06_New := by
  refine CxOk.add cx_postroadref06_counts.ok rfl (fun CV hcv xs K w hx h => ?_) (fun CV hcv xs K w hx h => ?_)
  · unfold sh_postroadref06_New.o at h; split at h
    · rename_i m0_N m0_Arcs_a m0_Arcs_l m0_Arcs_c; exact sh_postroadref06_New.calls CV m0_N ⟨m0_Arcs_a, m0_Arcs_l, m0_Arcs_c⟩ hcv h
    · exact h.elim
  · unfold sh_postroadref06_New.q at h; split at h
    · rename_i m0_N m0_Arcs_a m0_Arcs_l m0_Arcs_c; obtain ⟨r, h1, h2⟩ := h; exact ⟨_, h2, fun w' e => sh_postroadref06_New.calls CV m0_N ⟨m0_Arcs_a, m0_Arcs_l, m0_Arcs_c⟩ hcv (h1 w' e)⟩
    · exact h.elim
def sh_postroadref06_put.plan : Plan := (.seq .o (.seq .o (.join [.slot 5 (.int .i64)] [] (.block (.loop [.slot 5 (.int .i64)] [] (.seq (.seq (.draw [] [.pure, .pure, .pure, .pure, .pure, .pure, .pure, .pure, .pure, .quiet, .pure, .loc, .pure, .pure] [0, 1, 2, 3, 4, 5, 6, 7, 8, 9, 10, 11, 12, 13]) (.cond .o .o)) (.block .o)))) (.seq .o (.seq .o (.seq .o (.seq .o .o)))))))
theorem sh_postroadref06_put.is (CV : CVT) (l0 : SV) (e0_V : Int) (e0_W : Int) (e0_Arc : Int) (w : World) (R : Value → World → Prop) : sh_postroadref06_put l0 e0_V e0_W e0_Arc (fun r0 w' => R (.slice r0.a r0.len r0.cap) w') w = denF (cx_postroadref06_New.with CV) Try.f59 sh_postroadref06_put.plan [.v (.slice l0.a l0.len l0.cap), .v (.agg #[(.int .i64 e0_V), (.int .i64 e0_W), (.int .i64 e0_Arc)])] w R := by kernel_rfl
theorem sh_postroadref06_put.calls (CV : CVT) (l0 : SV) (e0_V : Int) (e0_W : Int) (e0_Arc : Int) (hcv : CVOk Try.prog CV) {w : World} {R : Ending → World → Prop} (h : sh_postroadref06_put l0 e0_V e0_W e0_Arc (fun r0 w' => R (.returned (.slice r0.a r0.len r0.cap)) w') w) : Calls Try.prog 59 #[(.slice l0.a l0.len l0.cap), (.agg #[(.int .i64 e0_V), (.int .i64 e0_W), (.int .i64 e0_Arc)])] w R :=
  calls_is (cx := cx_postroadref06_New.with CV) mixed_Try (cx_postroadref06_New.ok.with CV) hcv Try.func59 sh_postroadref06_put.plan (xs := [.v (.slice l0.a l0.len l0.cap), .v (.agg #[(.int .i64 e0_V), (.int .i64 e0_W), (.int .i64 e0_Arc)])]) ((args_cons _ (args_cons _ args_nil))) (by kernel_rfl) (sh_postroadref06_put.is CV l0 e0_V e0_W e0_Arc w (fun v w' => R (.returned v) w')) h
def sh_postroadref06_put.o : CVT → List X → (Value → World → Prop) → World → Prop
  | CV, [.v (.slice l0_a l0_l l0_c), .v (.agg ⟨[.int .i64 e0_V, .int .i64 e0_W, .int .i64 e0_Arc]⟩)], K, w => sh_postroadref06_put ⟨l0_a, l0_l, l0_c⟩ e0_V e0_W e0_Arc (fun r0 w' => K (.slice r0.a r0.len r0.cap) w') w
  | _, _, _, _ => False
def sh_postroadref06_put.q : CVT → List X → World → (Value → Prop) → Prop
  | CV, [.v (.slice l0_a l0_l l0_c), .v (.agg ⟨[.int .i64 e0_V, .int .i64 e0_W, .int .i64 e0_Arc]⟩)], w, K => Quiet (SV) (fun r => (.slice r.a r.len r.cap)) (fun K1 w' => sh_postroadref06_put ⟨l0_a, l0_l, l0_c⟩ e0_V e0_W e0_Arc (fun r0 w'' => K1 r0 w'') w') w (fun r => K (.slice r.a r.len r.cap))
  | _, _, _, _ => False
noncomputable def cx_postroadref06_put : Cx := Cx.add Try.prog cx_postroadref06_New 59 sh_postroadref06_put.o sh_postroadref06_put.q
theorem cx_postroadref06_put.ok : CxOk cx_postroadref06_put := by
  refine CxOk.add cx_postroadref06_New.ok rfl (fun CV hcv xs K w hx h => ?_) (fun CV hcv xs K w hx h => ?_)
  · unfold sh_postroadref06_put.o at h; split at h
    · rename_i l0_a l0_l l0_c e0_V e0_W e0_Arc; exact sh_postroadref06_put.calls CV ⟨l0_a, l0_l, l0_c⟩ e0_V e0_W e0_Arc hcv h
    · exact h.elim
  · unfold sh_postroadref06_put.q at h; split at h
    · rename_i l0_a l0_l l0_c e0_V e0_W e0_Arc; obtain ⟨r, h1, h2⟩ := h; exact ⟨_, h2, fun w' e => sh_postroadref06_put.calls CV ⟨l0_a, l0_l, l0_c⟩ e0_V e0_W e0_Arc hcv (h1 w' e)⟩
    · exact h.elim
def sh_postroadref06_Out.plan : Plan := (.seq .o (.seq .o (.seq (.seq .o (.block (.loop [.slot 5 .slice, .slot 6 (.int .i64)] [] (.seq (.seq .o (.cond .o .o)) (.join [.slot 5 .slice] [] (.block (.seq .o (.cond (.draw [] [.pure, .pure, .pure, .loc, .pure, .pure, .pure, .quiet, .pure, .pure, .loc, .pure, .pure, .pure, .quiet, .pure, .pure, .big, .pure] [0, 1, 2, 3, 4, 5, 6, 7, 8, 9, 10, 11, 12, 13, 14, 15, 16, 17, 18]) .o))) .o))))) (.seq .o .o))))
theorem sh_postroadref06_Out.is (CV : CVT) (g0_M_N : Int) (g0_M_Arcs : SV) (g0_Kept : SV) (v0 : Int) (w : World) (R : Value → World → Prop) : sh_postroadref06_Out g0_M_N g0_M_Arcs g0_Kept v0 (fun r0 w' => R (.slice r0.a r0.len r0.cap) w') w = denF (cx_postroadref06_put.with CV) Try.f54 sh_postroadref06_Out.plan [.v (.agg #[(.int .i64 g0_M_N), (.slice g0_M_Arcs.a g0_M_Arcs.len g0_M_Arcs.cap), (.slice g0_Kept.a g0_Kept.len g0_Kept.cap)]), .v (.int .i64 v0)] w R := by kernel_rfl
theorem sh_postroadref06_Out.calls (CV : CVT) (g0_M_N : Int) (g0_M_Arcs : SV) (g0_Kept : SV) (v0 : Int) (hcv : CVOk Try.prog CV) {w : World} {R : Ending → World → Prop} (h : sh_postroadref06_Out g0_M_N g0_M_Arcs g0_Kept v0 (fun r0 w' => R (.returned (.slice r0.a r0.len r0.cap)) w') w) : Calls Try.prog 54 #[(.agg #[(.int .i64 g0_M_N), (.slice g0_M_Arcs.a g0_M_Arcs.len g0_M_Arcs.cap), (.slice g0_Kept.a g0_Kept.len g0_Kept.cap)]), (.int .i64 v0)] w R :=
  calls_is (cx := cx_postroadref06_put.with CV) mixed_Try (cx_postroadref06_put.ok.with CV) hcv Try.func54 sh_postroadref06_Out.plan (xs := [.v (.agg #[(.int .i64 g0_M_N), (.slice g0_M_Arcs.a g0_M_Arcs.len g0_M_Arcs.cap), (.slice g0_Kept.a g0_Kept.len g0_Kept.cap)]), .v (.int .i64 v0)]) ((args_cons _ (args_cons _ args_nil))) (by kernel_rfl) (sh_postroadref06_Out.is CV g0_M_N g0_M_Arcs g0_Kept v0 w (fun v w' => R (.returned v) w')) h
def sh_postroadref06_Out.o : CVT → List X → (Value → World → Prop) → World → Prop
  | CV, [.v (.agg ⟨[.int .i64 g0_M_N, .slice g0_M_Arcs_a g0_M_Arcs_l g0_M_Arcs_c, .slice g0_Kept_a g0_Kept_l g0_Kept_c]⟩), .v (.int .i64 v0)], K, w => sh_postroadref06_Out g0_M_N ⟨g0_M_Arcs_a, g0_M_Arcs_l, g0_M_Arcs_c⟩ ⟨g0_Kept_a, g0_Kept_l, g0_Kept_c⟩ v0 (fun r0 w' => K (.slice r0.a r0.len r0.cap) w') w
  | _, _, _, _ => False
def sh_postroadref06_Out.q : CVT → List X → World → (Value → Prop) → Prop
  | CV, [.v (.agg ⟨[.int .i64 g0_M_N, .slice g0_M_Arcs_a g0_M_Arcs_l g0_M_Arcs_c, .slice g0_Kept_a g0_Kept_l g0_Kept_c]⟩), .v (.int .i64 v0)], w, K => Quiet (SV) (fun r => (.slice r.a r.len r.cap)) (fun K1 w' => sh_postroadref06_Out g0_M_N ⟨g0_M_Arcs_a, g0_M_Arcs_l, g0_M_Arcs_c⟩ ⟨g0_Kept_a, g0_Kept_l, g0_Kept_c⟩ v0 (fun r0 w'' => K1 r0 w'') w') w (fun r => K (.slice r.a r.len r.cap))
  | _, _, _, _ => False
noncomputable def cx_postroadref06_Out : Cx := Cx.add Try.prog cx_postroadref06_put 54 sh_postroadref06_Out.o sh_postroadref06_Out.q
theorem cx_postroadref06_Out.ok : CxOk cx_postroadref06_Out := by
  refine CxOk.add cx_postroadref06_put.ok rfl (fun CV hcv xs K w hx h => ?_) (fun CV hcv xs K w hx h => ?_)
  · unfold sh_postroadref06_Out.o at h; split at h
    · rename_i g0_M_N g0_M_Arcs_a g0_M_Arcs_l g0_M_Arcs_c g0_Kept_a g0_Kept_l g0_Kept_c v0; exact sh_postroadref06_Out.calls CV g0_M_N ⟨g0_M_Arcs_a, g0_M_Arcs_l, g0_M_Arcs_c⟩ ⟨g0_Kept_a, g0_Kept_l, g0_Kept_c⟩ v0 hcv h
    · exact h.elim
  · unfold sh_postroadref06_Out.q at h; split at h
    · rename_i g0_M_N g0_M_Arcs_a g0_M_Arcs_l g0_M_Arcs_c g0_Kept_a g0_Kept_l g0_Kept_c v0; obtain ⟨r, h1, h2⟩ := h; exact ⟨_, h2, fun w' e => sh_postroadref06_Out.calls CV g0_M_N ⟨g0_M_Arcs_a, g0_M_Arcs_l, g0_M_Arcs_c⟩ ⟨g0_Kept_a, g0_Kept_l, g0_Kept_c⟩ v0 hcv (h1 w' e)⟩
    · exact h.elim
def sh_postroadref08_New.plan : Plan := (.seq .o (.seq .o (.join [.box 3 [(.int .i64), .slice, .slice, .slice]] [] (.seq .o (.block (.loop [.slot 4 (.int .i64), .box 3 [(.int .i64), .slice, .slice, .slice]] [] (.seq (.seq .o (.cond .o .o)) (.join [.box 3 [(.int .i64), .slice, .slice, .slice]] [] (.block (.seq .o (.seq .o (.seq .o (.seq .o (.block (.loop [.slot 6 (.int .i64), .box 3 [(.int .i64), .slice, .slice, .slice]] [] (.seq (.seq .o (.cond .o .o)) (.seq (.block (.draw [] [.pure, .loc, .pure, .pure, .pure, .pure, .pure, .quiet, .pure, .pure, .pure, .pure, .quiet, .pure, .pure, .pure, .pure, .quiet, .pure, .pure, .new, .big, .pure, .big] [0, 1, 2, 3, 4, 5, 6, 7, 8, 9, 10, 11, 12, 13, 14, 15, 16, 17, 18, 19, 20, 21, 22, 23])) .o))))))))) .o))))) (.seq .o .o))))
theorem sh_postroadref08_New.is (CV : CVT) (g0_M_N : Int) (g0_M_Arcs : SV) (g0_Kept : SV) (w : World) (R : Value → World → Prop) : sh_postroadref08_New g0_M_N g0_M_Arcs g0_Kept (fun r0 r1 r2 r3 w' => R (.agg #[(.int .i64 r0), (.slice r1.a r1.len r1.cap), (.slice r2.a r2.len r2.cap), (.slice r3.a r3.len r3.cap)]) w') w = denF (cx_postroadref06_Out.with CV) Try.f46 sh_postroadref08_New.plan [.v (.agg #[(.int .i64 g0_M_N), (.slice g0_M_Arcs.a g0_M_Arcs.len g0_M_Arcs.cap), (.slice g0_Kept.a g0_Kept.len g0_Kept.cap)])] w R := by kernel_rfl
theorem sh_postroadref08_New.calls (CV : CVT) (g0_M_N : Int) (g0_M_Arcs : SV) (g0_Kept : SV) (hcv : CVOk Try.prog CV) {w : World} {R : Ending → World → Prop} (h : sh_postroadref08_New g0_M_N g0_M_Arcs g0_Kept (fun r0 r1 r2 r3 w' => R (.returned (.agg #[(.int .i64 r0), (.slice r1.a r1.len r1.cap), (.slice r2.a r2.len r2.cap), (.slice r3.a r3.len r3.cap)])) w') w) : Calls Try.prog 46 #[(.agg #[(.int .i64 g0_M_N), (.slice g0_M_Arcs.a g0_M_Arcs.len g0_M_Arcs.cap), (.slice g0_Kept.a g0_Kept.len g0_Kept.cap)])] w R :=
  calls_is (cx := cx_postroadref06_Out.with CV) mixed_Try (cx_postroadref06_Out.ok.with CV) hcv Try.func46 sh_postroadref08_New.plan (xs := [.v (.agg #[(.int .i64 g0_M_N), (.slice g0_M_Arcs.a g0_M_Arcs.len g0_M_Arcs.cap), (.slice g0_Kept.a g0_Kept.len g0_Kept.cap)])]) ((args_cons _ args_nil)) (by kernel_rfl) (sh_postroadref08_New.is CV g0_M_N g0_M_Arcs g0_Kept w (fun v w' => R (.returned v) w')) h
def sh_postroadref08_New.o : CVT → List X → (Value → World → Prop) → World → Prop
  | CV, [.v (.agg ⟨[.int .i64 g0_M_N, .slice g0_M_Arcs_a g0_M_Arcs_l g0_M_Arcs_c, .slice g0_Kept_a g0_Kept_l g0_Kept_c]⟩)], K, w => sh_postroadref08_New g0_M_N ⟨g0_M_Arcs_a, g0_M_Arcs_l, g0_M_Arcs_c⟩ ⟨g0_Kept_a, g0_Kept_l, g0_Kept_c⟩ (fun r0 r1 r2 r3 w' => K (.agg #[(.int .i64 r0), (.slice r1.a r1.len r1.cap), (.slice r2.a r2.len r2.cap), (.slice r3.a r3.len r3.cap)]) w') w
  | _, _, _, _ => False
def sh_postroadref08_New.q : CVT → List X → World → (Value → Prop) → Prop
  | CV, [.v (.agg ⟨[.int .i64 g0_M_N, .slice g0_M_Arcs_a g0_M_Arcs_l g0_M_Arcs_c, .slice g0_Kept_a g0_Kept_l g0_Kept_c]⟩)], w, K => Quiet (Int × SV × SV × SV) (fun r => (.agg #[(.int .i64 r.1), (.slice r.2.1.a r.2.1.len r.2.1.cap), (.slice r.2.2.1.a r.2.2.1.len r.2.2.1.cap), (.slice r.2.2.2.a r.2.2.2.len r.2.2.2.cap)])) (fun K1 w' => sh_postroadref08_New g0_M_N ⟨g0_M_Arcs_a, g0_M_Arcs_l, g0_M_Arcs_c⟩ ⟨g0_Kept_a, g0_Kept_l, g0_Kept_c⟩ (fun r0 r1 r2 r3 w'' => K1 (r0, r1, r2, r3) w'') w') w (fun r => K (.agg #[(.int .i64 r.1), (.slice r.2.1.a r.2.1.len r.2.1.cap), (.slice r.2.2.1.a r.2.2.1.len r.2.2.1.cap), (.slice r.2.2.2.a r.2.2.2.len r.2.2.2.cap)]))
  | _, _, _, _ => False
noncomputable def cx_postroadref08_New : Cx := Cx.add Try.prog cx_postroadref06_Out 46 sh_postroadref08_New.o sh_postroadref08_New.q
theorem cx_postroadref08_New.ok : CxOk cx_postroadref08_New := by
  refine CxOk.add cx_postroadref06_Out.ok rfl (fun CV hcv xs K w hx h => ?_) (fun CV hcv xs K w hx h => ?_)
  · unfold sh_postroadref08_New.o at h; split at h
    · rename_i g0_M_N g0_M_Arcs_a g0_M_Arcs_l g0_M_Arcs_c g0_Kept_a g0_Kept_l g0_Kept_c; exact sh_postroadref08_New.calls CV g0_M_N ⟨g0_M_Arcs_a, g0_M_Arcs_l, g0_M_Arcs_c⟩ ⟨g0_Kept_a, g0_Kept_l, g0_Kept_c⟩ hcv h
    · exact h.elim
  · unfold sh_postroadref08_New.q at h; split at h
    · rename_i g0_M_N g0_M_Arcs_a g0_M_Arcs_l g0_M_Arcs_c g0_Kept_a g0_Kept_l g0_Kept_c; obtain ⟨r, h1, h2⟩ := h; exact ⟨_, h2, fun w' e => sh_postroadref08_New.calls CV g0_M_N ⟨g0_M_Arcs_a, g0_M_Arcs_l, g0_M_Arcs_c⟩ ⟨g0_Kept_a, g0_Kept_l, g0_Kept_c⟩ hcv (h1 w' e)⟩
    · exact h.elim
def sh_postroadref08_Places.plan : Plan := (.seq .o (.seq .o (.seq (.seq .o (.block (.loop [.slot 3 .slice, .slot 4 (.int .i64)] [] (.seq (.seq .o (.cond .o .o)) (.join [.slot 3 .slice] [] (.block (.seq .o (.cond .o .o))) .o))))) (.seq .o .o))))
theorem sh_postroadref08_Places.is (CV : CVT) (t0_N : Int) (t0_In : SV) (t0_L : SV) (t0_Lost : SV) (w : World) (R : Value → World → Prop) : sh_postroadref08_Places t0_N t0_In t0_L t0_Lost (fun r0 w' => R (.slice r0.a r0.len r0.cap) w') w = denF (cx_postroadref08_New.with CV) Try.f55 sh_postroadref08_Places.plan [.v (.agg #[(.int .i64 t0_N), (.slice t0_In.a t0_In.len t0_In.cap), (.slice t0_L.a t0_L.len t0_L.cap), (.slice t0_Lost.a t0_Lost.len t0_Lost.cap)])] w R := by kernel_rfl
theorem sh_postroadref08_Places.calls (CV : CVT) (t0_N : Int) (t0_In : SV) (t0_L : SV) (t0_Lost : SV) (hcv : CVOk Try.prog CV) {w : World} {R : Ending → World → Prop} (h : sh_postroadref08_Places t0_N t0_In t0_L t0_Lost (fun r0 w' => R (.returned (.slice r0.a r0.len r0.cap)) w') w) : Calls Try.prog 55 #[(.agg #[(.int .i64 t0_N), (.slice t0_In.a t0_In.len t0_In.cap), (.slice t0_L.a t0_L.len t0_L.cap), (.slice t0_Lost.a t0_Lost.len t0_Lost.cap)])] w R :=
  calls_is (cx := cx_postroadref08_New.with CV) mixed_Try (cx_postroadref08_New.ok.with CV) hcv Try.func55 sh_postroadref08_Places.plan (xs := [.v (.agg #[(.int .i64 t0_N), (.slice t0_In.a t0_In.len t0_In.cap), (.slice t0_L.a t0_L.len t0_L.cap), (.slice t0_Lost.a t0_Lost.len t0_Lost.cap)])]) ((args_cons _ args_nil)) (by kernel_rfl) (sh_postroadref08_Places.is CV t0_N t0_In t0_L t0_Lost w (fun v w' => R (.returned v) w')) h
def sh_postroadref08_Places.o : CVT → List X → (Value → World → Prop) → World → Prop
  | CV, [.v (.agg ⟨[.int .i64 t0_N, .slice t0_In_a t0_In_l t0_In_c, .slice t0_L_a t0_L_l t0_L_c, .slice t0_Lost_a t0_Lost_l t0_Lost_c]⟩)], K, w => sh_postroadref08_Places t0_N ⟨t0_In_a, t0_In_l, t0_In_c⟩ ⟨t0_L_a, t0_L_l, t0_L_c⟩ ⟨t0_Lost_a, t0_Lost_l, t0_Lost_c⟩ (fun r0 w' => K (.slice r0.a r0.len r0.cap) w') w
  | _, _, _, _ => False
def sh_postroadref08_Places.q : CVT → List X → World → (Value → Prop) → Prop
  | CV, [.v (.agg ⟨[.int .i64 t0_N, .slice t0_In_a t0_In_l t0_In_c, .slice t0_L_a t0_L_l t0_L_c, .slice t0_Lost_a t0_Lost_l t0_Lost_c]⟩)], w, K => Quiet (SV) (fun r => (.slice r.a r.len r.cap)) (fun K1 w' => sh_postroadref08_Places t0_N ⟨t0_In_a, t0_In_l, t0_In_c⟩ ⟨t0_L_a, t0_L_l, t0_L_c⟩ ⟨t0_Lost_a, t0_Lost_l, t0_Lost_c⟩ (fun r0 w'' => K1 r0 w'') w') w (fun r => K (.slice r.a r.len r.cap))
  | _, _, _, _ => False
noncomputable def cx_postroadref08_Places : Cx := Cx.add Try.prog cx_postroadref08_New 55 sh_postroadref08_Places.o sh_postroadref08_Places.q
theorem cx_postroadref08_Places.ok : CxOk cx_postroadref08_Places := by
  refine CxOk.add cx_postroadref08_New.ok rfl (fun CV hcv xs K w hx h => ?_) (fun CV hcv xs K w hx h => ?_)
  · unfold sh_postroadref08_Places.o at h; split at h
    · rename_i t0_N t0_In_a t0_In_l t0_In_c t0_L_a t0_L_l t0_L_c t0_Lost_a t0_Lost_l t0_Lost_c; exact sh_postroadref08_Places.calls CV t0_N ⟨t0_In_a, t0_In_l, t0_In_c⟩ ⟨t0_L_a, t0_L_l, t0_L_c⟩ ⟨t0_Lost_a, t0_Lost_l, t0_Lost_c⟩ hcv h
    · exact h.elim
  · unfold sh_postroadref08_Places.q at h; split at h
    · rename_i t0_N t0_In_a t0_In_l t0_In_c t0_L_a t0_L_l t0_L_c t0_Lost_a t0_Lost_l t0_Lost_c; obtain ⟨r, h1, h2⟩ := h; exact ⟨_, h2, fun w' e => sh_postroadref08_Places.calls CV t0_N ⟨t0_In_a, t0_In_l, t0_In_c⟩ ⟨t0_L_a, t0_L_l, t0_L_c⟩ ⟨t0_Lost_a, t0_Lost_l, t0_Lost_c⟩ hcv (h1 w' e)⟩
    · exact h.elim
def sh_postroadref08_is.plan : Plan := (.seq .o (.seq .o .o))
theorem sh_postroadref08_is.is (CV : CVT) (t0_N : Int) (t0_In : SV) (t0_L : SV) (t0_Lost : SV) (v0 : Int) (w : World) (R : Value → World → Prop) : sh_postroadref08_is t0_N t0_In t0_L t0_Lost v0 (fun r0 w' => R (.bool r0) w') w = denF (cx_postroadref08_Places.with CV) Try.f58 sh_postroadref08_is.plan [.v (.agg #[(.int .i64 t0_N), (.slice t0_In.a t0_In.len t0_In.cap), (.slice t0_L.a t0_L.len t0_L.cap), (.slice t0_Lost.a t0_Lost.len t0_Lost.cap)]), .v (.int .i64 v0)] w R := by kernel_rfl
theorem sh_postroadref08_is.calls (CV : CVT) (t0_N : Int) (t0_In : SV) (t0_L : SV) (t0_Lost : SV) (v0 : Int) (hcv : CVOk Try.prog CV) {w : World} {R : Ending → World → Prop} (h : sh_postroadref08_is t0_N t0_In t0_L t0_Lost v0 (fun r0 w' => R (.returned (.bool r0)) w') w) : Calls Try.prog 58 #[(.agg #[(.int .i64 t0_N), (.slice t0_In.a t0_In.len t0_In.cap), (.slice t0_L.a t0_L.len t0_L.cap), (.slice t0_Lost.a t0_Lost.len t0_Lost.cap)]), (.int .i64 v0)] w R :=
  calls_is (cx := cx_postroadref08_Places.with CV) mixed_Try (cx_postroadref08_Places.ok.with CV) hcv Try.func58 sh_postroadref08_is.plan (xs := [.v (.agg #[(.int .i64 t0_N), (.slice t0_In.a t0_In.len t0_In.cap), (.slice t0_L.a t0_L.len t0_L.cap), (.slice t0_Lost.a t0_Lost.len t0_Lost.cap)]), .v (.int .i64 v0)]) ((args_cons _ (args_cons _ args_nil))) (by kernel_rfl) (sh_postroadref08_is.is CV t0_N t0_In t0_L t0_Lost v0 w (fun v w' => R (.returned v) w')) h
def sh_postroadref08_is.o : CVT → List X → (Value → World → Prop) → World → Prop
  | CV, [.v (.agg ⟨[.int .i64 t0_N, .slice t0_In_a t0_In_l t0_In_c, .slice t0_L_a t0_L_l t0_L_c, .slice t0_Lost_a t0_Lost_l t0_Lost_c]⟩), .v (.int .i64 v0)], K, w => sh_postroadref08_is t0_N ⟨t0_In_a, t0_In_l, t0_In_c⟩ ⟨t0_L_a, t0_L_l, t0_L_c⟩ ⟨t0_Lost_a, t0_Lost_l, t0_Lost_c⟩ v0 (fun r0 w' => K (.bool r0) w') w
  | _, _, _, _ => False
def sh_postroadref08_is.q : CVT → List X → World → (Value → Prop) → Prop
  | CV, [.v (.agg ⟨[.int .i64 t0_N, .slice t0_In_a t0_In_l t0_In_c, .slice t0_L_a t0_L_l t0_L_c, .slice t0_Lost_a t0_Lost_l t0_Lost_c]⟩), .v (.int .i64 v0)], w, K => Quiet (Bool) (fun r => (.bool r)) (fun K1 w' => sh_postroadref08_is t0_N ⟨t0_In_a, t0_In_l, t0_In_c⟩ ⟨t0_L_a, t0_L_l, t0_L_c⟩ ⟨t0_Lost_a, t0_Lost_l, t0_Lost_c⟩ v0 (fun r0 w'' => K1 r0 w'') w') w (fun r => K (.bool r))
  | _, _, _, _ => False
noncomputable def cx_postroadref08_is : Cx := Cx.add Try.prog cx_postroadref08_Places 58 sh_postroadref08_is.o sh_postroadref08_is.q
theorem cx_postroadref08_is.ok : CxOk cx_postroadref08_is := by
  refine CxOk.add cx_postroadref08_Places.ok rfl (fun CV hcv xs K w hx h => ?_) (fun CV hcv xs K w hx h => ?_)
  · unfold sh_postroadref08_is.o at h; split at h
    · rename_i t0_N t0_In_a t0_In_l t0_In_c t0_L_a t0_L_l t0_L_c t0_Lost_a t0_Lost_l t0_Lost_c v0; exact sh_postroadref08_is.calls CV t0_N ⟨t0_In_a, t0_In_l, t0_In_c⟩ ⟨t0_L_a, t0_L_l, t0_L_c⟩ ⟨t0_Lost_a, t0_Lost_l, t0_Lost_c⟩ v0 hcv h
    · exact h.elim
  · unfold sh_postroadref08_is.q at h; split at h
    · rename_i t0_N t0_In_a t0_In_l t0_In_c t0_L_a t0_L_l t0_L_c t0_Lost_a t0_Lost_l t0_Lost_c v0; obtain ⟨r, h1, h2⟩ := h; exact ⟨_, h2, fun w' e => sh_postroadref08_is.calls CV t0_N ⟨t0_In_a, t0_In_l, t0_In_c⟩ ⟨t0_L_a, t0_L_l, t0_L_c⟩ ⟨t0_Lost_a, t0_Lost_l, t0_Lost_c⟩ v0 hcv (h1 w' e)⟩
    · exact h.elim
def sh_postroadref08_Way.plan : Plan := (.seq .o (.join [.box 6 [(.int .i64), (.int .i64), (.int .i64)]] [] (.seq .o (.block (.loop [.slot 8 (.int .i64), .box 6 [(.int .i64), (.int .i64), (.int .i64)]] [] (.seq (.seq .o (.cond .o .o)) (.join [.box 6 [(.int .i64), (.int .i64), (.int .i64)]] [] (.block (.seq .o (.cond (.seq .o .o) .o))) .o))))) (.seq .o .o)))
theorem sh_postroadref08_Way.is (CV : CVT) (t0_N : Int) (t0_In : SV) (t0_L : SV) (t0_Lost : SV) (u0 : Int) (v0 : Int) (w : World) (R : Value → World → Prop) : sh_postroadref08_Way t0_N t0_In t0_L t0_Lost u0 v0 (fun r0 r1 r2 r3 w' => R (.tuple #[(.agg #[(.int .i64 r0), (.int .i64 r1), (.int .i64 r2)]), (.bool r3)]) w') w = denF (cx_postroadref08_is.with CV) Try.f51 sh_postroadref08_Way.plan [.v (.agg #[(.int .i64 t0_N), (.slice t0_In.a t0_In.len t0_In.cap), (.slice t0_L.a t0_L.len t0_L.cap), (.slice t0_Lost.a t0_Lost.len t0_Lost.cap)]), .v (.int .i64 u0), .v (.int .i64 v0)] w R := by kernel_rfl
theorem sh_postroadref08_Way.calls (CV : CVT) (t0_N : Int) (t0_In : SV) (t0_L : SV) (t0_Lost : SV) (u0 : Int) (v0 : Int) (hcv : CVOk Try.prog CV) {w : World} {R : Ending → World → Prop} (h : sh_postroadref08_Way t0_N t0_In t0_L t0_Lost u0 v0 (fun r0 r1 r2 r3 w' => R (.returned (.tuple #[(.agg #[(.int .i64 r0), (.int .i64 r1), (.int .i64 r2)]), (.bool r3)])) w') w) : Calls Try.prog 51 #[(.agg #[(.int .i64 t0_N), (.slice t0_In.a t0_In.len t0_In.cap), (.slice t0_L.a t0_L.len t0_L.cap), (.slice t0_Lost.a t0_Lost.len t0_Lost.cap)]), (.int .i64 u0), (.int .i64 v0)] w R :=
  calls_is (cx := cx_postroadref08_is.with CV) mixed_Try (cx_postroadref08_is.ok.with CV) hcv Try.func51 sh_postroadref08_Way.plan (xs := [.v (.agg #[(.int .i64 t0_N), (.slice t0_In.a t0_In.len t0_In.cap), (.slice t0_L.a t0_L.len t0_L.cap), (.slice t0_Lost.a t0_Lost.len t0_Lost.cap)]), .v (.int .i64 u0), .v (.int .i64 v0)]) ((args_cons _ (args_cons _ (args_cons _ args_nil)))) (by kernel_rfl) (sh_postroadref08_Way.is CV t0_N t0_In t0_L t0_Lost u0 v0 w (fun v w' => R (.returned v) w')) h
def sh_postroadref08_Way.o : CVT → List X → (Value → World → Prop) → World → Prop
  | CV, [.v (.agg ⟨[.int .i64 t0_N, .slice t0_In_a t0_In_l t0_In_c, .slice t0_L_a t0_L_l t0_L_c, .slice t0_Lost_a t0_Lost_l t0_Lost_c]⟩), .v (.int .i64 u0), .v (.int .i64 v0)], K, w => sh_postroadref08_Way t0_N ⟨t0_In_a, t0_In_l, t0_In_c⟩ ⟨t0_L_a, t0_L_l, t0_L_c⟩ ⟨t0_Lost_a, t0_Lost_l, t0_Lost_c⟩ u0 v0 (fun r0 r1 r2 r3 w' => K (.tuple #[(.agg #[(.int .i64 r0), (.int .i64 r1), (.int .i64 r2)]), (.bool r3)]) w') w
  | _, _, _, _ => False
def sh_postroadref08_Way.q : CVT → List X → World → (Value → Prop) → Prop
  | CV, [.v (.agg ⟨[.int .i64 t0_N, .slice t0_In_a t0_In_l t0_In_c, .slice t0_L_a t0_L_l t0_L_c, .slice t0_Lost_a t0_Lost_l t0_Lost_c]⟩), .v (.int .i64 u0), .v (.int .i64 v0)], w, K => Quiet (Int × Int × Int × Bool) (fun r => (.tuple #[(.agg #[(.int .i64 r.1), (.int .i64 r.2.1), (.int .i64 r.2.2.1)]), (.bool r.2.2.2)])) (fun K1 w' => sh_postroadref08_Way t0_N ⟨t0_In_a, t0_In_l, t0_In_c⟩ ⟨t0_L_a, t0_L_l, t0_L_c⟩ ⟨t0_Lost_a, t0_Lost_l, t0_Lost_c⟩ u0 v0 (fun r0 r1 r2 r3 w'' => K1 (r0, r1, r2, r3) w'') w') w (fun r => K (.tuple #[(.agg #[(.int .i64 r.1), (.int .i64 r.2.1), (.int .i64 r.2.2.1)]), (.bool r.2.2.2)]))
  | _, _, _, _ => False
noncomputable def cx_postroadref08_Way : Cx := Cx.add Try.prog cx_postroadref08_is 51 sh_postroadref08_Way.o sh_postroadref08_Way.q
theorem cx_postroadref08_Way.ok : CxOk cx_postroadref08_Way := by
  refine CxOk.add cx_postroadref08_is.ok rfl (fun CV hcv xs K w hx h => ?_) (fun CV hcv xs K w hx h => ?_)
  · unfold sh_postroadref08_Way.o at h; split at h
    · rename_i t0_N t0_In_a t0_In_l t0_In_c t0_L_a t0_L_l t0_L_c t0_Lost_a t0_Lost_l t0_Lost_c u0 v0; exact sh_postroadref08_Way.calls CV t0_N ⟨t0_In_a, t0_In_l, t0_In_c⟩ ⟨t0_L_a, t0_L_l, t0_L_c⟩ ⟨t0_Lost_a, t0_Lost_l, t0_Lost_c⟩ u0 v0 hcv h
    · exact h.elim
  · unfold sh_postroadref08_Way.q at h; split at h
    · rename_i t0_N t0_In_a t0_In_l t0_In_c t0_L_a t0_L_l t0_L_c t0_Lost_a t0_Lost_l t0_Lost_c u0 v0; obtain ⟨r, h1, h2⟩ := h; exact ⟨_, h2, fun w' e => sh_postroadref08_Way.calls CV t0_N ⟨t0_In_a, t0_In_l, t0_In_c⟩ ⟨t0_L_a, t0_L_l, t0_L_c⟩ ⟨t0_Lost_a, t0_Lost_l, t0_Lost_c⟩ u0 v0 hcv (h1 w' e)⟩
    · exact h.elim
def sh_postroadref08_Ins.plan : Plan := (.seq .o (.seq .o (.seq (.seq .o (.block (.loop [.slot 5 .slice, .slot 6 (.int .i64)] [] (.seq (.seq .o (.cond .o .o)) (.join [.slot 5 .slice] [] (.block (.seq .o (.seq .o (.cond .o .o)))) .o))))) (.seq .o .o))))
theorem sh_postroadref08_Ins.is (CV : CVT) (t0_N : Int) (t0_In : SV) (t0_L : SV) (t0_Lost : SV) (v0 : Int) (w : World) (R : Value → World → Prop) : sh_postroadref08_Ins t0_N t0_In t0_L t0_Lost v0 (fun r0 w' => R (.slice r0.a r0.len r0.cap) w') w = denF (cx_postroadref08_Way.with CV) Try.f52 sh_postroadref08_Ins.plan [.v (.agg #[(.int .i64 t0_N), (.slice t0_In.a t0_In.len t0_In.cap), (.slice t0_L.a t0_L.len t0_L.cap), (.slice t0_Lost.a t0_Lost.len t0_Lost.cap)]), .v (.int .i64 v0)] w R := by kernel_rfl
theorem sh_postroadref08_Ins.calls (CV : CVT) (t0_N : Int) (t0_In : SV) (t0_L : SV) (t0_Lost : SV) (v0 : Int) (hcv : CVOk Try.prog CV) {w : World} {R : Ending → World → Prop} (h : sh_postroadref08_Ins t0_N t0_In t0_L t0_Lost v0 (fun r0 w' => R (.returned (.slice r0.a r0.len r0.cap)) w') w) : Calls Try.prog 52 #[(.agg #[(.int .i64 t0_N), (.slice t0_In.a t0_In.len t0_In.cap), (.slice t0_L.a t0_L.len t0_L.cap), (.slice t0_Lost.a t0_Lost.len t0_Lost.cap)]), (.int .i64 v0)] w R :=
  calls_is (cx := cx_postroadref08_Way.with CV) mixed_Try (cx_postroadref08_Way.ok.with CV) hcv Try.func52 sh_postroadref08_Ins.plan (xs := [.v (.agg #[(.int .i64 t0_N), (.slice t0_In.a t0_In.len t0_In.cap), (.slice t0_L.a t0_L.len t0_L.cap), (.slice t0_Lost.a t0_Lost.len t0_Lost.cap)]), .v (.int .i64 v0)]) ((args_cons _ (args_cons _ args_nil))) (by kernel_rfl) (sh_postroadref08_Ins.is CV t0_N t0_In t0_L t0_Lost v0 w (fun v w' => R (.returned v) w')) h
def sh_postroadref08_Ins.o : CVT → List X → (Value → World → Prop) → World → Prop
  | CV, [.v (.agg ⟨[.int .i64 t0_N, .slice t0_In_a t0_In_l t0_In_c, .slice t0_L_a t0_L_l t0_L_c, .slice t0_Lost_a t0_Lost_l t0_Lost_c]⟩), .v (.int .i64 v0)], K, w => sh_postroadref08_Ins t0_N ⟨t0_In_a, t0_In_l, t0_In_c⟩ ⟨t0_L_a, t0_L_l, t0_L_c⟩ ⟨t0_Lost_a, t0_Lost_l, t0_Lost_c⟩ v0 (fun r0 w' => K (.slice r0.a r0.len r0.cap) w') w
  | _, _, _, _ => False
def sh_postroadref08_Ins.q : CVT → List X → World → (Value → Prop) → Prop
  | CV, [.v (.agg ⟨[.int .i64 t0_N, .slice t0_In_a t0_In_l t0_In_c, .slice t0_L_a t0_L_l t0_L_c, .slice t0_Lost_a t0_Lost_l t0_Lost_c]⟩), .v (.int .i64 v0)], w, K => Quiet (SV) (fun r => (.slice r.a r.len r.cap)) (fun K1 w' => sh_postroadref08_Ins t0_N ⟨t0_In_a, t0_In_l, t0_In_c⟩ ⟨t0_L_a, t0_L_l, t0_L_c⟩ ⟨t0_Lost_a, t0_Lost_l, t0_Lost_c⟩ v0 (fun r0 w'' => K1 r0 w'') w') w (fun r => K (.slice r.a r.len r.cap))
  | _, _, _, _ => False
noncomputable def cx_postroadref08_Ins : Cx := Cx.add Try.prog cx_postroadref08_Way 52 sh_postroadref08_Ins.o sh_postroadref08_Ins.q
theorem cx_postroadref08_Ins.ok : CxOk cx_postroadref08_Ins := by
  refine CxOk.add cx_postroadref08_Way.ok rfl (fun CV hcv xs K w hx h => ?_) (fun CV hcv xs K w hx h => ?_)
  · unfold sh_postroadref08_Ins.o at h; split at h
    · rename_i t0_N t0_In_a t0_In_l t0_In_c t0_L_a t0_L_l t0_L_c t0_Lost_a t0_Lost_l t0_Lost_c v0; exact sh_postroadref08_Ins.calls CV t0_N ⟨t0_In_a, t0_In_l, t0_In_c⟩ ⟨t0_L_a, t0_L_l, t0_L_c⟩ ⟨t0_Lost_a, t0_Lost_l, t0_Lost_c⟩ v0 hcv h
    · exact h.elim
  · unfold sh_postroadref08_Ins.q at h; split at h
    · rename_i t0_N t0_In_a t0_In_l t0_In_c t0_L_a t0_L_l t0_L_c t0_Lost_a t0_Lost_l t0_Lost_c v0; obtain ⟨r, h1, h2⟩ := h; exact ⟨_, h2, fun w' e => sh_postroadref08_Ins.calls CV t0_N ⟨t0_In_a, t0_In_l, t0_In_c⟩ ⟨t0_L_a, t0_L_l, t0_L_c⟩ ⟨t0_Lost_a, t0_Lost_l, t0_Lost_c⟩ v0 hcv (h1 w' e)⟩
    · exact h.elim
def sh_postroadref08_Outs.plan : Plan := (.seq .o (.seq .o (.seq (.seq .o (.block (.loop [.slot 5 .slice, .slot 6 (.int .i64)] [] (.seq (.seq .o (.cond .o .o)) (.join [.slot 5 .slice] [] (.block (.seq .o (.seq .o (.cond .o .o)))) .o))))) (.seq .o .o))))
theorem sh_postroadref08_Outs.is (CV : CVT) (t0_N : Int) (t0_In : SV) (t0_L : SV) (t0_Lost : SV) (v0 : Int) (w : World) (R : Value → World → Prop) : sh_postroadref08_Outs t0_N t0_In t0_L t0_Lost v0 (fun r0 w' => R (.slice r0.a r0.len r0.cap) w') w = denF (cx_postroadref08_Ins.with CV) Try.f50 sh_postroadref08_Outs.plan [.v (.agg #[(.int .i64 t0_N), (.slice t0_In.a t0_In.len t0_In.cap), (.slice t0_L.a t0_L.len t0_L.cap), (.slice t0_Lost.a t0_Lost.len t0_Lost.cap)]), .v (.int .i64 v0)] w R := by kernel_rfl
theorem sh_postroadref08_Outs.calls (CV : CVT) (t0_N : Int) (t0_In : SV) (t0_L : SV) (t0_Lost : SV) (v0 : Int) (hcv : CVOk Try.prog CV) {w : World} {R : Ending → World → Prop} (h : sh_postroadref08_Outs t0_N t0_In t0_L t0_Lost v0 (fun r0 w' => R (.returned (.slice r0.a r0.len r0.cap)) w') w) : Calls Try.prog 50 #[(.agg #[(.int .i64 t0_N), (.slice t0_In.a t0_In.len t0_In.cap), (.slice t0_L.a t0_L.len t0_L.cap), (.slice t0_Lost.a t0_Lost.len t0_Lost.cap)]), (.int .i64 v0)] w R :=
  calls_is (cx := cx_postroadref08_Ins.with CV) mixed_Try (cx_postroadref08_Ins.ok.with CV) hcv Try.func50 sh_postroadref08_Outs.plan (xs := [.v (.agg #[(.int .i64 t0_N), (.slice t0_In.a t0_In.len t0_In.cap), (.slice t0_L.a t0_L.len t0_L.cap), (.slice t0_Lost.a t0_Lost.len t0_Lost.cap)]), .v (.int .i64 v0)]) ((args_cons _ (args_cons _ args_nil))) (by kernel_rfl) (sh_postroadref08_Outs.is CV t0_N t0_In t0_L t0_Lost v0 w (fun v w' => R (.returned v) w')) h
def sh_postroadref08_Outs.o : CVT → List X → (Value → World → Prop) → World → Prop
  | CV, [.v (.agg ⟨[.int .i64 t0_N, .slice t0_In_a t0_In_l t0_In_c, .slice t0_L_a t0_L_l t0_L_c, .slice t0_Lost_a t0_Lost_l t0_Lost_c]⟩), .v (.int .i64 v0)], K, w => sh_postroadref08_Outs t0_N ⟨t0_In_a, t0_In_l, t0_In_c⟩ ⟨t0_L_a, t0_L_l, t0_L_c⟩ ⟨t0_Lost_a, t0_Lost_l, t0_Lost_c⟩ v0 (fun r0 w' => K (.slice r0.a r0.len r0.cap) w') w
  | _, _, _, _ => False
def sh_postroadref08_Outs.q : CVT → List X → World → (Value → Prop) → Prop
  | CV, [.v (.agg ⟨[.int .i64 t0_N, .slice t0_In_a t0_In_l t0_In_c, .slice t0_L_a t0_L_l t0_L_c, .slice t0_Lost_a t0_Lost_l t0_Lost_c]⟩), .v (.int .i64 v0)], w, K => Quiet (SV) (fun r => (.slice r.a r.len r.cap)) (fun K1 w' => sh_postroadref08_Outs t0_N ⟨t0_In_a, t0_In_l, t0_In_c⟩ ⟨t0_L_a, t0_L_l, t0_L_c⟩ ⟨t0_Lost_a, t0_Lost_l, t0_Lost_c⟩ v0 (fun r0 w'' => K1 r0 w'') w') w (fun r => K (.slice r.a r.len r.cap))
  | _, _, _, _ => False
noncomputable def cx_postroadref08_Outs : Cx := Cx.add Try.prog cx_postroadref08_Ins 50 sh_postroadref08_Outs.o sh_postroadref08_Outs.q
theorem cx_postroadref08_Outs.ok : CxOk cx_postroadref08_Outs := by
  refine CxOk.add cx_postroadref08_Ins.ok rfl (fun CV hcv xs K w hx h => ?_) (fun CV hcv xs K w hx h => ?_)
  · unfold sh_postroadref08_Outs.o at h; split at h
    · rename_i t0_N t0_In_a t0_In_l t0_In_c t0_L_a t0_L_l t0_L_c t0_Lost_a t0_Lost_l t0_Lost_c v0; exact sh_postroadref08_Outs.calls CV t0_N ⟨t0_In_a, t0_In_l, t0_In_c⟩ ⟨t0_L_a, t0_L_l, t0_L_c⟩ ⟨t0_Lost_a, t0_Lost_l, t0_Lost_c⟩ v0 hcv h
    · exact h.elim
  · unfold sh_postroadref08_Outs.q at h; split at h
    · rename_i t0_N t0_In_a t0_In_l t0_In_c t0_L_a t0_L_l t0_L_c t0_Lost_a t0_Lost_l t0_Lost_c v0; obtain ⟨r, h1, h2⟩ := h; exact ⟨_, h2, fun w' e => sh_postroadref08_Outs.calls CV t0_N ⟨t0_In_a, t0_In_l, t0_In_c⟩ ⟨t0_L_a, t0_L_l, t0_L_c⟩ ⟨t0_Lost_a, t0_Lost_l, t0_Lost_c⟩ v0 hcv (h1 w' e)⟩
    · exact h.elim
def sh_postroadref08_Cost.plan : Plan := (.seq .o (.seq (.seq .o (.cond (.seq .o .o) .o)) (.seq .o (.seq .o (.seq .o (.join [.slot 7 (.int .i64)] [] (.seq .o (.block (.loop [.slot 7 (.int .i64), .slot 8 (.int .i64)] [] (.seq (.seq .o (.cond .o .o)) (.join [.slot 7 (.int .i64)] [] (.block (.seq .o (.block (.loop [.slot 7 (.int .i64), .slot 9 (.int .i64)] [] (.seq (.seq .o (.cond .o .o)) (.join [.slot 7 (.int .i64)] [] (.block (.seq (.draw [] [.pure, .pure, .pure, .quiet, .pure, .pure, .pure, .quiet, .pure] [0, 1, 2, 3, 4, 5, 6, 7, 8]) (.cond .o .o))) .o)))))) .o))))) (.seq .o .o)))))))
theorem sh_postroadref08_Cost.is (CV : CVT) (t0_N : Int) (t0_In : SV) (t0_L : SV) (t0_Lost : SV) (v0 : Int) (w : World) (R : Value → World → Prop) : sh_postroadref08_Cost t0_N t0_In t0_L t0_Lost v0 (fun r0 w' => R (.int .i64 r0) w') w = denF (cx_postroadref08_Outs.with CV) Try.f56 sh_postroadref08_Cost.plan [.v (.agg #[(.int .i64 t0_N), (.slice t0_In.a t0_In.len t0_In.cap), (.slice t0_L.a t0_L.len t0_L.cap), (.slice t0_Lost.a t0_Lost.len t0_Lost.cap)]), .v (.int .i64 v0)] w R := by kernel_rfl
theorem sh_postroadref08_Cost.calls (CV : CVT) (t0_N : Int) (t0_In : SV) (t0_L : SV) (t0_Lost : SV) (v0 : Int) (hcv : CVOk Try.prog CV) {w : World} {R : Ending → World → Prop} (h : sh_postroadref08_Cost t0_N t0_In t0_L t0_Lost v0 (fun r0 w' => R (.returned (.int .i64 r0)) w') w) : Calls Try.prog 56 #[(.agg #[(.int .i64 t0_N), (.slice t0_In.a t0_In.len t0_In.cap), (.slice t0_L.a t0_L.len t0_L.cap), (.slice t0_Lost.a t0_Lost.len t0_Lost.cap)]), (.int .i64 v0)] w R :=
  calls_is (cx := cx_postroadref08_Outs.with CV) mixed_Try (cx_postroadref08_Outs.ok.with CV) hcv Try.func56 sh_postroadref08_Cost.plan (xs := [.v (.agg #[(.int .i64 t0_N), (.slice t0_In.a t0_In.len t0_In.cap), (.slice t0_L.a t0_L.len t0_L.cap), (.slice t0_Lost.a t0_Lost.len t0_Lost.cap)]), .v (.int .i64 v0)]) ((args_cons _ (args_cons _ args_nil))) (by kernel_rfl) (sh_postroadref08_Cost.is CV t0_N t0_In t0_L t0_Lost v0 w (fun v w' => R (.returned v) w')) h
def sh_postroadref08_Cost.o : CVT → List X → (Value → World → Prop) → World → Prop
  | CV, [.v (.agg ⟨[.int .i64 t0_N, .slice t0_In_a t0_In_l t0_In_c, .slice t0_L_a t0_L_l t0_L_c, .slice t0_Lost_a t0_Lost_l t0_Lost_c]⟩), .v (.int .i64 v0)], K, w => sh_postroadref08_Cost t0_N ⟨t0_In_a, t0_In_l, t0_In_c⟩ ⟨t0_L_a, t0_L_l, t0_L_c⟩ ⟨t0_Lost_a, t0_Lost_l, t0_Lost_c⟩ v0 (fun r0 w' => K (.int .i64 r0) w') w
  | _, _, _, _ => False
def sh_postroadref08_Cost.q : CVT → List X → World → (Value → Prop) → Prop
  | CV, [.v (.agg ⟨[.int .i64 t0_N, .slice t0_In_a t0_In_l t0_In_c, .slice t0_L_a t0_L_l t0_L_c, .slice t0_Lost_a t0_Lost_l t0_Lost_c]⟩), .v (.int .i64 v0)], w, K => Quiet (Int) (fun r => (.int .i64 r)) (fun K1 w' => sh_postroadref08_Cost t0_N ⟨t0_In_a, t0_In_l, t0_In_c⟩ ⟨t0_L_a, t0_L_l, t0_L_c⟩ ⟨t0_Lost_a, t0_Lost_l, t0_Lost_c⟩ v0 (fun r0 w'' => K1 r0 w'') w') w (fun r => K (.int .i64 r))
  | _, _, _, _ => False
noncomputable def cx_postroadref08_Cost : Cx := Cx.add Try.prog cx_postroadref08_Outs 56 sh_postroadref08_Cost.o sh_postroadref08_Cost.q
theorem cx_postroadref08_Cost.ok : CxOk cx_postroadref08_Cost := by
  refine CxOk.add cx_postroadref08_Outs.ok rfl (fun CV hcv xs K w hx h => ?_) (fun CV hcv xs K w hx h => ?_)
  · unfold sh_postroadref08_Cost.o at h; split at h
    · rename_i t0_N t0_In_a t0_In_l t0_In_c t0_L_a t0_L_l t0_L_c t0_Lost_a t0_Lost_l t0_Lost_c v0; exact sh_postroadref08_Cost.calls CV t0_N ⟨t0_In_a, t0_In_l, t0_In_c⟩ ⟨t0_L_a, t0_L_l, t0_L_c⟩ ⟨t0_Lost_a, t0_Lost_l, t0_Lost_c⟩ v0 hcv h
    · exact h.elim
  · unfold sh_postroadref08_Cost.q at h; split at h
    · rename_i t0_N t0_In_a t0_In_l t0_In_c t0_L_a t0_L_l t0_L_c t0_Lost_a t0_Lost_l t0_Lost_c v0; obtain ⟨r, h1, h2⟩ := h; exact ⟨_, h2, fun w' e => sh_postroadref08_Cost.calls CV t0_N ⟨t0_In_a, t0_In_l, t0_In_c⟩ ⟨t0_L_a, t0_L_l, t0_L_c⟩ ⟨t0_Lost_a, t0_Lost_l, t0_Lost_c⟩ v0 hcv (h1 w' e)⟩
    · exact h.elim
def sh_postroadref09_Next.plan : Plan := (.seq .o (.seq .o (.seq .o (.seq (.seq .o (.block (.loop [.slot 4 (.int .i64), .slot 5 (.int .i64)] [] (.seq (.seq .o (.cond .o .o)) (.join [.slot 4 (.int .i64)] [] (.block (.seq (.draw [] [.pure, .pure, .pure, .loc, .pure, .pure, .pure, .quiet, .quiet, .loc, .pure, .quiet, .pure, .pure] [0, 1, 2, 3, 4, 5, 6, 7, 8, 9, 10, 11, 12, 13]) (.cond .o .o))) .o))))) (.seq .o .o)))))
theorem sh_postroadref09_Next.is (CV : CVT) (t0_N : Int) (t0_In : SV) (t0_L : SV) (t0_Lost : SV) (w : World) (R : Value → World → Prop) : sh_postroadref09_Next t0_N t0_In t0_L t0_Lost (fun r0 w' => R (.int .i64 r0) w') w = denF (cx_postroadref08_Cost.with CV) Try.f47 sh_postroadref09_Next.plan [.v (.agg #[(.int .i64 t0_N), (.slice t0_In.a t0_In.len t0_In.cap), (.slice t0_L.a t0_L.len t0_L.cap), (.slice t0_Lost.a t0_Lost.len t0_Lost.cap)])] w R := by kernel_rfl
theorem sh_postroadref09_Next.calls (CV : CVT) (t0_N : Int) (t0_In : SV) (t0_L : SV) (t0_Lost : SV) (hcv : CVOk Try.prog CV) {w : World} {R : Ending → World → Prop} (h : sh_postroadref09_Next t0_N t0_In t0_L t0_Lost (fun r0 w' => R (.returned (.int .i64 r0)) w') w) : Calls Try.prog 47 #[(.agg #[(.int .i64 t0_N), (.slice t0_In.a t0_In.len t0_In.cap), (.slice t0_L.a t0_L.len t0_L.cap), (.slice t0_Lost.a t0_Lost.len t0_Lost.cap)])] w R :=
  calls_is (cx := cx_postroadref08_Cost.with CV) mixed_Try (cx_postroadref08_Cost.ok.with CV) hcv Try.func47 sh_postroadref09_Next.plan (xs := [.v (.agg #[(.int .i64 t0_N), (.slice t0_In.a t0_In.len t0_In.cap), (.slice t0_L.a t0_L.len t0_L.cap), (.slice t0_Lost.a t0_Lost.len t0_Lost.cap)])]) ((args_cons _ args_nil)) (by kernel_rfl) (sh_postroadref09_Next.is CV t0_N t0_In t0_L t0_Lost w (fun v w' => R (.returned v) w')) h
def sh_postroadref09_Next.o : CVT → List X → (Value → World → Prop) → World → Prop
  | CV, [.v (.agg ⟨[.int .i64 t0_N, .slice t0_In_a t0_In_l t0_In_c, .slice t0_L_a t0_L_l t0_L_c, .slice t0_Lost_a t0_Lost_l t0_Lost_c]⟩)], K, w => sh_postroadref09_Next t0_N ⟨t0_In_a, t0_In_l, t0_In_c⟩ ⟨t0_L_a, t0_L_l, t0_L_c⟩ ⟨t0_Lost_a, t0_Lost_l, t0_Lost_c⟩ (fun r0 w' => K (.int .i64 r0) w') w
  | _, _, _, _ => False
def sh_postroadref09_Next.q : CVT → List X → World → (Value → Prop) → Prop
  | CV, [.v (.agg ⟨[.int .i64 t0_N, .slice t0_In_a t0_In_l t0_In_c, .slice t0_L_a t0_L_l t0_L_c, .slice t0_Lost_a t0_Lost_l t0_Lost_c]⟩)], w, K => Quiet (Int) (fun r => (.int .i64 r)) (fun K1 w' => sh_postroadref09_Next t0_N ⟨t0_In_a, t0_In_l, t0_In_c⟩ ⟨t0_L_a, t0_L_l, t0_L_c⟩ ⟨t0_Lost_a, t0_Lost_l, t0_Lost_c⟩ (fun r0 w'' => K1 r0 w'') w') w (fun r => K (.int .i64 r))
  | _, _, _, _ => False
noncomputable def cx_postroadref09_Next : Cx := Cx.add Try.prog cx_postroadref08_Cost 47 sh_postroadref09_Next.o sh_postroadref09_Next.q
theorem cx_postroadref09_Next.ok : CxOk cx_postroadref09_Next := by
  refine CxOk.add cx_postroadref08_Cost.ok rfl (fun CV hcv xs K w hx h => ?_) (fun CV hcv xs K w hx h => ?_)
  · unfold sh_postroadref09_Next.o at h; split at h
    · rename_i t0_N t0_In_a t0_In_l t0_In_c t0_L_a t0_L_l t0_L_c t0_Lost_a t0_Lost_l t0_Lost_c; exact sh_postroadref09_Next.calls CV t0_N ⟨t0_In_a, t0_In_l, t0_In_c⟩ ⟨t0_L_a, t0_L_l, t0_L_c⟩ ⟨t0_Lost_a, t0_Lost_l, t0_Lost_c⟩ hcv h
    · exact h.elim
  · unfold sh_postroadref09_Next.q at h; split at h
    · rename_i t0_N t0_In_a t0_In_l t0_In_c t0_L_a t0_L_l t0_L_c t0_Lost_a t0_Lost_l t0_Lost_c; obtain ⟨r, h1, h2⟩ := h; exact ⟨_, h2, fun w' e => sh_postroadref09_Next.calls CV t0_N ⟨t0_In_a, t0_In_l, t0_In_c⟩ ⟨t0_L_a, t0_L_l, t0_L_c⟩ ⟨t0_Lost_a, t0_Lost_l, t0_Lost_c⟩ hcv (h1 w' e)⟩
    · exact h.elim
def sh_postroadref08_Near.plan : Plan := (.seq .o (.seq (.seq .o (.cond (.seq .o .o) .o)) (.seq .o (.join [] [] (.seq .o (.block (.loop [.slot 12 (.int .i64)] [] (.seq (.seq .o (.cond .o .o)) (.seq (.block .o) .o))))) (.seq .o (.join [] [] (.seq .o (.block (.loop [.slot 13 .bool] [] (.seq (.seq .o (.cond .o .o)) (.block (.seq .o (.seq .o (.block (.loop [.slot 13 .bool, .slot 14 (.int .i64)] [] (.seq (.seq .o (.cond .o .o)) (.join [.slot 13 .bool] [] (.block (.seq .o (.seq (.draw [] [.pure, .loc, .pure, .pure, .pure, .pure, .loc, .pure, .pure, .pure, .pure, .pure, .pure, .loc, .pure, .quiet, .pure, .pure, .pure, .pure, .pure, .loc, .pure, .quiet, .pure, .pure, .pure, .pure, .loc, .pure, .quiet, .pure, .pure, .loc, .pure, .pure, .pure, .loc, .pure, .quiet, .pure, .pure, .pure] [0, 1, 2, 3, 4, 5, 6, 7, 8, 9, 10, 11, 12, 13, 14, 15, 16, 17, 18, 19, 20, 21, 22, 23, 24, 25, 26, 27, 28, 29, 30, 31, 32, 33, 34, 35, 36, 37, 38, 39, 40, 41, 42]) (.cond (.seq (.draw [] [.pure, .pure, .loc, .pure, .pure, .loc, .pure, .quiet, .pure, .pure, .loc, .pure, .pure, .big] [0, 1, 2, 3, 4, 5, 6, 7, 8, 9, 10, 11, 12, 13]) .o) .o)))) .o))))))))))) (.seq .o .o)))))))
theorem sh_postroadref08_Near.is (CV : CVT) (t0_N : Int) (t0_In : SV) (t0_L : SV) (t0_Lost : SV) (u0 : Int) (v0 : Int) (without0 : Int) (most0 : Int) (w : World) (R : Value → World → Prop) : sh_postroadref08_Near t0_N t0_In t0_L t0_Lost u0 v0 without0 most0 (fun r0 w' => R (.bool r0) w') w = denF (cx_postroadref09_Next.with CV) Try.f57 sh_postroadref08_Near.plan [.v (.agg #[(.int .i64 t0_N), (.slice t0_In.a t0_In.len t0_In.cap), (.slice t0_L.a t0_L.len t0_L.cap), (.slice t0_Lost.a t0_Lost.len t0_Lost.cap)]), .v (.int .i64 u0), .v (.int .i64 v0), .v (.int .i64 without0), .v (.int .i64 most0)] w R := by kernel_rfl
theorem sh_postroadref08_Near.calls (CV : CVT) (t0_N : Int) (t0_In : SV) (t0_L : SV) (t0_Lost : SV) (u0 : Int) (v0 : Int) (without0 : Int) (most0 : Int) (hcv : CVOk Try.prog CV) {w : World} {R : Ending → World → Prop} (h : sh_postroadref08_Near t0_N t0_In t0_L t0_Lost u0 v0 without0 most0 (fun r0 w' => R (.returned (.bool r0)) w') w) : Calls Try.prog 57 #[(.agg #[(.int .i64 t0_N), (.slice t0_In.a t0_In.len t0_In.cap), (.slice t0_L.a t0_L.len t0_L.cap), (.slice t0_Lost.a t0_Lost.len t0_Lost.cap)]), (.int .i64 u0), (.int .i64 v0), (.int .i64 without0), (.int .i64 most0)] w R :=
  calls_is (cx := cx_postroadref09_Next.with CV) mixed_Try (cx_postroadref09_Next.ok.with CV) hcv Try.func57 sh_postroadref08_Near.plan (xs := [.v (.agg #[(.int .i64 t0_N), (.slice t0_In.a t0_In.len t0_In.cap), (.slice t0_L.a t0_L.len t0_L.cap), (.slice t0_Lost.a t0_Lost.len t0_Lost.cap)]), .v (.int .i64 u0), .v (.int .i64 v0), .v (.int .i64 without0), .v (.int .i64 most0)]) ((args_cons _ (args_cons _ (args_cons _ (args_cons _ (args_cons _ args_nil)))))) (by kernel_rfl) (sh_postroadref08_Near.is CV t0_N t0_In t0_L t0_Lost u0 v0 without0 most0 w (fun v w' => R (.returned v) w')) h
def sh_postroadref08_Near.o : CVT → List X → (Value → World → Prop) → World → Prop
  | CV, [.v (.agg ⟨[.int .i64 t0_N, .slice t0_In_a t0_In_l t0_In_c, .slice t0_L_a t0_L_l t0_L_c, .slice t0_Lost_a t0_Lost_l t0_Lost_c]⟩), .v (.int .i64 u0), .v (.int .i64 v0), .v (.int .i64 without0), .v (.int .i64 most0)], K, w => sh_postroadref08_Near t0_N ⟨t0_In_a, t0_In_l, t0_In_c⟩ ⟨t0_L_a, t0_L_l, t0_L_c⟩ ⟨t0_Lost_a, t0_Lost_l, t0_Lost_c⟩ u0 v0 without0 most0 (fun r0 w' => K (.bool r0) w') w
  | _, _, _, _ => False
def sh_postroadref08_Near.q : CVT → List X → World → (Value → Prop) → Prop
  | CV, [.v (.agg ⟨[.int .i64 t0_N, .slice t0_In_a t0_In_l t0_In_c, .slice t0_L_a t0_L_l t0_L_c, .slice t0_Lost_a t0_Lost_l t0_Lost_c]⟩), .v (.int .i64 u0), .v (.int .i64 v0), .v (.int .i64 without0), .v (.int .i64 most0)], w, K => Quiet (Bool) (fun r => (.bool r)) (fun K1 w' => sh_postroadref08_Near t0_N ⟨t0_In_a, t0_In_l, t0_In_c⟩ ⟨t0_L_a, t0_L_l, t0_L_c⟩ ⟨t0_Lost_a, t0_Lost_l, t0_Lost_c⟩ u0 v0 without0 most0 (fun r0 w'' => K1 r0 w'') w') w (fun r => K (.bool r))
  | _, _, _, _ => False
noncomputable def cx_postroadref08_Near : Cx := Cx.add Try.prog cx_postroadref09_Next 57 sh_postroadref08_Near.o sh_postroadref08_Near.q
theorem cx_postroadref08_Near.ok : CxOk cx_postroadref08_Near := by
  refine CxOk.add cx_postroadref09_Next.ok rfl (fun CV hcv xs K w hx h => ?_) (fun CV hcv xs K w hx h => ?_)
  · unfold sh_postroadref08_Near.o at h; split at h
    · rename_i t0_N t0_In_a t0_In_l t0_In_c t0_L_a t0_L_l t0_L_c t0_Lost_a t0_Lost_l t0_Lost_c u0 v0 without0 most0; exact sh_postroadref08_Near.calls CV t0_N ⟨t0_In_a, t0_In_l, t0_In_c⟩ ⟨t0_L_a, t0_L_l, t0_L_c⟩ ⟨t0_Lost_a, t0_Lost_l, t0_Lost_c⟩ u0 v0 without0 most0 hcv h
    · exact h.elim
  · unfold sh_postroadref08_Near.q at h; split at h
    · rename_i t0_N t0_In_a t0_In_l t0_In_c t0_L_a t0_L_l t0_L_c t0_Lost_a t0_Lost_l t0_Lost_c u0 v0 without0 most0; obtain ⟨r, h1, h2⟩ := h; exact ⟨_, h2, fun w' e => sh_postroadref08_Near.calls CV t0_N ⟨t0_In_a, t0_In_l, t0_In_c⟩ ⟨t0_L_a, t0_L_l, t0_L_c⟩ ⟨t0_Lost_a, t0_Lost_l, t0_Lost_c⟩ u0 v0 without0 most0 hcv (h1 w' e)⟩
    · exact h.elim
def sh_postroadref09_Needed.plan : Plan := (.seq .o (.seq .o (.seq .o (.seq .o (.seq (.seq .o (.block (.loop [.slot 7 .slice, .slot 8 (.int .i64)] [] (.seq (.seq .o (.cond .o .o)) (.join [.slot 7 .slice] [] (.block (.seq (.draw [] [.loc, .pure, .pure, .pure, .quiet, .pure, .quiet, .pure, .pure, .pure, .new, .big, .pure] [0, 1, 2, 3, 4, 5, 6, 7, 8, 9, 10, 11, 12]) (.seq .o (.block (.loop [.slot 7 .slice, .slot 11 (.int .i64)] [] (.seq (.seq .o (.cond .o .o)) (.join [.slot 7 .slice] [] (.block (.seq (.draw [] [.loc, .pure, .pure, .pure, .pure, .quiet, .quiet, .pure, .pure, .pure, .new, .big, .pure] [0, 1, 2, 3, 4, 5, 6, 7, 8, 9, 10, 11, 12]) (.seq (.draw [] [.pure, .pure, .pure, .quiet, .pure, .pure, .pure, .quiet, .pure, .pure, .loc, .pure, .pure, .pure, .quiet, .pure, .pure, .pure, .quiet, .pure, .pure, .loc, .pure, .loc, .pure, .big, .pure, .pure] [0, 1, 2, 3, 4, 5, 6, 7, 8, 9, 10, 11, 12, 13, 14, 15, 16, 17, 18, 19, 20, 21, 22, 23, 24, 25, 26, 27]) (.cond (.draw [] [.pure, .pure, .pure, .pure, .quiet, .pure, .pure, .pure, .quiet, .pure, .loc, .pure, .loc, .pure, .pure, .pure, .pure, .new, .big, .pure] [0, 1, 2, 3, 4, 5, 6, 7, 8, 9, 10, 11, 12, 13, 14, 15, 16, 17, 18, 19]) .o)))) .o))))))) .o))))) (.seq .o .o))))))
theorem sh_postroadref09_Needed.is (CV : CVT) (t0_N : Int) (t0_In : SV) (t0_L : SV) (t0_Lost : SV) (v0 : Int) (w : World) (R : Value → World → Prop) : sh_postroadref09_Needed t0_N t0_In t0_L t0_Lost v0 (fun r0 w' => R (.slice r0.a r0.len r0.cap) w') w = denF (cx_postroadref08_Near.with CV) Try.f48 sh_postroadref09_Needed.plan [.v (.agg #[(.int .i64 t0_N), (.slice t0_In.a t0_In.len t0_In.cap), (.slice t0_L.a t0_L.len t0_L.cap), (.slice t0_Lost.a t0_Lost.len t0_Lost.cap)]), .v (.int .i64 v0)] w R := by kernel_rfl
theorem sh_postroadref09_Needed.calls (CV : CVT) (t0_N : Int) (t0_In : SV) (t0_L : SV) (t0_Lost : SV) (v0 : Int) (hcv : CVOk Try.prog CV) {w : World} {R : Ending → World → Prop} (h : sh_postroadref09_Needed t0_N t0_In t0_L t0_Lost v0 (fun r0 w' => R (.returned (.slice r0.a r0.len r0.cap)) w') w) : Calls Try.prog 48 #[(.agg #[(.int .i64 t0_N), (.slice t0_In.a t0_In.len t0_In.cap), (.slice t0_L.a t0_L.len t0_L.cap), (.slice t0_Lost.a t0_Lost.len t0_Lost.cap)]), (.int .i64 v0)] w R :=
  calls_is (cx := cx_postroadref08_Near.with CV) mixed_Try (cx_postroadref08_Near.ok.with CV) hcv Try.func48 sh_postroadref09_Needed.plan (xs := [.v (.agg #[(.int .i64 t0_N), (.slice t0_In.a t0_In.len t0_In.cap), (.slice t0_L.a t0_L.len t0_L.cap), (.slice t0_Lost.a t0_Lost.len t0_Lost.cap)]), .v (.int .i64 v0)]) ((args_cons _ (args_cons _ args_nil))) (by kernel_rfl) (sh_postroadref09_Needed.is CV t0_N t0_In t0_L t0_Lost v0 w (fun v w' => R (.returned v) w')) h
def sh_postroadref09_Needed.o : CVT → List X → (Value → World → Prop) → World → Prop
  | CV, [.v (.agg ⟨[.int .i64 t0_N, .slice t0_In_a t0_In_l t0_In_c, .slice t0_L_a t0_L_l t0_L_c, .slice t0_Lost_a t0_Lost_l t0_Lost_c]⟩), .v (.int .i64 v0)], K, w => sh_postroadref09_Needed t0_N ⟨t0_In_a, t0_In_l, t0_In_c⟩ ⟨t0_L_a, t0_L_l, t0_L_c⟩ ⟨t0_Lost_a, t0_Lost_l, t0_Lost_c⟩ v0 (fun r0 w' => K (.slice r0.a r0.len r0.cap) w') w
  | _, _, _, _ => False
def sh_postroadref09_Needed.q : CVT → List X → World → (Value → Prop) → Prop
  | CV, [.v (.agg ⟨[.int .i64 t0_N, .slice t0_In_a t0_In_l t0_In_c, .slice t0_L_a t0_L_l t0_L_c, .slice t0_Lost_a t0_Lost_l t0_Lost_c]⟩), .v (.int .i64 v0)], w, K => Quiet (SV) (fun r => (.slice r.a r.len r.cap)) (fun K1 w' => sh_postroadref09_Needed t0_N ⟨t0_In_a, t0_In_l, t0_In_c⟩ ⟨t0_L_a, t0_L_l, t0_L_c⟩ ⟨t0_Lost_a, t0_Lost_l, t0_Lost_c⟩ v0 (fun r0 w'' => K1 r0 w'') w') w (fun r => K (.slice r.a r.len r.cap))
  | _, _, _, _ => False
noncomputable def cx_postroadref09_Needed : Cx := Cx.add Try.prog cx_postroadref08_Near 48 sh_postroadref09_Needed.o sh_postroadref09_Needed.q
theorem cx_postroadref09_Needed.ok : CxOk cx_postroadref09_Needed := by
  refine CxOk.add cx_postroadref08_Near.ok rfl (fun CV hcv xs K w hx h => ?_) (fun CV hcv xs K w hx h => ?_)
  · unfold sh_postroadref09_Needed.o at h; split at h
    · rename_i t0_N t0_In_a t0_In_l t0_In_c t0_L_a t0_L_l t0_L_c t0_Lost_a t0_Lost_l t0_Lost_c v0; exact sh_postroadref09_Needed.calls CV t0_N ⟨t0_In_a, t0_In_l, t0_In_c⟩ ⟨t0_L_a, t0_L_l, t0_L_c⟩ ⟨t0_Lost_a, t0_Lost_l, t0_Lost_c⟩ v0 hcv h
    · exact h.elim
  · unfold sh_postroadref09_Needed.q at h; split at h
    · rename_i t0_N t0_In_a t0_In_l t0_In_c t0_L_a t0_L_l t0_L_c t0_Lost_a t0_Lost_l t0_Lost_c v0; obtain ⟨r, h1, h2⟩ := h; exact ⟨_, h2, fun w' e => sh_postroadref09_Needed.calls CV t0_N ⟨t0_In_a, t0_In_l, t0_In_c⟩ ⟨t0_L_a, t0_L_l, t0_L_c⟩ ⟨t0_Lost_a, t0_Lost_l, t0_Lost_c⟩ v0 hcv (h1 w' e)⟩
    · exact h.elim
def sh_postroadref08_Put.plan : Plan := (.seq .o (.seq .o (.join [.box 10 [(.int .i64), .slice, .slice, .slice]] [] (.seq .o (.cond (.seq .o .o) .o)) (.seq .o (.join [.slot 14 .slice] [] (.seq .o (.block (.loop [.slot 14 .slice, .slot 15 (.int .i64)] [] (.seq (.seq .o (.cond .o .o)) (.join [.slot 14 .slice] [] (.block (.seq .o (.cond .o .o))) .o))))) (.seq .o (.seq .o (.seq .o .o))))))))
theorem sh_postroadref08_Put.is (CV : CVT) (t0_N : Int) (t0_In : SV) (t0_L : SV) (t0_Lost : SV) (u0 : Int) (v0 : Int) (w_0 : Int) (mid0 : Int) (w : World) (R : Value → World → Prop) : sh_postroadref08_Put t0_N t0_In t0_L t0_Lost u0 v0 w_0 mid0 (fun r0 r1 r2 r3 r4 w' => R (.tuple #[(.agg #[(.int .i64 r0), (.slice r1.a r1.len r1.cap), (.slice r2.a r2.len r2.cap), (.slice r3.a r3.len r3.cap)]), (.bool r4)]) w') w = denF (cx_postroadref09_Needed.with CV) Try.f49 sh_postroadref08_Put.plan [.v (.agg #[(.int .i64 t0_N), (.slice t0_In.a t0_In.len t0_In.cap), (.slice t0_L.a t0_L.len t0_L.cap), (.slice t0_Lost.a t0_Lost.len t0_Lost.cap)]), .v (.int .i64 u0), .v (.int .i64 v0), .v (.int .i64 w_0), .v (.int .i64 mid0)] w R := by kernel_rfl
theorem sh_postroadref08_Put.calls (CV : CVT) (t0_N : Int) (t0_In : SV) (t0_L : SV) (t0_Lost : SV) (u0 : Int) (v0 : Int) (w_0 : Int) (mid0 : Int) (hcv : CVOk Try.prog CV) {w : World} {R : Ending → World → Prop} (h : sh_postroadref08_Put t0_N t0_In t0_L t0_Lost u0 v0 w_0 mid0 (fun r0 r1 r2 r3 r4 w' => R (.returned (.tuple #[(.agg #[(.int .i64 r0), (.slice r1.a r1.len r1.cap), (.slice r2.a r2.len r2.cap), (.slice r3.a r3.len r3.cap)]), (.bool r4)])) w') w) : Calls Try.prog 49 #[(.agg #[(.int .i64 t0_N), (.slice t0_In.a t0_In.len t0_In.cap), (.slice t0_L.a t0_L.len t0_L.cap), (.slice t0_Lost.a t0_Lost.len t0_Lost.cap)]), (.int .i64 u0), (.int .i64 v0), (.int .i64 w_0), (.int .i64 mid0)] w R :=
  calls_is (cx := cx_postroadref09_Needed.with CV) mixed_Try (cx_postroadref09_Needed.ok.with CV) hcv Try.func49 sh_postroadref08_Put.plan (xs := [.v (.agg #[(.int .i64 t0_N), (.slice t0_In.a t0_In.len t0_In.cap), (.slice t0_L.a t0_L.len t0_L.cap), (.slice t0_Lost.a t0_Lost.len t0_Lost.cap)]), .v (.int .i64 u0), .v (.int .i64 v0), .v (.int .i64 w_0), .v (.int .i64 mid0)]) ((args_cons _ (args_cons _ (args_cons _ (args_cons _ (args_cons _ args_nil)))))) (by kernel_rfl) (sh_postroadref08_Put.is CV t0_N t0_In t0_L t0_Lost u0 v0 w_0 mid0 w (fun v w' => R (.returned v) w')) h
def sh_postroadref08_Put.o : CVT → List X → (Value → World → Prop) → World → Prop
  | CV, [.v (.agg ⟨[.int .i64 t0_N, .slice t0_In_a t0_In_l t0_In_c, .slice t0_L_a t0_L_l t0_L_c, .slice t0_Lost_a t0_Lost_l t0_Lost_c]⟩), .v (.int .i64 u0), .v (.int .i64 v0), .v (.int .i64 w_0), .v (.int .i64 mid0)], K, w => sh_postroadref08_Put t0_N ⟨t0_In_a, t0_In_l, t0_In_c⟩ ⟨t0_L_a, t0_L_l, t0_L_c⟩ ⟨t0_Lost_a, t0_Lost_l, t0_Lost_c⟩ u0 v0 w_0 mid0 (fun r0 r1 r2 r3 r4 w' => K (.tuple #[(.agg #[(.int .i64 r0), (.slice r1.a r1.len r1.cap), (.slice r2.a r2.len r2.cap), (.slice r3.a r3.len r3.cap)]), (.bool r4)]) w') w
  | _, _, _, _ => False
def sh_postroadref08_Put.q : CVT → List X → World → (Value → Prop) → Prop
  | CV, [.v (.agg ⟨[.int .i64 t0_N, .slice t0_In_a t0_In_l t0_In_c, .slice t0_L_a t0_L_l t0_L_c, .slice t0_Lost_a t0_Lost_l t0_Lost_c]⟩), .v (.int .i64 u0), .v (.int .i64 v0), .v (.int .i64 w_0), .v (.int .i64 mid0)], w, K => Quiet (Int × SV × SV × SV × Bool) (fun r => (.tuple #[(.agg #[(.int .i64 r.1), (.slice r.2.1.a r.2.1.len r.2.1.cap), (.slice r.2.2.1.a r.2.2.1.len r.2.2.1.cap), (.slice r.2.2.2.1.a r.2.2.2.1.len r.2.2.2.1.cap)]), (.bool r.2.2.2.2)])) (fun K1 w' => sh_postroadref08_Put t0_N ⟨t0_In_a, t0_In_l, t0_In_c⟩ ⟨t0_L_a, t0_L_l, t0_L_c⟩ ⟨t0_Lost_a, t0_Lost_l, t0_Lost_c⟩ u0 v0 w_0 mid0 (fun r0 r1 r2 r3 r4 w'' => K1 (r0, r1, r2, r3, r4) w'') w') w (fun r => K (.tuple #[(.agg #[(.int .i64 r.1), (.slice r.2.1.a r.2.1.len r.2.1.cap), (.slice r.2.2.1.a r.2.2.1.len r.2.2.1.cap), (.slice r.2.2.2.1.a r.2.2.2.1.len r.2.2.2.1.cap)]), (.bool r.2.2.2.2)]))
  | _, _, _, _ => False
noncomputable def cx_postroadref08_Put : Cx := Cx.add Try.prog cx_postroadref09_Needed 49 sh_postroadref08_Put.o sh_postroadref08_Put.q
theorem cx_postroadref08_Put.ok : CxOk cx_postroadref08_Put := by
  refine CxOk.add cx_postroadref09_Needed.ok rfl (fun CV hcv xs K w hx h => ?_) (fun CV hcv xs K w hx h => ?_)
  · unfold sh_postroadref08_Put.o at h; split at h
    · rename_i t0_N t0_In_a t0_In_l t0_In_c t0_L_a t0_L_l t0_L_c t0_Lost_a t0_Lost_l t0_Lost_c u0 v0 w_0 mid0; exact sh_postroadref08_Put.calls CV t0_N ⟨t0_In_a, t0_In_l, t0_In_c⟩ ⟨t0_L_a, t0_L_l, t0_L_c⟩ ⟨t0_Lost_a, t0_Lost_l, t0_Lost_c⟩ u0 v0 w_0 mid0 hcv h
    · exact h.elim
  · unfold sh_postroadref08_Put.q at h; split at h
    · rename_i t0_N t0_In_a t0_In_l t0_In_c t0_L_a t0_L_l t0_L_c t0_Lost_a t0_Lost_l t0_Lost_c u0 v0 w_0 mid0; obtain ⟨r, h1, h2⟩ := h; exact ⟨_, h2, fun w' e => sh_postroadref08_Put.calls CV t0_N ⟨t0_In_a, t0_In_l, t0_In_c⟩ ⟨t0_L_a, t0_L_l, t0_L_c⟩ ⟨t0_Lost_a, t0_Lost_l, t0_Lost_c⟩ u0 v0 w_0 mid0 hcv (h1 w' e)⟩
    · exact h.elim
def sh_postroadref08_Take.plan : Plan := (.seq .o (.seq (.seq .o (.cond (.seq .o .o) .o)) (.seq .o (.join [.box 6 [(.int .i64), .slice, .slice, .slice]] [] (.seq .o (.block (.loop [.slot 7 (.int .i64), .box 6 [(.int .i64), .slice, .slice, .slice]] [] (.seq (.seq .o (.cond .o .o)) (.seq (.block (.seq .o (.seq .o (.seq .o (.seq .o (.join [.slot 8 (.int .i64)] [] (.seq .o (.cond .o .o)) (.join [.slot 9 (.int .i64)] [] (.seq .o (.cond .o .o)) (.seq .o .o)))))))) .o))))) (.join [.box 6 [(.int .i64), .slice, .slice, .slice]] [] (.seq .o (.block (.loop [.slot 14 (.int .i64), .box 6 [(.int .i64), .slice, .slice, .slice]] [] (.seq (.seq .o (.cond .o .o)) (.join [.box 6 [(.int .i64), .slice, .slice, .slice]] [] (.block (.seq .o (.cond (.draw [] [.pure, .loc, .pure, .loc, .pure, .pure, .quiet, .new, .big, .pure, .big] [0, 1, 2, 3, 4, 5, 6, 7, 8, 9, 10]) .o))) .o))))) (.seq .o .o))))))
theorem sh_postroadref08_Take.is (CV : CVT) (t0_N : Int) (t0_In : SV) (t0_L : SV) (t0_Lost : SV) (v0 : Int) (w : World) (R : Value → World → Prop) : sh_postroadref08_Take t0_N t0_In t0_L t0_Lost v0 (fun r0 r1 r2 r3 r4 w' => R (.tuple #[(.agg #[(.int .i64 r0), (.slice r1.a r1.len r1.cap), (.slice r2.a r2.len r2.cap), (.slice r3.a r3.len r3.cap)]), (.bool r4)]) w') w = denF (cx_postroadref08_Put.with CV) Try.f53 sh_postroadref08_Take.plan [.v (.agg #[(.int .i64 t0_N), (.slice t0_In.a t0_In.len t0_In.cap), (.slice t0_L.a t0_L.len t0_L.cap), (.slice t0_Lost.a t0_Lost.len t0_Lost.cap)]), .v (.int .i64 v0)] w R := by kernel_rfl
theorem sh_postroadref08_Take.calls (CV : CVT) (t0_N : Int) (t0_In : SV) (t0_L : SV) (t0_Lost : SV) (v0 : Int) (hcv : CVOk Try.prog CV) {w : World} {R : Ending → World → Prop} (h : sh_postroadref08_Take t0_N t0_In t0_L t0_Lost v0 (fun r0 r1 r2 r3 r4 w' => R (.returned (.tuple #[(.agg #[(.int .i64 r0), (.slice r1.a r1.len r1.cap), (.slice r2.a r2.len r2.cap), (.slice r3.a r3.len r3.cap)]), (.bool r4)])) w') w) : Calls Try.prog 53 #[(.agg #[(.int .i64 t0_N), (.slice t0_In.a t0_In.len t0_In.cap), (.slice t0_L.a t0_L.len t0_L.cap), (.slice t0_Lost.a t0_Lost.len t0_Lost.cap)]), (.int .i64 v0)] w R :=
  calls_is (cx := cx_postroadref08_Put.with CV) mixed_Try (cx_postroadref08_Put.ok.with CV) hcv Try.func53 sh_postroadref08_Take.plan (xs := [.v (.agg #[(.int .i64 t0_N), (.slice t0_In.a t0_In.len t0_In.cap), (.slice t0_L.a t0_L.len t0_L.cap), (.slice t0_Lost.a t0_Lost.len t0_Lost.cap)]), .v (.int .i64 v0)]) ((args_cons _ (args_cons _ args_nil))) (by kernel_rfl) (sh_postroadref08_Take.is CV t0_N t0_In t0_L t0_Lost v0 w (fun v w' => R (.returned v) w')) h
def sh_postroadref08_Take.o : CVT → List X → (Value → World → Prop) → World → Prop
  | CV, [.v (.agg ⟨[.int .i64 t0_N, .slice t0_In_a t0_In_l t0_In_c, .slice t0_L_a t0_L_l t0_L_c, .slice t0_Lost_a t0_Lost_l t0_Lost_c]⟩), .v (.int .i64 v0)], K, w => sh_postroadref08_Take t0_N ⟨t0_In_a, t0_In_l, t0_In_c⟩ ⟨t0_L_a, t0_L_l, t0_L_c⟩ ⟨t0_Lost_a, t0_Lost_l, t0_Lost_c⟩ v0 (fun r0 r1 r2 r3 r4 w' => K (.tuple #[(.agg #[(.int .i64 r0), (.slice r1.a r1.len r1.cap), (.slice r2.a r2.len r2.cap), (.slice r3.a r3.len r3.cap)]), (.bool r4)]) w') w
  | _, _, _, _ => False
def sh_postroadref08_Take.q : CVT → List X → World → (Value → Prop) → Prop
  | CV, [.v (.agg ⟨[.int .i64 t0_N, .slice t0_In_a t0_In_l t0_In_c, .slice t0_L_a t0_L_l t0_L_c, .slice t0_Lost_a t0_Lost_l t0_Lost_c]⟩), .v (.int .i64 v0)], w, K => Quiet (Int × SV × SV × SV × Bool) (fun r => (.tuple #[(.agg #[(.int .i64 r.1), (.slice r.2.1.a r.2.1.len r.2.1.cap), (.slice r.2.2.1.a r.2.2.1.len r.2.2.1.cap), (.slice r.2.2.2.1.a r.2.2.2.1.len r.2.2.2.1.cap)]), (.bool r.2.2.2.2)])) (fun K1 w' => sh_postroadref08_Take t0_N ⟨t0_In_a, t0_In_l, t0_In_c⟩ ⟨t0_L_a, t0_L_l, t0_L_c⟩ ⟨t0_Lost_a, t0_Lost_l, t0_Lost_c⟩ v0 (fun r0 r1 r2 r3 r4 w'' => K1 (r0, r1, r2, r3, r4) w'') w') w (fun r => K (.tuple #[(.agg #[(.int .i64 r.1), (.slice r.2.1.a r.2.1.len r.2.1.cap), (.slice r.2.2.1.a r.2.2.1.len r.2.2.1.cap), (.slice r.2.2.2.1.a r.2.2.2.1.len r.2.2.2.1.cap)]), (.bool r.2.2.2.2)]))
  | _, _, _, _ => False
noncomputable def cx_postroadref08_Take : Cx := Cx.add Try.prog cx_postroadref08_Put 53 sh_postroadref08_Take.o sh_postroadref08_Take.q
theorem cx_postroadref08_Take.ok : CxOk cx_postroadref08_Take := by
  refine CxOk.add cx_postroadref08_Put.ok rfl (fun CV hcv xs K w hx h => ?_) (fun CV hcv xs K w hx h => ?_)
  · unfold sh_postroadref08_Take.o at h; split at h
    · rename_i t0_N t0_In_a t0_In_l t0_In_c t0_L_a t0_L_l t0_L_c t0_Lost_a t0_Lost_l t0_Lost_c v0; exact sh_postroadref08_Take.calls CV t0_N ⟨t0_In_a, t0_In_l, t0_In_c⟩ ⟨t0_L_a, t0_L_l, t0_L_c⟩ ⟨t0_Lost_a, t0_Lost_l, t0_Lost_c⟩ v0 hcv h
    · exact h.elim
  · unfold sh_postroadref08_Take.q at h; split at h
    · rename_i t0_N t0_In_a t0_In_l t0_In_c t0_L_a t0_L_l t0_L_c t0_Lost_a t0_Lost_l t0_Lost_c v0; obtain ⟨r, h1, h2⟩ := h; exact ⟨_, h2, fun w' e => sh_postroadref08_Take.calls CV t0_N ⟨t0_In_a, t0_In_l, t0_In_c⟩ ⟨t0_L_a, t0_L_l, t0_L_c⟩ ⟨t0_Lost_a, t0_Lost_l, t0_Lost_c⟩ v0 hcv (h1 w' e)⟩
    · exact h.elim
def sh_postroadref09_Build.plan : Plan := (.seq .o (.seq .o (.seq .o (.join [.box 4 [.slice, .slice]] [] (.seq .o (.block (.loop [.slot 5 (.int .i64), .box 4 [.slice, .slice]] [] (.seq (.seq .o (.cond .o .o)) (.seq (.block .o) .o))))) (.join [.box 4 [.slice, .slice]] [3] (.seq .o (.block (.loop [.slot 6 (.int .i64), .box 3 [(.int .i64), .slice, .slice, .slice], .box 4 [.slice, .slice]] [] (.seq (.seq .o (.cond .o .o)) (.join [.box 3 [(.int .i64), .slice, .slice, .slice], .box 4 [.slice, .slice]] [] (.block (.seq .o (.seq .o (.seq .o (.join [.box 3 [(.int .i64), .slice, .slice, .slice]] [] (.seq .o (.block (.loop [.slot 9 (.int .i64), .box 3 [(.int .i64), .slice, .slice, .slice]] [] (.seq (.seq .o (.cond .o .o)) (.seq (.block (.seq (.draw [] [.loc, .pure, .pure, .pure, .pure, .quiet, .pure, .pure, .pure, .pure, .quiet, .pure, .pure, .pure, .pure, .pure, .quiet, .pure, .pure, .pure, .pure, .pure, .quiet, .bigz, .pure, .pure, .pure, .alc, .big, .pure] [0, 1, 2, 3, 4, 5, 6, 7, 8, 9, 10, 11, 12, 13, 14, 15, 16, 17, 18, 19, 20, 21, 22, 23, 24, 25, 26, 27, 28, 29]) .o)) .o))))) (.seq .o (.join [.box 4 [.slice, .slice]] [] (.seq .o (.block (.loop [.slot 13 (.int .i64), .box 4 [.slice, .slice]] [] (.seq (.seq .o (.cond .o .o)) (.seq (.block (.seq (.draw [] [.loc, .pure, .pure, .pure, .pure, .quiet, .quiet, .pure, .pure, .pure, .new, .big, .pure] [0, 1, 2, 3, 4, 5, 6, 7, 8, 9, 10, 11, 12]) (.draw [] [.pure, .loc, .pure, .pure, .pure, .pure, .quiet, .loc, .pure, .new, .big, .pure, .big] [0, 1, 2, 3, 4, 5, 6, 7, 8, 9, 10, 11, 12]))) .o))))) (.seq .o (.join [.box 4 [.slice, .slice]] [] (.seq .o (.block (.loop [.slot 17 (.int .i64), .box 4 [.slice, .slice]] [] (.seq (.seq .o (.cond .o .o)) (.seq (.block (.seq (.draw [] [.loc, .pure, .pure, .pure, .quiet, .pure, .quiet, .pure, .pure, .pure, .new, .big, .pure] [0, 1, 2, 3, 4, 5, 6, 7, 8, 9, 10, 11, 12]) (.draw [] [.pure, .loc, .pure, .pure, .pure, .quiet, .pure, .loc, .pure, .new, .big, .pure, .big] [0, 1, 2, 3, 4, 5, 6, 7, 8, 9, 10, 11, 12]))) .o))))) (.seq .o .o)))))))))) .o))))) (.seq .o .o))))))
theorem sh_postroadref09_Build.is (CV : CVT) (g0_M_N : Int) (g0_M_Arcs : SV) (g0_Kept : SV) (w : World) (R : Value → World → Prop) : sh_postroadref09_Build g0_M_N g0_M_Arcs g0_Kept (fun r0 r1 w' => R (.agg #[(.slice r0.a r0.len r0.cap), (.slice r1.a r1.len r1.cap)]) w') w = denF (cx_postroadref08_Take.with CV) Try.f37 sh_postroadref09_Build.plan [.v (.agg #[(.int .i64 g0_M_N), (.slice g0_M_Arcs.a g0_M_Arcs.len g0_M_Arcs.cap), (.slice g0_Kept.a g0_Kept.len g0_Kept.cap)])] w R := by kernel_rfl
theorem sh_postroadref09_Build.calls (CV : CVT) (g0_M_N : Int) (g0_M_Arcs : SV) (g0_Kept : SV) (hcv : CVOk Try.prog CV) {w : World} {R : Ending → World → Prop} (h : sh_postroadref09_Build g0_M_N g0_M_Arcs g0_Kept (fun r0 r1 w' => R (.returned (.agg #[(.slice r0.a r0.len r0.cap), (.slice r1.a r1.len r1.cap)])) w') w) : Calls Try.prog 37 #[(.agg #[(.int .i64 g0_M_N), (.slice g0_M_Arcs.a g0_M_Arcs.len g0_M_Arcs.cap), (.slice g0_Kept.a g0_Kept.len g0_Kept.cap)])] w R :=
  calls_is (cx := cx_postroadref08_Take.with CV) mixed_Try (cx_postroadref08_Take.ok.with CV) hcv Try.func37 sh_postroadref09_Build.plan (xs := [.v (.agg #[(.int .i64 g0_M_N), (.slice g0_M_Arcs.a g0_M_Arcs.len g0_M_Arcs.cap), (.slice g0_Kept.a g0_Kept.len g0_Kept.cap)])]) ((args_cons _ args_nil)) (by kernel_rfl) (sh_postroadref09_Build.is CV g0_M_N g0_M_Arcs g0_Kept w (fun v w' => R (.returned v) w')) h
def sh_postroadref09_Build.o : CVT → List X → (Value → World → Prop) → World → Prop
  | CV, [.v (.agg ⟨[.int .i64 g0_M_N, .slice g0_M_Arcs_a g0_M_Arcs_l g0_M_Arcs_c, .slice g0_Kept_a g0_Kept_l g0_Kept_c]⟩)], K, w => sh_postroadref09_Build g0_M_N ⟨g0_M_Arcs_a, g0_M_Arcs_l, g0_M_Arcs_c⟩ ⟨g0_Kept_a, g0_Kept_l, g0_Kept_c⟩ (fun r0 r1 w' => K (.agg #[(.slice r0.a r0.len r0.cap), (.slice r1.a r1.len r1.cap)]) w') w
  | _, _, _, _ => False
def sh_postroadref09_Build.q : CVT → List X → World → (Value → Prop) → Prop
  | CV, [.v (.agg ⟨[.int .i64 g0_M_N, .slice g0_M_Arcs_a g0_M_Arcs_l g0_M_Arcs_c, .slice g0_Kept_a g0_Kept_l g0_Kept_c]⟩)], w, K => Quiet (SV × SV) (fun r => (.agg #[(.slice r.1.a r.1.len r.1.cap), (.slice r.2.a r.2.len r.2.cap)])) (fun K1 w' => sh_postroadref09_Build g0_M_N ⟨g0_M_Arcs_a, g0_M_Arcs_l, g0_M_Arcs_c⟩ ⟨g0_Kept_a, g0_Kept_l, g0_Kept_c⟩ (fun r0 r1 w'' => K1 (r0, r1) w'') w') w (fun r => K (.agg #[(.slice r.1.a r.1.len r.1.cap), (.slice r.2.a r.2.len r.2.cap)]))
  | _, _, _, _ => False
noncomputable def cx_postroadref09_Build : Cx := Cx.add Try.prog cx_postroadref08_Take 37 sh_postroadref09_Build.o sh_postroadref09_Build.q
theorem cx_postroadref09_Build.ok : CxOk cx_postroadref09_Build := by
  refine CxOk.add cx_postroadref08_Take.ok rfl (fun CV hcv xs K w hx h => ?_) (fun CV hcv xs K w hx h => ?_)
  · unfold sh_postroadref09_Build.o at h; split at h
    · rename_i g0_M_N g0_M_Arcs_a g0_M_Arcs_l g0_M_Arcs_c g0_Kept_a g0_Kept_l g0_Kept_c; exact sh_postroadref09_Build.calls CV g0_M_N ⟨g0_M_Arcs_a, g0_M_Arcs_l, g0_M_Arcs_c⟩ ⟨g0_Kept_a, g0_Kept_l, g0_Kept_c⟩ hcv h
    · exact h.elim
  · unfold sh_postroadref09_Build.q at h; split at h
    · rename_i g0_M_N g0_M_Arcs_a g0_M_Arcs_l g0_M_Arcs_c g0_Kept_a g0_Kept_l g0_Kept_c; obtain ⟨r, h1, h2⟩ := h; exact ⟨_, h2, fun w' e => sh_postroadref09_Build.calls CV g0_M_N ⟨g0_M_Arcs_a, g0_M_Arcs_l, g0_M_Arcs_c⟩ ⟨g0_Kept_a, g0_Kept_l, g0_Kept_c⟩ hcv (h1 w' e)⟩
    · exact h.elim
def sh_postroadref09_Of.plan : Plan := (.seq .o (.seq .o (.seq .o .o)))
theorem sh_postroadref09_Of.is (CV : CVT) (m0_N : Int) (m0_Arcs : SV) (w : World) (R : Value → World → Prop) : sh_postroadref09_Of m0_N m0_Arcs (fun r0 r1 w' => R (.agg #[(.slice r0.a r0.len r0.cap), (.slice r1.a r1.len r1.cap)]) w') w = denF (cx_postroadref09_Build.with CV) Try.f20 sh_postroadref09_Of.plan [.v (.agg #[(.int .i64 m0_N), (.slice m0_Arcs.a m0_Arcs.len m0_Arcs.cap)])] w R := by kernel_rfl
theorem sh_postroadref09_Of.calls (CV : CVT) (m0_N : Int) (m0_Arcs : SV) (hcv : CVOk Try.prog CV) {w : World} {R : Ending → World → Prop} (h : sh_postroadref09_Of m0_N m0_Arcs (fun r0 r1 w' => R (.returned (.agg #[(.slice r0.a r0.len r0.cap), (.slice r1.a r1.len r1.cap)])) w') w) : Calls Try.prog 20 #[(.agg #[(.int .i64 m0_N), (.slice m0_Arcs.a m0_Arcs.len m0_Arcs.cap)])] w R :=
  calls_is (cx := cx_postroadref09_Build.with CV) mixed_Try (cx_postroadref09_Build.ok.with CV) hcv Try.func20 sh_postroadref09_Of.plan (xs := [.v (.agg #[(.int .i64 m0_N), (.slice m0_Arcs.a m0_Arcs.len m0_Arcs.cap)])]) ((args_cons _ args_nil)) (by kernel_rfl) (sh_postroadref09_Of.is CV m0_N m0_Arcs w (fun v w' => R (.returned v) w')) h
def sh_postroadref09_Of.o : CVT → List X → (Value → World → Prop) → World → Prop
  | CV, [.v (.agg ⟨[.int .i64 m0_N, .slice m0_Arcs_a m0_Arcs_l m0_Arcs_c]⟩)], K, w => sh_postroadref09_Of m0_N ⟨m0_Arcs_a, m0_Arcs_l, m0_Arcs_c⟩ (fun r0 r1 w' => K (.agg #[(.slice r0.a r0.len r0.cap), (.slice r1.a r1.len r1.cap)]) w') w
  | _, _, _, _ => False
def sh_postroadref09_Of.q : CVT → List X → World → (Value → Prop) → Prop
  | CV, [.v (.agg ⟨[.int .i64 m0_N, .slice m0_Arcs_a m0_Arcs_l m0_Arcs_c]⟩)], w, K => Quiet (SV × SV) (fun r => (.agg #[(.slice r.1.a r.1.len r.1.cap), (.slice r.2.a r.2.len r.2.cap)])) (fun K1 w' => sh_postroadref09_Of m0_N ⟨m0_Arcs_a, m0_Arcs_l, m0_Arcs_c⟩ (fun r0 r1 w'' => K1 (r0, r1) w'') w') w (fun r => K (.agg #[(.slice r.1.a r.1.len r.1.cap), (.slice r.2.a r.2.len r.2.cap)]))
  | _, _, _, _ => False
noncomputable def cx_postroadref09_Of : Cx := Cx.add Try.prog cx_postroadref09_Build 20 sh_postroadref09_Of.o sh_postroadref09_Of.q
theorem cx_postroadref09_Of.ok : CxOk cx_postroadref09_Of := by
  refine CxOk.add cx_postroadref09_Build.ok rfl (fun CV hcv xs K w hx h => ?_) (fun CV hcv xs K w hx h => ?_)
  · unfold sh_postroadref09_Of.o at h; split at h
    · rename_i m0_N m0_Arcs_a m0_Arcs_l m0_Arcs_c; exact sh_postroadref09_Of.calls CV m0_N ⟨m0_Arcs_a, m0_Arcs_l, m0_Arcs_c⟩ hcv h
    · exact h.elim
  · unfold sh_postroadref09_Of.q at h; split at h
    · rename_i m0_N m0_Arcs_a m0_Arcs_l m0_Arcs_c; obtain ⟨r, h1, h2⟩ := h; exact ⟨_, h2, fun w' e => sh_postroadref09_Of.calls CV m0_N ⟨m0_Arcs_a, m0_Arcs_l, m0_Arcs_c⟩ hcv (h1 w' e)⟩
    · exact h.elim
def sh_hier_Check.plan : Plan := (.seq .o (.seq .o (.seq .o .o)))
theorem sh_hier_Check.is (CV : CVT) (h0_Rank : SV) (h0_Ways : SV) (w : World) (R : Value → World → Prop) : sh_hier_Check h0_Rank h0_Ways (fun r0 w' => R (.int .i64 r0) w') w = denF (cx_postroadref09_Of.with CV) Try.f21 sh_hier_Check.plan [.v (.agg #[(.slice h0_Rank.a h0_Rank.len h0_Rank.cap), (.slice h0_Ways.a h0_Ways.len h0_Ways.cap)])] w R := by kernel_rfl
theorem sh_hier_Check.calls (CV : CVT) (h0_Rank : SV) (h0_Ways : SV) (hcv : CVOk Try.prog CV) {w : World} {R : Ending → World → Prop} (h : sh_hier_Check h0_Rank h0_Ways (fun r0 w' => R (.returned (.int .i64 r0)) w') w) : Calls Try.prog 21 #[(.agg #[(.slice h0_Rank.a h0_Rank.len h0_Rank.cap), (.slice h0_Ways.a h0_Ways.len h0_Ways.cap)])] w R :=
  calls_is (cx := cx_postroadref09_Of.with CV) mixed_Try (cx_postroadref09_Of.ok.with CV) hcv Try.func21 sh_hier_Check.plan (xs := [.v (.agg #[(.slice h0_Rank.a h0_Rank.len h0_Rank.cap), (.slice h0_Ways.a h0_Ways.len h0_Ways.cap)])]) ((args_cons _ args_nil)) (by kernel_rfl) (sh_hier_Check.is CV h0_Rank h0_Ways w (fun v w' => R (.returned v) w')) h
def sh_hier_Check.o : CVT → List X → (Value → World → Prop) → World → Prop
  | CV, [.v (.agg ⟨[.slice h0_Rank_a h0_Rank_l h0_Rank_c, .slice h0_Ways_a h0_Ways_l h0_Ways_c]⟩)], K, w => sh_hier_Check ⟨h0_Rank_a, h0_Rank_l, h0_Rank_c⟩ ⟨h0_Ways_a, h0_Ways_l, h0_Ways_c⟩ (fun r0 w' => K (.int .i64 r0) w') w
  | _, _, _, _ => False
def sh_hier_Check.q : CVT → List X → World → (Value → Prop) → Prop
  | CV, [.v (.agg ⟨[.slice h0_Rank_a h0_Rank_l h0_Rank_c, .slice h0_Ways_a h0_Ways_l h0_Ways_c]⟩)], w, K => Quiet (Int) (fun r => (.int .i64 r)) (fun K1 w' => sh_hier_Check ⟨h0_Rank_a, h0_Rank_l, h0_Rank_c⟩ ⟨h0_Ways_a, h0_Ways_l, h0_Ways_c⟩ (fun r0 w'' => K1 r0 w'') w') w (fun r => K (.int .i64 r))
  | _, _, _, _ => False
noncomputable def cx_hier_Check : Cx := Cx.add Try.prog cx_postroadref09_Of 21 sh_hier_Check.o sh_hier_Check.q
theorem cx_hier_Check.ok : CxOk cx_hier_Check := by
  refine CxOk.add cx_postroadref09_Of.ok rfl (fun CV hcv xs K w hx h => ?_) (fun CV hcv xs K w hx h => ?_)
  · unfold sh_hier_Check.o at h; split at h
    · rename_i h0_Rank_a h0_Rank_l h0_Rank_c h0_Ways_a h0_Ways_l h0_Ways_c; exact sh_hier_Check.calls CV ⟨h0_Rank_a, h0_Rank_l, h0_Rank_c⟩ ⟨h0_Ways_a, h0_Ways_l, h0_Ways_c⟩ hcv h
    · exact h.elim
  · unfold sh_hier_Check.q at h; split at h
    · rename_i h0_Rank_a h0_Rank_l h0_Rank_c h0_Ways_a h0_Ways_l h0_Ways_c; obtain ⟨r, h1, h2⟩ := h; exact ⟨_, h2, fun w' e => sh_hier_Check.calls CV ⟨h0_Rank_a, h0_Rank_l, h0_Rank_c⟩ ⟨h0_Ways_a, h0_Ways_l, h0_Ways_c⟩ hcv (h1 w' e)⟩
    · exact h.elim
def sh_postroadlaw10_HierOfMaps.plan : Plan := (.seq .o (.seq .o (.seq .o (.seq .o (.seq .o (.seq .o (.seq .o (.seq .o (.seq .o (.join [] [] (.seq .o (.block (.loop [.slot 13 (.int .i64)] [] (.seq (.seq .o (.cond .o .o)) (.seq (.block .o) .o))))) (.join [] [] (.seq .o (.block (.loop [.slot 14 (.int .i64)] [] (.seq (.seq .o (.cond .o .o)) (.seq (.block .o) .o))))) (.seq .o (.seq .o (.join [] [] (.seq .o (.block (.loop [.slot 17 (.int .i64)] [] (.seq (.seq .o (.cond .o .o)) (.seq (.block .o) .o))))) (.seq (.draw [] [.loc, .big, .pure, .pure, .pure, .quiet, .pure, .loc, .pure, .pure, .pure, .pure, .pure, .quiet, .pure, .pure, .quiet, .pure, .pure, .pure, .pure, .pure, .big, .pure, .pure, .big, .quiet, .pure, .pure, .pure, .pure, .big, .pure, .pure, .big, .quiet, .pure, .pure, .big, .pure, .pure] [0, 1, 2, 3, 4, 5, 6, 7, 8, 9, 10, 11, 12, 13, 14, 15, 16, 17, 18, 19, 20, 21, 23, 24, 22, 25, 26, 27, 28, 29, 30, 32, 33, 31, 34, 35, 36, 37, 38, 39, 40]) .o)))))))))))))))
theorem sh_postroadlaw10_HierOfMaps.is (CV : CVT) (n0 : Int) (arcs0 : SV) (v0 : Int) (w : World) (R : Value → World → Prop) : sh_postroadlaw10_HierOfMaps n0 arcs0 v0 (fun r0 w' => R (.bool r0) w') w = denF (cx_hier_Check.with CV) Try.f5 sh_postroadlaw10_HierOfMaps.plan [.v (.int .i64 n0), .v (.slice arcs0.a arcs0.len arcs0.cap), .v (.int .u8 v0)] w R := by kernel_rfl
theorem sh_postroadlaw10_HierOfMaps.calls (CV : CVT) (n0 : Int) (arcs0 : SV) (v0 : Int) (hcv : CVOk Try.prog CV) {w : World} {R : Ending → World → Prop} (h : sh_postroadlaw10_HierOfMaps n0 arcs0 v0 (fun r0 w' => R (.returned (.bool r0)) w') w) : Calls Try.prog 5 #[(.int .i64 n0), (.slice arcs0.a arcs0.len arcs0.cap), (.int .u8 v0)] w R :=
  calls_is (cx := cx_hier_Check.with CV) mixed_Try (cx_hier_Check.ok.with CV) hcv Try.func5 sh_postroadlaw10_HierOfMaps.plan (xs := [.v (.int .i64 n0), .v (.slice arcs0.a arcs0.len arcs0.cap), .v (.int .u8 v0)]) ((args_cons _ (args_cons _ (args_cons _ args_nil)))) (by kernel_rfl) (sh_postroadlaw10_HierOfMaps.is CV n0 arcs0 v0 w (fun v w' => R (.returned v) w')) h
def sh_postroadlaw10_HierOfMaps.o : CVT → List X → (Value → World → Prop) → World → Prop
  | CV, [.v (.int .i64 n0), .v (.slice arcs0_a arcs0_l arcs0_c), .v (.int .u8 v0)], K, w => sh_postroadlaw10_HierOfMaps n0 ⟨arcs0_a, arcs0_l, arcs0_c⟩ v0 (fun r0 w' => K (.bool r0) w') w
  | _, _, _, _ => False
def sh_postroadlaw10_HierOfMaps.q : CVT → List X → World → (Value → Prop) → Prop
  | CV, [.v (.int .i64 n0), .v (.slice arcs0_a arcs0_l arcs0_c), .v (.int .u8 v0)], w, K => Quiet (Bool) (fun r => (.bool r)) (fun K1 w' => sh_postroadlaw10_HierOfMaps n0 ⟨arcs0_a, arcs0_l, arcs0_c⟩ v0 (fun r0 w'' => K1 r0 w'') w') w (fun r => K (.bool r))
  | _, _, _, _ => False
noncomputable def cx_postroadlaw10_HierOfMaps : Cx := Cx.add Try.prog cx_hier_Check 5 sh_postroadlaw10_HierOfMaps.o sh_postroadlaw10_HierOfMaps.q
theorem cx_postroadlaw10_HierOfMaps.ok : CxOk cx_postroadlaw10_HierOfMaps := by
  refine CxOk.add cx_hier_Check.ok rfl (fun CV hcv xs K w hx h => ?_) (fun CV hcv xs K w hx h => ?_)
  · unfold sh_postroadlaw10_HierOfMaps.o at h; split at h
    · rename_i n0 arcs0_a arcs0_l arcs0_c v0; exact sh_postroadlaw10_HierOfMaps.calls CV n0 ⟨arcs0_a, arcs0_l, arcs0_c⟩ v0 hcv h
    · exact h.elim
  · unfold sh_postroadlaw10_HierOfMaps.q at h; split at h
    · rename_i n0 arcs0_a arcs0_l arcs0_c v0; obtain ⟨r, h1, h2⟩ := h; exact ⟨_, h2, fun w' e => sh_postroadlaw10_HierOfMaps.calls CV n0 ⟨arcs0_a, arcs0_l, arcs0_c⟩ v0 hcv (h1 w' e)⟩
    · exact h.elim
def sh_postroadlaw10_HierOdd.plan : Plan := (.seq .o (.seq (.seq .o (.cond (.seq .o .o) .o)) (.seq .o (.seq .o (.seq .o (.seq (.draw [] [.pure, .pure, .loc, .pure, .pure, .pure, .quiet, .pure, .pure, .loc, .pure, .pure, .pure, .quiet, .pure, .quiet, .pure, .big] [0, 1, 2, 3, 4, 5, 6, 7, 8, 9, 10, 11, 12, 13, 14, 15, 16, 17]) (.seq .o (.seq .o (.seq .o (.seq .o (.seq .o (.seq .o (.seq .o (.seq .o (.seq .o (.seq .o .o))))))))))))))))
theorem sh_postroadlaw10_HierOdd.is (CV : CVT) (h0_Rank : SV) (h0_Ways : SV) (at_0 : Int) (more0 : Int) (w : World) (R : Value → World → Prop) : sh_postroadlaw10_HierOdd h0_Rank h0_Ways at_0 more0 (fun r0 w' => R (.bool r0) w') w = denF (cx_postroadlaw10_HierOfMaps.with CV) Try.f6 sh_postroadlaw10_HierOdd.plan [.v (.agg #[(.slice h0_Rank.a h0_Rank.len h0_Rank.cap), (.slice h0_Ways.a h0_Ways.len h0_Ways.cap)]), .v (.int .u8 at_0), .v (.int .u8 more0)] w R := by kernel_rfl
theorem sh_postroadlaw10_HierOdd.calls (CV : CVT) (h0_Rank : SV) (h0_Ways : SV) (at_0 : Int) (more0 : Int) (hcv : CVOk Try.prog CV) {w : World} {R : Ending → World → Prop} (h : sh_postroadlaw10_HierOdd h0_Rank h0_Ways at_0 more0 (fun r0 w' => R (.returned (.bool r0)) w') w) : Calls Try.prog 6 #[(.agg #[(.slice h0_Rank.a h0_Rank.len h0_Rank.cap), (.slice h0_Ways.a h0_Ways.len h0_Ways.cap)]), (.int .u8 at_0), (.int .u8 more0)] w R :=
  calls_is (cx := cx_postroadlaw10_HierOfMaps.with CV) mixed_Try (cx_postroadlaw10_HierOfMaps.ok.with CV) hcv Try.func6 sh_postroadlaw10_HierOdd.plan (xs := [.v (.agg #[(.slice h0_Rank.a h0_Rank.len h0_Rank.cap), (.slice h0_Ways.a h0_Ways.len h0_Ways.cap)]), .v (.int .u8 at_0), .v (.int .u8 more0)]) ((args_cons _ (args_cons _ (args_cons _ args_nil)))) (by kernel_rfl) (sh_postroadlaw10_HierOdd.is CV h0_Rank h0_Ways at_0 more0 w (fun v w' => R (.returned v) w')) h
def sh_postroadlaw10_HierOdd.o : CVT → List X → (Value → World → Prop) → World → Prop
  | CV, [.v (.agg ⟨[.slice h0_Rank_a h0_Rank_l h0_Rank_c, .slice h0_Ways_a h0_Ways_l h0_Ways_c]⟩), .v (.int .u8 at_0), .v (.int .u8 more0)], K, w => sh_postroadlaw10_HierOdd ⟨h0_Rank_a, h0_Rank_l, h0_Rank_c⟩ ⟨h0_Ways_a, h0_Ways_l, h0_Ways_c⟩ at_0 more0 (fun r0 w' => K (.bool r0) w') w
  | _, _, _, _ => False
def sh_postroadlaw10_HierOdd.q : CVT → List X → World → (Value → Prop) → Prop
  | CV, [.v (.agg ⟨[.slice h0_Rank_a h0_Rank_l h0_Rank_c, .slice h0_Ways_a h0_Ways_l h0_Ways_c]⟩), .v (.int .u8 at_0), .v (.int .u8 more0)], w, K => Quiet (Bool) (fun r => (.bool r)) (fun K1 w' => sh_postroadlaw10_HierOdd ⟨h0_Rank_a, h0_Rank_l, h0_Rank_c⟩ ⟨h0_Ways_a, h0_Ways_l, h0_Ways_c⟩ at_0 more0 (fun r0 w'' => K1 r0 w'') w') w (fun r => K (.bool r))
  | _, _, _, _ => False
noncomputable def cx_postroadlaw10_HierOdd : Cx := Cx.add Try.prog cx_postroadlaw10_HierOfMaps 6 sh_postroadlaw10_HierOdd.o sh_postroadlaw10_HierOdd.q
theorem cx_postroadlaw10_HierOdd.ok : CxOk cx_postroadlaw10_HierOdd := by
  refine CxOk.add cx_postroadlaw10_HierOfMaps.ok rfl (fun CV hcv xs K w hx h => ?_) (fun CV hcv xs K w hx h => ?_)
  · unfold sh_postroadlaw10_HierOdd.o at h; split at h
    · rename_i h0_Rank_a h0_Rank_l h0_Rank_c h0_Ways_a h0_Ways_l h0_Ways_c at_0 more0; exact sh_postroadlaw10_HierOdd.calls CV ⟨h0_Rank_a, h0_Rank_l, h0_Rank_c⟩ ⟨h0_Ways_a, h0_Ways_l, h0_Ways_c⟩ at_0 more0 hcv h
    · exact h.elim
  · unfold sh_postroadlaw10_HierOdd.q at h; split at h
    · rename_i h0_Rank_a h0_Rank_l h0_Rank_c h0_Ways_a h0_Ways_l h0_Ways_c at_0 more0; obtain ⟨r, h1, h2⟩ := h; exact ⟨_, h2, fun w' e => sh_postroadlaw10_HierOdd.calls CV ⟨h0_Rank_a, h0_Rank_l, h0_Rank_c⟩ ⟨h0_Ways_a, h0_Ways_l, h0_Ways_c⟩ at_0 more0 hcv (h1 w' e)⟩
    · exact h.elim
def sh_hier_Hier_Find.plan : Plan := (.seq .o (.seq (.seq .o (.cond (.seq .o .o) .o)) (.seq .o (.seq (.seq .o (.cond (.seq .o .o) .o)) (.seq .o .o)))))
theorem sh_hier_Hier_Find.is (CV : CVT) (h0 : Option Addr) (u0 : Int) (v0 : Int) (w : World) (R : Value → World → Prop) : sh_hier_Hier_Find h0 u0 v0 (fun r0 w' => R (.int .i64 r0) w') w = denF (cx_postroadlaw10_HierOdd.with CV) Try.f24 sh_hier_Hier_Find.plan [.v (.pointer h0), .v (.int .i64 u0), .v (.int .i64 v0)] w R := by kernel_rfl
theorem sh_hier_Hier_Find.calls (CV : CVT) (h0 : Option Addr) (u0 : Int) (v0 : Int) (hcv : CVOk Try.prog CV) {w : World} {R : Ending → World → Prop} (h : sh_hier_Hier_Find h0 u0 v0 (fun r0 w' => R (.returned (.int .i64 r0)) w') w) : Calls Try.prog 24 #[(.pointer h0), (.int .i64 u0), (.int .i64 v0)] w R :=
  calls_is (cx := cx_postroadlaw10_HierOdd.with CV) mixed_Try (cx_postroadlaw10_HierOdd.ok.with CV) hcv Try.func24 sh_hier_Hier_Find.plan (xs := [.v (.pointer h0), .v (.int .i64 u0), .v (.int .i64 v0)]) ((args_cons _ (args_cons _ (args_cons _ args_nil)))) (by kernel_rfl) (sh_hier_Hier_Find.is CV h0 u0 v0 w (fun v w' => R (.returned v) w')) h
def sh_hier_Hier_Find.o : CVT → List X → (Value → World → Prop) → World → Prop
  | CV, [.v (.pointer h0), .v (.int .i64 u0), .v (.int .i64 v0)], K, w => sh_hier_Hier_Find h0 u0 v0 (fun r0 w' => K (.int .i64 r0) w') w
  | _, _, _, _ => False
def sh_hier_Hier_Find.q : CVT → List X → World → (Value → Prop) → Prop
  | CV, [.v (.pointer h0), .v (.int .i64 u0), .v (.int .i64 v0)], w, K => Quiet (Int) (fun r => (.int .i64 r)) (fun K1 w' => sh_hier_Hier_Find h0 u0 v0 (fun r0 w'' => K1 r0 w'') w') w (fun r => K (.int .i64 r))
  | _, _, _, _ => False
noncomputable def cx_hier_Hier_Find : Cx := Cx.add Try.prog cx_postroadlaw10_HierOdd 24 sh_hier_Hier_Find.o sh_hier_Hier_Find.q
theorem cx_hier_Hier_Find.ok : CxOk cx_hier_Hier_Find := by
  refine CxOk.add cx_postroadlaw10_HierOdd.ok rfl (fun CV hcv xs K w hx h => ?_) (fun CV hcv xs K w hx h => ?_)
  · unfold sh_hier_Hier_Find.o at h; split at h
    · rename_i h0 u0 v0; exact sh_hier_Hier_Find.calls CV h0 u0 v0 hcv h
    · exact h.elim
  · unfold sh_hier_Hier_Find.q at h; split at h
    · rename_i h0 u0 v0; obtain ⟨r, h1, h2⟩ := h; exact ⟨_, h2, fun w' e => sh_hier_Hier_Find.calls CV h0 u0 v0 hcv (h1 w' e)⟩
    · exact h.elim
def sh_hier_Hier_At.plan : Plan := (.seq .o (.seq (.seq .o (.cond (.seq .o .o) .o)) (.seq .o .o)))
theorem sh_hier_Hier_At.is (CV : CVT) (h0 : Option Addr) (rank0 : Int) (w : World) (R : Value → World → Prop) : sh_hier_Hier_At h0 rank0 (fun r0 w' => R (.int .i64 r0) w') w = denF (cx_hier_Hier_Find.with CV) Try.f25 sh_hier_Hier_At.plan [.v (.pointer h0), .v (.int .i64 rank0)] w R := by kernel_rfl
theorem sh_hier_Hier_At.calls (CV : CVT) (h0 : Option Addr) (rank0 : Int) (hcv : CVOk Try.prog CV) {w : World} {R : Ending → World → Prop} (h : sh_hier_Hier_At h0 rank0 (fun r0 w' => R (.returned (.int .i64 r0)) w') w) : Calls Try.prog 25 #[(.pointer h0), (.int .i64 rank0)] w R :=
  calls_is (cx := cx_hier_Hier_Find.with CV) mixed_Try (cx_hier_Hier_Find.ok.with CV) hcv Try.func25 sh_hier_Hier_At.plan (xs := [.v (.pointer h0), .v (.int .i64 rank0)]) ((args_cons _ (args_cons _ args_nil))) (by kernel_rfl) (sh_hier_Hier_At.is CV h0 rank0 w (fun v w' => R (.returned v) w')) h
def sh_hier_Hier_At.o : CVT → List X → (Value → World → Prop) → World → Prop
  | CV, [.v (.pointer h0), .v (.int .i64 rank0)], K, w => sh_hier_Hier_At h0 rank0 (fun r0 w' => K (.int .i64 r0) w') w
  | _, _, _, _ => False
def sh_hier_Hier_At.q : CVT → List X → World → (Value → Prop) → Prop
  | CV, [.v (.pointer h0), .v (.int .i64 rank0)], w, K => Quiet (Int) (fun r => (.int .i64 r)) (fun K1 w' => sh_hier_Hier_At h0 rank0 (fun r0 w'' => K1 r0 w'') w') w (fun r => K (.int .i64 r))
  | _, _, _, _ => False
noncomputable def cx_hier_Hier_At : Cx := Cx.add Try.prog cx_hier_Hier_Find 25 sh_hier_Hier_At.o sh_hier_Hier_At.q
theorem cx_hier_Hier_At.ok : CxOk cx_hier_Hier_At := by
  refine CxOk.add cx_hier_Hier_Find.ok rfl (fun CV hcv xs K w hx h => ?_) (fun CV hcv xs K w hx h => ?_)
  · unfold sh_hier_Hier_At.o at h; split at h
    · rename_i h0 rank0; exact sh_hier_Hier_At.calls CV h0 rank0 hcv h
    · exact h.elim
  · unfold sh_hier_Hier_At.q at h; split at h
    · rename_i h0 rank0; obtain ⟨r, h1, h2⟩ := h; exact ⟨_, h2, fun w' e => sh_hier_Hier_At.calls CV h0 rank0 hcv (h1 w' e)⟩
    · exact h.elim
def sh_postroadlaw10_HierFinds.plan : Plan := (.seq .o (.seq (.seq .o (.cond (.seq .o .o) .o)) (.seq .o (.seq .o (.join [.slot 8 (.int .i64)] [] (.seq .o (.block (.loop [.slot 8 (.int .i64), .slot 9 (.int .i64)] [] (.seq (.seq .o (.cond .o .o)) (.join [.slot 8 (.int .i64)] [] (.block (.seq (.seq (.draw [] [.pure, .pure, .loc, .pure, .pure, .pure, .quiet, .pure, .loc, .pure, .pure, .pure, .quiet, .quiet, .pure, .pure] [0, 1, 2, 3, 4, 5, 6, 7, 8, 9, 10, 11, 12, 13, 14, 15]) (.cond (.seq .o .o) .o)) (.seq .o (.cond .o .o)))) .o))))) (.join [] [] (.seq .o (.block (.loop [.slot 10 (.int .i64)] [] (.seq (.seq .o (.cond .o .o)) (.seq (.block (.seq (.draw [] [.pure, .pure, .quiet, .pure, .loc, .pure, .pure, .quiet, .pure, .pure, .pure, .pure, .loc, .pure, .pure, .quiet, .quiet, .pure, .pure, .pure] [0, 1, 2, 3, 4, 5, 6, 7, 8, 9, 10, 11, 12, 13, 14, 15, 16, 17, 18, 19]) (.cond (.seq .o .o) .o))) .o))))) (.seq (.draw [] [.pure, .pure, .pure, .quiet, .pure, .pure, .pure, .pure, .quiet, .pure, .loc, .pure, .pure, .pure, .pure, .big, .pure, .pure] [0, 1, 2, 3, 4, 5, 6, 7, 8, 9, 10, 11, 12, 13, 14, 15, 16, 17]) .o)))))))
theorem sh_postroadlaw10_HierFinds.is (CV : CVT) (h0_Rank : SV) (h0_Ways : SV) (u0 : Int) (v0 : Int) (w : World) (R : Value → World → Prop) : sh_postroadlaw10_HierFinds h0_Rank h0_Ways u0 v0 (fun r0 w' => R (.bool r0) w') w = denF (cx_hier_Hier_At.with CV) Try.f7 sh_postroadlaw10_HierFinds.plan [.v (.agg #[(.slice h0_Rank.a h0_Rank.len h0_Rank.cap), (.slice h0_Ways.a h0_Ways.len h0_Ways.cap)]), .v (.int .i64 u0), .v (.int .i64 v0)] w R := by kernel_rfl
theorem sh_postroadlaw10_HierFinds.calls (CV : CVT) (h0_Rank : SV) (h0_Ways : SV) (u0 : Int) (v0 : Int) (hcv : CVOk Try.prog CV) {w : World} {R : Ending → World → Prop} (h : sh_postroadlaw10_HierFinds h0_Rank h0_Ways u0 v0 (fun r0 w' => R (.returned (.bool r0)) w') w) : Calls Try.prog 7 #[(.agg #[(.slice h0_Rank.a h0_Rank.len h0_Rank.cap), (.slice h0_Ways.a h0_Ways.len h0_Ways.cap)]), (.int .i64 u0), (.int .i64 v0)] w R :=
  calls_is (cx := cx_hier_Hier_At.with CV) mixed_Try (cx_hier_Hier_At.ok.with CV) hcv Try.func7 sh_postroadlaw10_HierFinds.plan (xs := [.v (.agg #[(.slice h0_Rank.a h0_Rank.len h0_Rank.cap), (.slice h0_Ways.a h0_Ways.len h0_Ways.cap)]), .v (.int .i64 u0), .v (.int .i64 v0)]) ((args_cons _ (args_cons _ (args_cons _ args_nil)))) (by kernel_rfl) (sh_postroadlaw10_HierFinds.is CV h0_Rank h0_Ways u0 v0 w (fun v w' => R (.returned v) w')) h
def sh_postroadlaw10_HierFinds.o : CVT → List X → (Value → World → Prop) → World → Prop
  | CV, [.v (.agg ⟨[.slice h0_Rank_a h0_Rank_l h0_Rank_c, .slice h0_Ways_a h0_Ways_l h0_Ways_c]⟩), .v (.int .i64 u0), .v (.int .i64 v0)], K, w => sh_postroadlaw10_HierFinds ⟨h0_Rank_a, h0_Rank_l, h0_Rank_c⟩ ⟨h0_Ways_a, h0_Ways_l, h0_Ways_c⟩ u0 v0 (fun r0 w' => K (.bool r0) w') w
  | _, _, _, _ => False
def sh_postroadlaw10_HierFinds.q : CVT → List X → World → (Value → Prop) → Prop
  | CV, [.v (.agg ⟨[.slice h0_Rank_a h0_Rank_l h0_Rank_c, .slice h0_Ways_a h0_Ways_l h0_Ways_c]⟩), .v (.int .i64 u0), .v (.int .i64 v0)], w, K => Quiet (Bool) (fun r => (.bool r)) (fun K1 w' => sh_postroadlaw10_HierFinds ⟨h0_Rank_a, h0_Rank_l, h0_Rank_c⟩ ⟨h0_Ways_a, h0_Ways_l, h0_Ways_c⟩ u0 v0 (fun r0 w'' => K1 r0 w'') w') w (fun r => K (.bool r))
  | _, _, _, _ => False
noncomputable def cx_postroadlaw10_HierFinds : Cx := Cx.add Try.prog cx_hier_Hier_At 7 sh_postroadlaw10_HierFinds.o sh_postroadlaw10_HierFinds.q
theorem cx_postroadlaw10_HierFinds.ok : CxOk cx_postroadlaw10_HierFinds := by
  refine CxOk.add cx_hier_Hier_At.ok rfl (fun CV hcv xs K w hx h => ?_) (fun CV hcv xs K w hx h => ?_)
  · unfold sh_postroadlaw10_HierFinds.o at h; split at h
    · rename_i h0_Rank_a h0_Rank_l h0_Rank_c h0_Ways_a h0_Ways_l h0_Ways_c u0 v0; exact sh_postroadlaw10_HierFinds.calls CV ⟨h0_Rank_a, h0_Rank_l, h0_Rank_c⟩ ⟨h0_Ways_a, h0_Ways_l, h0_Ways_c⟩ u0 v0 hcv h
    · exact h.elim
  · unfold sh_postroadlaw10_HierFinds.q at h; split at h
    · rename_i h0_Rank_a h0_Rank_l h0_Rank_c h0_Ways_a h0_Ways_l h0_Ways_c u0 v0; obtain ⟨r, h1, h2⟩ := h; exact ⟨_, h2, fun w' e => sh_postroadlaw10_HierFinds.calls CV ⟨h0_Rank_a, h0_Rank_l, h0_Rank_c⟩ ⟨h0_Ways_a, h0_Ways_l, h0_Ways_c⟩ u0 v0 hcv (h1 w' e)⟩
    · exact h.elim
def sh_hier_Hier_Way.plan : Plan := (.seq .o (.seq (.seq .o (.cond (.seq .o .o) .o)) (.seq .o .o)))
theorem sh_hier_Hier_Way.is (CV : CVT) (h0 : Option Addr) (k0 : Int) (w : World) (R : Value → World → Prop) : sh_hier_Hier_Way h0 k0 (fun r0 r1 r2 r3 r4 r5 w' => R (.tuple #[(.agg #[(.int .i64 r0), (.int .i64 r1), (.int .i64 r2), (.int .i64 r3), (.int .i64 r4)]), (.bool r5)]) w') w = denF (cx_postroadlaw10_HierFinds.with CV) Try.f26 sh_hier_Hier_Way.plan [.v (.pointer h0), .v (.int .i64 k0)] w R := by kernel_rfl
theorem sh_hier_Hier_Way.calls (CV : CVT) (h0 : Option Addr) (k0 : Int) (hcv : CVOk Try.prog CV) {w : World} {R : Ending → World → Prop} (h : sh_hier_Hier_Way h0 k0 (fun r0 r1 r2 r3 r4 r5 w' => R (.returned (.tuple #[(.agg #[(.int .i64 r0), (.int .i64 r1), (.int .i64 r2), (.int .i64 r3), (.int .i64 r4)]), (.bool r5)])) w') w) : Calls Try.prog 26 #[(.pointer h0), (.int .i64 k0)] w R :=
  calls_is (cx := cx_postroadlaw10_HierFinds.with CV) mixed_Try (cx_postroadlaw10_HierFinds.ok.with CV) hcv Try.func26 sh_hier_Hier_Way.plan (xs := [.v (.pointer h0), .v (.int .i64 k0)]) ((args_cons _ (args_cons _ args_nil))) (by kernel_rfl) (sh_hier_Hier_Way.is CV h0 k0 w (fun v w' => R (.returned v) w')) h
def sh_hier_Hier_Way.o : CVT → List X → (Value → World → Prop) → World → Prop
  | CV, [.v (.pointer h0), .v (.int .i64 k0)], K, w => sh_hier_Hier_Way h0 k0 (fun r0 r1 r2 r3 r4 r5 w' => K (.tuple #[(.agg #[(.int .i64 r0), (.int .i64 r1), (.int .i64 r2), (.int .i64 r3), (.int .i64 r4)]), (.bool r5)]) w') w
  | _, _, _, _ => False
def sh_hier_Hier_Way.q : CVT → List X → World → (Value → Prop) → Prop
  | CV, [.v (.pointer h0), .v (.int .i64 k0)], w, K => Quiet (Int × Int × Int × Int × Int × Bool) (fun r => (.tuple #[(.agg #[(.int .i64 r.1), (.int .i64 r.2.1), (.int .i64 r.2.2.1), (.int .i64 r.2.2.2.1), (.int .i64 r.2.2.2.2.1)]), (.bool r.2.2.2.2.2)])) (fun K1 w' => sh_hier_Hier_Way h0 k0 (fun r0 r1 r2 r3 r4 r5 w'' => K1 (r0, r1, r2, r3, r4, r5) w'') w') w (fun r => K (.tuple #[(.agg #[(.int .i64 r.1), (.int .i64 r.2.1), (.int .i64 r.2.2.1), (.int .i64 r.2.2.2.1), (.int .i64 r.2.2.2.2.1)]), (.bool r.2.2.2.2.2)]))
  | _, _, _, _ => False
noncomputable def cx_hier_Hier_Way : Cx := Cx.add Try.prog cx_postroadlaw10_HierFinds 26 sh_hier_Hier_Way.o sh_hier_Hier_Way.q
theorem cx_hier_Hier_Way.ok : CxOk cx_hier_Hier_Way := by
  refine CxOk.add cx_postroadlaw10_HierFinds.ok rfl (fun CV hcv xs K w hx h => ?_) (fun CV hcv xs K w hx h => ?_)
  · unfold sh_hier_Hier_Way.o at h; split at h
    · rename_i h0 k0; exact sh_hier_Hier_Way.calls CV h0 k0 hcv h
    · exact h.elim
  · unfold sh_hier_Hier_Way.q at h; split at h
    · rename_i h0 k0; obtain ⟨r, h1, h2⟩ := h; exact ⟨_, h2, fun w' e => sh_hier_Hier_Way.calls CV h0 k0 hcv (h1 w' e)⟩
    · exact h.elim
def sh_hier_Hier_Halves.plan : Plan := (.seq .o (.seq .o (.seq (.seq .o (.cond (.seq .o .o) .o)) (.seq (.draw [] [.pure, .pure, .pure, .quiet, .pure, .pure, .pure, .quiet, .loc, .quiet, .pure, .pure, .pure, .pure, .pure, .pure] [0, 1, 2, 3, 4, 5, 6, 7, 8, 9, 10, 11, 12, 13, 14, 15]) .o))))
theorem sh_hier_Hier_Halves.is (CV : CVT) (h0 : Option Addr) (k0 : Int) (w : World) (R : Value → World → Prop) : sh_hier_Hier_Halves h0 k0 (fun r0 r1 r2 w' => R (.tuple #[(.int .i64 r0), (.int .i64 r1), (.bool r2)]) w') w = denF (cx_hier_Hier_Way.with CV) Try.f27 sh_hier_Hier_Halves.plan [.v (.pointer h0), .v (.int .i64 k0)] w R := by kernel_rfl
theorem sh_hier_Hier_Halves.calls (CV : CVT) (h0 : Option Addr) (k0 : Int) (hcv : CVOk Try.prog CV) {w : World} {R : Ending → World → Prop} (h : sh_hier_Hier_Halves h0 k0 (fun r0 r1 r2 w' => R (.returned (.tuple #[(.int .i64 r0), (.int .i64 r1), (.bool r2)])) w') w) : Calls Try.prog 27 #[(.pointer h0), (.int .i64 k0)] w R :=
  calls_is (cx := cx_hier_Hier_Way.with CV) mixed_Try (cx_hier_Hier_Way.ok.with CV) hcv Try.func27 sh_hier_Hier_Halves.plan (xs := [.v (.pointer h0), .v (.int .i64 k0)]) ((args_cons _ (args_cons _ args_nil))) (by kernel_rfl) (sh_hier_Hier_Halves.is CV h0 k0 w (fun v w' => R (.returned v) w')) h
def sh_hier_Hier_Halves.o : CVT → List X → (Value → World → Prop) → World → Prop
  | CV, [.v (.pointer h0), .v (.int .i64 k0)], K, w => sh_hier_Hier_Halves h0 k0 (fun r0 r1 r2 w' => K (.tuple #[(.int .i64 r0), (.int .i64 r1), (.bool r2)]) w') w
  | _, _, _, _ => False
def sh_hier_Hier_Halves.q : CVT → List X → World → (Value → Prop) → Prop
  | CV, [.v (.pointer h0), .v (.int .i64 k0)], w, K => Quiet (Int × Int × Bool) (fun r => (.tuple #[(.int .i64 r.1), (.int .i64 r.2.1), (.bool r.2.2)])) (fun K1 w' => sh_hier_Hier_Halves h0 k0 (fun r0 r1 r2 w'' => K1 (r0, r1, r2) w'') w') w (fun r => K (.tuple #[(.int .i64 r.1), (.int .i64 r.2.1), (.bool r.2.2)]))
  | _, _, _, _ => False
noncomputable def cx_hier_Hier_Halves : Cx := Cx.add Try.prog cx_hier_Hier_Way 27 sh_hier_Hier_Halves.o sh_hier_Hier_Halves.q
theorem cx_hier_Hier_Halves.ok : CxOk cx_hier_Hier_Halves := by
  refine CxOk.add cx_hier_Hier_Way.ok rfl (fun CV hcv xs K w hx h => ?_) (fun CV hcv xs K w hx h => ?_)
  · unfold sh_hier_Hier_Halves.o at h; split at h
    · rename_i h0 k0; exact sh_hier_Hier_Halves.calls CV h0 k0 hcv h
    · exact h.elim
  · unfold sh_hier_Hier_Halves.q at h; split at h
    · rename_i h0 k0; obtain ⟨r, h1, h2⟩ := h; exact ⟨_, h2, fun w' e => sh_hier_Hier_Halves.calls CV h0 k0 hcv (h1 w' e)⟩
    · exact h.elim
def sh_postroadref10_Halves.plan : Plan := (.seq .o (.seq (.seq .o (.cond (.seq .o .o) .o)) (.seq .o (.seq (.draw [] [.loc, .pure, .loc, .pure, .pure, .loc, .quiet, .loc, .pure, .pure, .loc, .pure, .loc, .quiet, .pure, .pure, .pure] [0, 1, 2, 3, 4, 5, 6, 7, 8, 9, 10, 11, 12, 13, 14, 15, 16]) .o))))
theorem sh_postroadref10_Halves.is (CV : CVT) (h0_Rank : SV) (h0_Ways : SV) (k0 : Int) (w : World) (R : Value → World → Prop) : sh_postroadref10_Halves h0_Rank h0_Ways k0 (fun r0 r1 r2 w' => R (.tuple #[(.int .i64 r0), (.int .i64 r1), (.bool r2)]) w') w = denF (cx_hier_Hier_Halves.with CV) Try.f28 sh_postroadref10_Halves.plan [.v (.agg #[(.slice h0_Rank.a h0_Rank.len h0_Rank.cap), (.slice h0_Ways.a h0_Ways.len h0_Ways.cap)]), .v (.int .i64 k0)] w R := by kernel_rfl
theorem sh_postroadref10_Halves.calls (CV : CVT) (h0_Rank : SV) (h0_Ways : SV) (k0 : Int) (hcv : CVOk Try.prog CV) {w : World} {R : Ending → World → Prop} (h : sh_postroadref10_Halves h0_Rank h0_Ways k0 (fun r0 r1 r2 w' => R (.returned (.tuple #[(.int .i64 r0), (.int .i64 r1), (.bool r2)])) w') w) : Calls Try.prog 28 #[(.agg #[(.slice h0_Rank.a h0_Rank.len h0_Rank.cap), (.slice h0_Ways.a h0_Ways.len h0_Ways.cap)]), (.int .i64 k0)] w R :=
  calls_is (cx := cx_hier_Hier_Halves.with CV) mixed_Try (cx_hier_Hier_Halves.ok.with CV) hcv Try.func28 sh_postroadref10_Halves.plan (xs := [.v (.agg #[(.slice h0_Rank.a h0_Rank.len h0_Rank.cap), (.slice h0_Ways.a h0_Ways.len h0_Ways.cap)]), .v (.int .i64 k0)]) ((args_cons _ (args_cons _ args_nil))) (by kernel_rfl) (sh_postroadref10_Halves.is CV h0_Rank h0_Ways k0 w (fun v w' => R (.returned v) w')) h
def sh_postroadref10_Halves.o : CVT → List X → (Value → World → Prop) → World → Prop
  | CV, [.v (.agg ⟨[.slice h0_Rank_a h0_Rank_l h0_Rank_c, .slice h0_Ways_a h0_Ways_l h0_Ways_c]⟩), .v (.int .i64 k0)], K, w => sh_postroadref10_Halves ⟨h0_Rank_a, h0_Rank_l, h0_Rank_c⟩ ⟨h0_Ways_a, h0_Ways_l, h0_Ways_c⟩ k0 (fun r0 r1 r2 w' => K (.tuple #[(.int .i64 r0), (.int .i64 r1), (.bool r2)]) w') w
  | _, _, _, _ => False
def sh_postroadref10_Halves.q : CVT → List X → World → (Value → Prop) → Prop
  | CV, [.v (.agg ⟨[.slice h0_Rank_a h0_Rank_l h0_Rank_c, .slice h0_Ways_a h0_Ways_l h0_Ways_c]⟩), .v (.int .i64 k0)], w, K => Quiet (Int × Int × Bool) (fun r => (.tuple #[(.int .i64 r.1), (.int .i64 r.2.1), (.bool r.2.2)])) (fun K1 w' => sh_postroadref10_Halves ⟨h0_Rank_a, h0_Rank_l, h0_Rank_c⟩ ⟨h0_Ways_a, h0_Ways_l, h0_Ways_c⟩ k0 (fun r0 r1 r2 w'' => K1 (r0, r1, r2) w'') w') w (fun r => K (.tuple #[(.int .i64 r.1), (.int .i64 r.2.1), (.bool r.2.2)]))
  | _, _, _, _ => False
noncomputable def cx_postroadref10_Halves : Cx := Cx.add Try.prog cx_hier_Hier_Halves 28 sh_postroadref10_Halves.o sh_postroadref10_Halves.q
theorem cx_postroadref10_Halves.ok : CxOk cx_postroadref10_Halves := by
  refine CxOk.add cx_hier_Hier_Halves.ok rfl (fun CV hcv xs K w hx h => ?_) (fun CV hcv xs K w hx h => ?_)
  · unfold sh_postroadref10_Halves.o at h; split at h
    · rename_i h0_Rank_a h0_Rank_l h0_Rank_c h0_Ways_a h0_Ways_l h0_Ways_c k0; exact sh_postroadref10_Halves.calls CV ⟨h0_Rank_a, h0_Rank_l, h0_Rank_c⟩ ⟨h0_Ways_a, h0_Ways_l, h0_Ways_c⟩ k0 hcv h
    · exact h.elim
  · unfold sh_postroadref10_Halves.q at h; split at h
    · rename_i h0_Rank_a h0_Rank_l h0_Rank_c h0_Ways_a h0_Ways_l h0_Ways_c k0; obtain ⟨r, h1, h2⟩ := h; exact ⟨_, h2, fun w' e => sh_postroadref10_Halves.calls CV ⟨h0_Rank_a, h0_Rank_l, h0_Rank_c⟩ ⟨h0_Ways_a, h0_Ways_l, h0_Ways_c⟩ k0 hcv (h1 w' e)⟩
    · exact h.elim
def sh_postroadlaw10_HierTells.plan : Plan := (.seq .o (.seq (.seq .o (.cond (.seq .o .o) .o)) (.seq .o (.seq .o (.seq (.seq .o (.cond (.seq .o .o) .o)) (.seq (.seq .o (.cond (.seq .o .o) .o)) (.seq .o (.join [.slot 11 (.int .i64)] [] (.seq .o (.cond .o .o)) (.seq .o (.seq .o (.join [] [] (.seq (.draw [] [.pure, .pure, .pure, .pure, .pure, .pure, .loc, .pure, .loc, .pure, .pure, .quiet, .pure, .pure, .pure, .pure, .pure, .pure, .pure, .loc, .pure, .pure, .pure, .pure] [0, 1, 2, 3, 4, 5, 6, 7, 8, 9, 10, 11, 12, 13, 14, 15, 16, 17, 18, 19, 20, 21, 22, 23]) (.cond (.seq .o .o) .o)) (.seq .o (.seq .o (.seq (.seq .o (.cond (.seq .o .o) .o)) (.seq (.draw [] [.pure, .quiet, .pure, .loc, .pure, .pure, .pure, .pure, .pure, .quiet, .pure, .pure, .pure, .pure, .pure, .pure, .quiet, .loc, .pure, .quiet, .pure, .pure, .pure, .pure, .pure, .pure, .quiet, .loc, .pure, .pure, .quiet, .pure, .pure, .pure, .big, .pure, .pure] [0, 1, 2, 3, 4, 5, 6, 7, 8, 9, 10, 11, 12, 13, 14, 15, 16, 17, 18, 19, 20, 21, 22, 23, 24, 25, 26, 27, 28, 29, 30, 31, 32, 33, 34, 35, 36]) .o)))))))))))))))
theorem sh_postroadlaw10_HierTells.is (CV : CVT) (h0_Rank : SV) (h0_Ways : SV) (u0 : Int) (v0 : Int) (k0 : Int) (w : World) (R : Value → World → Prop) : sh_postroadlaw10_HierTells h0_Rank h0_Ways u0 v0 k0 (fun r0 w' => R (.bool r0) w') w = denF (cx_postroadref10_Halves.with CV) Try.f8 sh_postroadlaw10_HierTells.plan [.v (.agg #[(.slice h0_Rank.a h0_Rank.len h0_Rank.cap), (.slice h0_Ways.a h0_Ways.len h0_Ways.cap)]), .v (.int .i64 u0), .v (.int .i64 v0), .v (.int .i64 k0)] w R := by kernel_rfl
theorem sh_postroadlaw10_HierTells.calls (CV : CVT) (h0_Rank : SV) (h0_Ways : SV) (u0 : Int) (v0 : Int) (k0 : Int) (hcv : CVOk Try.prog CV) {w : World} {R : Ending → World → Prop} (h : sh_postroadlaw10_HierTells h0_Rank h0_Ways u0 v0 k0 (fun r0 w' => R (.returned (.bool r0)) w') w) : Calls Try.prog 8 #[(.agg #[(.slice h0_Rank.a h0_Rank.len h0_Rank.cap), (.slice h0_Ways.a h0_Ways.len h0_Ways.cap)]), (.int .i64 u0), (.int .i64 v0), (.int .i64 k0)] w R :=
  calls_is (cx := cx_postroadref10_Halves.with CV) mixed_Try (cx_postroadref10_Halves.ok.with CV) hcv Try.func8 sh_postroadlaw10_HierTells.plan (xs := [.v (.agg #[(.slice h0_Rank.a h0_Rank.len h0_Rank.cap), (.slice h0_Ways.a h0_Ways.len h0_Ways.cap)]), .v (.int .i64 u0), .v (.int .i64 v0), .v (.int .i64 k0)]) ((args_cons _ (args_cons _ (args_cons _ (args_cons _ args_nil))))) (by kernel_rfl) (sh_postroadlaw10_HierTells.is CV h0_Rank h0_Ways u0 v0 k0 w (fun v w' => R (.returned v) w')) h
def sh_postroadlaw10_HierTells.o : CVT → List X → (Value → World → Prop) → World → Prop
  | CV, [.v (.agg ⟨[.slice h0_Rank_a h0_Rank_l h0_Rank_c, .slice h0_Ways_a h0_Ways_l h0_Ways_c]⟩), .v (.int .i64 u0), .v (.int .i64 v0), .v (.int .i64 k0)], K, w => sh_postroadlaw10_HierTells ⟨h0_Rank_a, h0_Rank_l, h0_Rank_c⟩ ⟨h0_Ways_a, h0_Ways_l, h0_Ways_c⟩ u0 v0 k0 (fun r0 w' => K (.bool r0) w') w
  | _, _, _, _ => False
def sh_postroadlaw10_HierTells.q : CVT → List X → World → (Value → Prop) → Prop
  | CV, [.v (.agg ⟨[.slice h0_Rank_a h0_Rank_l h0_Rank_c, .slice h0_Ways_a h0_Ways_l h0_Ways_c]⟩), .v (.int .i64 u0), .v (.int .i64 v0), .v (.int .i64 k0)], w, K => Quiet (Bool) (fun r => (.bool r)) (fun K1 w' => sh_postroadlaw10_HierTells ⟨h0_Rank_a, h0_Rank_l, h0_Rank_c⟩ ⟨h0_Ways_a, h0_Ways_l, h0_Ways_c⟩ u0 v0 k0 (fun r0 w'' => K1 r0 w'') w') w (fun r => K (.bool r))
  | _, _, _, _ => False
noncomputable def cx_postroadlaw10_HierTells : Cx := Cx.add Try.prog cx_postroadref10_Halves 8 sh_postroadlaw10_HierTells.o sh_postroadlaw10_HierTells.q
theorem cx_postroadlaw10_HierTells.ok : CxOk cx_postroadlaw10_HierTells := by
  refine CxOk.add cx_postroadref10_Halves.ok rfl (fun CV hcv xs K w hx h => ?_) (fun CV hcv xs K w hx h => ?_)
  · unfold sh_postroadlaw10_HierTells.o at h; split at h
    · rename_i h0_Rank_a h0_Rank_l h0_Rank_c h0_Ways_a h0_Ways_l h0_Ways_c u0 v0 k0; exact sh_postroadlaw10_HierTells.calls CV ⟨h0_Rank_a, h0_Rank_l, h0_Rank_c⟩ ⟨h0_Ways_a, h0_Ways_l, h0_Ways_c⟩ u0 v0 k0 hcv h
    · exact h.elim
  · unfold sh_postroadlaw10_HierTells.q at h; split at h
    · rename_i h0_Rank_a h0_Rank_l h0_Rank_c h0_Ways_a h0_Ways_l h0_Ways_c u0 v0 k0; obtain ⟨r, h1, h2⟩ := h; exact ⟨_, h2, fun w' e => sh_postroadlaw10_HierTells.calls CV ⟨h0_Rank_a, h0_Rank_l, h0_Rank_c⟩ ⟨h0_Ways_a, h0_Ways_l, h0_Ways_c⟩ u0 v0 k0 hcv (h1 w' e)⟩
    · exact h.elim
def sh_postroadlaw10_HierRises.plan : Plan := (.seq .o (.seq (.seq .o (.cond (.seq .o .o) .o)) (.seq .o (.seq .o (.join [] [] (.seq .o (.block (.loop [.slot 5 (.int .i64)] [] (.seq (.seq .o (.cond .o .o)) (.join [] [] (.block (.seq (.seq .o (.cond (.seq .o .o) .o)) (.seq .o (.join [] [] (.seq .o (.block (.loop [.slot 7 (.int .i64)] [] (.seq (.seq .o (.cond .o .o)) (.seq (.block (.join [] [] (.seq (.draw [] [.pure, .pure, .pure, .pure, .pure, .quiet, .quiet, .pure, .pure, .quiet, .pure, .pure, .pure, .pure, .pure, .pure, .pure, .pure, .quiet, .quiet, .pure, .pure, .pure, .pure, .quiet, .pure, .pure, .pure, .pure, .pure, .pure, .pure, .pure, .pure, .pure, .quiet, .pure, .pure, .pure, .pure, .pure, .quiet, .pure, .pure, .pure] [0, 1, 2, 3, 4, 5, 6, 7, 8, 9, 10, 11, 12, 13, 14, 15, 16, 17, 18, 19, 20, 21, 22, 23, 24, 25, 26, 27, 28, 29, 30, 31, 32, 33, 34, 35, 36, 37, 38, 39, 40, 41, 42, 43, 44]) (.cond (.seq .o .o) .o)) (.draw [] [.pure, .pure, .pure, .pure, .pure, .quiet, .pure, .pure, .pure, .pure, .pure, .quiet, .pure, .quiet, .pure, .pure, .big] [0, 1, 2, 3, 4, 5, 6, 7, 8, 9, 10, 11, 12, 13, 14, 15, 16]))) .o))))) (.seq .o (.seq .o (.block (.loop [.slot 9 (.int .i64)] [] (.seq (.seq .o (.cond .o .o)) (.seq (.block (.seq (.seq (.draw [] [.pure, .pure, .pure, .pure, .pure, .quiet, .quiet, .pure, .pure, .quiet, .pure, .pure, .pure, .pure, .pure, .pure, .pure, .quiet, .pure, .quiet, .pure, .pure, .pure, .pure, .quiet, .pure, .pure] [0, 1, 2, 3, 4, 5, 6, 7, 8, 9, 10, 11, 12, 13, 14, 15, 16, 17, 18, 19, 20, 21, 22, 23, 24, 25, 26]) (.cond (.seq .o .o) .o)) (.draw [] [.pure, .pure, .pure, .pure, .pure, .quiet, .pure, .pure, .pure, .pure, .pure, .quiet, .pure, .quiet, .pure, .pure, .big] [0, 1, 2, 3, 4, 5, 6, 7, 8, 9, 10, 11, 12, 13, 14, 15, 16]))) .o)))))))))) .o))))) (.join [] [] (.seq .o (.block (.loop [.slot 10 (.int .i64)] [] (.seq (.seq .o (.cond .o .o)) (.join [] [] (.block (.seq .o (.seq .o (.seq (.seq .o (.cond (.seq .o .o) .o)) (.seq (.seq .o (.cond .o .o)) (.seq .o (.seq .o (.seq (.draw [] [.pure, .loc, .pure, .loc, .pure, .pure, .pure, .loc, .pure, .pure, .loc, .pure, .pure, .pure, .pure, .loc, .pure, .pure, .loc, .pure, .pure, .pure, .pure, .loc, .pure, .loc, .pure, .pure, .pure, .pure, .pure, .loc, .pure, .pure, .loc, .pure, .pure, .pure, .loc, .pure, .pure, .pure, .pure, .pure, .pure, .loc, .quiet, .pure, .pure, .loc, .quiet, .pure, .pure, .pure, .pure, .pure, .pure, .loc, .quiet, .pure, .pure, .loc, .quiet, .pure, .pure] [0, 1, 2, 3, 4, 5, 6, 7, 8, 9, 10, 11, 12, 13, 14, 15, 16, 17, 18, 19, 20, 21, 22, 23, 24, 25, 26, 27, 28, 29, 30, 31, 32, 33, 34, 35, 36, 37, 38, 39, 40, 41, 42, 43, 44, 45, 46, 47, 48, 49, 50, 51, 52, 53, 54, 55, 56, 57, 58, 59, 60, 61, 62, 63, 64]) (.cond (.seq .o .o) .o))))))))) .o))))) (.seq .o .o)))))))
theorem sh_postroadlaw10_HierRises.is (CV : CVT) (h0_Rank : SV) (h0_Ways : SV) (w : World) (R : Value → World → Prop) : sh_postroadlaw10_HierRises h0_Rank h0_Ways (fun r0 w' => R (.bool r0) w') w = denF (cx_postroadlaw10_HierTells.with CV) Try.f9 sh_postroadlaw10_HierRises.plan [.v (.agg #[(.slice h0_Rank.a h0_Rank.len h0_Rank.cap), (.slice h0_Ways.a h0_Ways.len h0_Ways.cap)])] w R := by kernel_rfl
theorem sh_postroadlaw10_HierRises.calls (CV : CVT) (h0_Rank : SV) (h0_Ways : SV) (hcv : CVOk Try.prog CV) {w : World} {R : Ending → World → Prop} (h : sh_postroadlaw10_HierRises h0_Rank h0_Ways (fun r0 w' => R (.returned (.bool r0)) w') w) : Calls Try.prog 9 #[(.agg #[(.slice h0_Rank.a h0_Rank.len h0_Rank.cap), (.slice h0_Ways.a h0_Ways.len h0_Ways.cap)])] w R :=
  calls_is (cx := cx_postroadlaw10_HierTells.with CV) mixed_Try (cx_postroadlaw10_HierTells.ok.with CV) hcv Try.func9 sh_postroadlaw10_HierRises.plan (xs := [.v (.agg #[(.slice h0_Rank.a h0_Rank.len h0_Rank.cap), (.slice h0_Ways.a h0_Ways.len h0_Ways.cap)])]) ((args_cons _ args_nil)) (by kernel_rfl) (sh_postroadlaw10_HierRises.is CV h0_Rank h0_Ways w (fun v w' => R (.returned v) w')) h
def sh_postroadlaw10_HierRises.o : CVT → List X → (Value → World → Prop) → World → Prop
  | CV, [.v (.agg ⟨[.slice h0_Rank_a h0_Rank_l h0_Rank_c, .slice h0_Ways_a h0_Ways_l h0_Ways_c]⟩)], K, w => sh_postroadlaw10_HierRises ⟨h0_Rank_a, h0_Rank_l, h0_Rank_c⟩ ⟨h0_Ways_a, h0_Ways_l, h0_Ways_c⟩ (fun r0 w' => K (.bool r0) w') w
  | _, _, _, _ => False
def sh_postroadlaw10_HierRises.q : CVT → List X → World → (Value → Prop) → Prop
  | CV, [.v (.agg ⟨[.slice h0_Rank_a h0_Rank_l h0_Rank_c, .slice h0_Ways_a h0_Ways_l h0_Ways_c]⟩)], w, K => Quiet (Bool) (fun r => (.bool r)) (fun K1 w' => sh_postroadlaw10_HierRises ⟨h0_Rank_a, h0_Rank_l, h0_Rank_c⟩ ⟨h0_Ways_a, h0_Ways_l, h0_Ways_c⟩ (fun r0 w'' => K1 r0 w'') w') w (fun r => K (.bool r))
  | _, _, _, _ => False
noncomputable def cx_postroadlaw10_HierRises : Cx := Cx.add Try.prog cx_postroadlaw10_HierTells 9 sh_postroadlaw10_HierRises.o sh_postroadlaw10_HierRises.q
theorem cx_postroadlaw10_HierRises.ok : CxOk cx_postroadlaw10_HierRises := by
  refine CxOk.add cx_postroadlaw10_HierTells.ok rfl (fun CV hcv xs K w hx h => ?_) (fun CV hcv xs K w hx h => ?_)
  · unfold sh_postroadlaw10_HierRises.o at h; split at h
    · rename_i h0_Rank_a h0_Rank_l h0_Rank_c h0_Ways_a h0_Ways_l h0_Ways_c; exact sh_postroadlaw10_HierRises.calls CV ⟨h0_Rank_a, h0_Rank_l, h0_Rank_c⟩ ⟨h0_Ways_a, h0_Ways_l, h0_Ways_c⟩ hcv h
    · exact h.elim
  · unfold sh_postroadlaw10_HierRises.q at h; split at h
    · rename_i h0_Rank_a h0_Rank_l h0_Rank_c h0_Ways_a h0_Ways_l h0_Ways_c; obtain ⟨r, h1, h2⟩ := h; exact ⟨_, h2, fun w' e => sh_postroadlaw10_HierRises.calls CV ⟨h0_Rank_a, h0_Rank_l, h0_Rank_c⟩ ⟨h0_Ways_a, h0_Ways_l, h0_Ways_c⟩ hcv (h1 w' e)⟩
    · exact h.elim
noncomputable def cxAll : Cx := cx_postroadlaw10_HierRises
theorem cxAll.ok : CxOk cxAll := cx_postroadlaw10_HierRises.ok
end Go.Sh
