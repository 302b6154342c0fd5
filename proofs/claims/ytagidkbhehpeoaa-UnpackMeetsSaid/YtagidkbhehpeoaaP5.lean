/- All0Ok: merged into one text. -/
import Derived.Test.YtagidkbhehpeoaaP3
import Derived.Test.YtagidkbhehpeoaaP2
import Derived.Test.YtagidkbhehpeoaaProg
import Derived.KernelRfl
/- The shallow definitions are what the code asks; printed by gen.py of these sessions. -/
set_option maxRecDepth 100000
set_option linter.unusedVariables false
namespace Go.Sh
open Go.Proofs
theorem mixed_Try : Try.prog.follows .mixedOrders = true := by kernel_rfl
noncomputable def cx_0 : Cx := Cx.none Try.prog
theorem cx_0.ok : CxOk cx_0 := CxOk.none _
def sh_postroadref10_At.plan : Plan := (.seq .o (.seq (.seq .o (.block (.loop [.slot 5 (.int .i64)] [] (.seq (.seq .o (.cond .o .o)) (.seq (.block (.seq .o (.cond (.seq .o .o) .o))) .o))))) (.seq .o .o)))
theorem sh_postroadref10_At.is (CV : CVT) (h0_Rank : SV) (h0_Ways : SV) (rank0 : Int) (w : World) (R : Value → World → Prop) : sh_postroadref10_At h0_Rank h0_Ways rank0 (fun r0 w' => R (.int .i64 r0) w') w = denF (cx_0.with CV) Try.f56 sh_postroadref10_At.plan [.v (.agg #[(.slice h0_Rank.a h0_Rank.len h0_Rank.cap), (.slice h0_Ways.a h0_Ways.len h0_Ways.cap)]), .v (.int .i64 rank0)] w R := by kernel_rfl
theorem sh_postroadref10_At.calls (CV : CVT) (h0_Rank : SV) (h0_Ways : SV) (rank0 : Int) (hcv : CVOk Try.prog CV) {w : World} {R : Ending → World → Prop} (h : sh_postroadref10_At h0_Rank h0_Ways rank0 (fun r0 w' => R (.returned (.int .i64 r0)) w') w) : Calls Try.prog 56 #[(.agg #[(.slice h0_Rank.a h0_Rank.len h0_Rank.cap), (.slice h0_Ways.a h0_Ways.len h0_Ways.cap)]), (.int .i64 rank0)] w R :=
  calls_is (cx := cx_0.with CV) mixed_Try (cx_0.ok.with CV) hcv Try.func56 sh_postroadref10_At.plan (xs := [.v (.agg #[(.slice h0_Rank.a h0_Rank.len h0_Rank.cap), (.slice h0_Ways.a h0_Ways.len h0_Ways.cap)]), .v (.int .i64 rank0)]) ((args_cons _ (args_cons _ args_nil))) (by kernel_rfl) (sh_postroadref10_At.is CV h0_Rank h0_Ways rank0 w (fun v w' => R (.returned v) w')) h
def sh_postroadref10_At.o : CVT → List X → (Value → World → Prop) → World → Prop
  | CV, [.v (.agg ⟨[.slice h0_Rank_a h0_Rank_l h0_Rank_c, .slice h0_Ways_a h0_Ways_l h0_Ways_c]⟩), .v (.int .i64 rank0)], K, w => sh_postroadref10_At ⟨h0_Rank_a, h0_Rank_l, h0_Rank_c⟩ ⟨h0_Ways_a, h0_Ways_l, h0_Ways_c⟩ rank0 (fun r0 w' => K (.int .i64 r0) w') w
  | _, _, _, _ => False
def sh_postroadref10_At.q : CVT → List X → World → (Value → Prop) → Prop
  | CV, [.v (.agg ⟨[.slice h0_Rank_a h0_Rank_l h0_Rank_c, .slice h0_Ways_a h0_Ways_l h0_Ways_c]⟩), .v (.int .i64 rank0)], w, K => Quiet (Int) (fun r => (.int .i64 r)) (fun K1 w' => sh_postroadref10_At ⟨h0_Rank_a, h0_Rank_l, h0_Rank_c⟩ ⟨h0_Ways_a, h0_Ways_l, h0_Ways_c⟩ rank0 (fun r0 w'' => K1 r0 w'') w') w (fun r => K (.int .i64 r))
  | _, _, _, _ => False
noncomputable def cx_postroadref10_At : Cx := Cx.add Try.prog cx_0 56 sh_postroadref10_At.o sh_postroadref10_At.q
theorem cx_postroadref10_At.ok : CxOk cx_postroadref10_At := by
  refine CxOk.add cx_0.ok rfl (fun CV hcv xs K w hx h => ?_) (fun CV hcv xs K w hx h => ?_)
  · unfold sh_postroadref10_At.o at h; split at h
    · rename_i h0_Rank_a h0_Rank_l h0_Rank_c h0_Ways_a h0_Ways_l h0_Ways_c rank0; exact sh_postroadref10_At.calls CV ⟨h0_Rank_a, h0_Rank_l, h0_Rank_c⟩ ⟨h0_Ways_a, h0_Ways_l, h0_Ways_c⟩ rank0 hcv h
    · exact h.elim
  · unfold sh_postroadref10_At.q at h; split at h
    · rename_i h0_Rank_a h0_Rank_l h0_Rank_c h0_Ways_a h0_Ways_l h0_Ways_c rank0; obtain ⟨r, h1, h2⟩ := h; exact ⟨_, h2, fun w' e => sh_postroadref10_At.calls CV ⟨h0_Rank_a, h0_Rank_l, h0_Rank_c⟩ ⟨h0_Ways_a, h0_Ways_l, h0_Ways_c⟩ rank0 hcv (h1 w' e)⟩
    · exact h.elim
def sh_postroadref10_place.plan : Plan := (.seq .o (.seq .o .o))
theorem sh_postroadref10_place.is (CV : CVT) (h0_Rank : SV) (h0_Ways : SV) (v0 : Int) (w : World) (R : Value → World → Prop) : sh_postroadref10_place h0_Rank h0_Ways v0 (fun r0 w' => R (.bool r0) w') w = denF (cx_postroadref10_At.with CV) Try.f86 sh_postroadref10_place.plan [.v (.agg #[(.slice h0_Rank.a h0_Rank.len h0_Rank.cap), (.slice h0_Ways.a h0_Ways.len h0_Ways.cap)]), .v (.int .i64 v0)] w R := by kernel_rfl
theorem sh_postroadref10_place.calls (CV : CVT) (h0_Rank : SV) (h0_Ways : SV) (v0 : Int) (hcv : CVOk Try.prog CV) {w : World} {R : Ending → World → Prop} (h : sh_postroadref10_place h0_Rank h0_Ways v0 (fun r0 w' => R (.returned (.bool r0)) w') w) : Calls Try.prog 86 #[(.agg #[(.slice h0_Rank.a h0_Rank.len h0_Rank.cap), (.slice h0_Ways.a h0_Ways.len h0_Ways.cap)]), (.int .i64 v0)] w R :=
  calls_is (cx := cx_postroadref10_At.with CV) mixed_Try (cx_postroadref10_At.ok.with CV) hcv Try.func86 sh_postroadref10_place.plan (xs := [.v (.agg #[(.slice h0_Rank.a h0_Rank.len h0_Rank.cap), (.slice h0_Ways.a h0_Ways.len h0_Ways.cap)]), .v (.int .i64 v0)]) ((args_cons _ (args_cons _ args_nil))) (by kernel_rfl) (sh_postroadref10_place.is CV h0_Rank h0_Ways v0 w (fun v w' => R (.returned v) w')) h
def sh_postroadref10_place.o : CVT → List X → (Value → World → Prop) → World → Prop
  | CV, [.v (.agg ⟨[.slice h0_Rank_a h0_Rank_l h0_Rank_c, .slice h0_Ways_a h0_Ways_l h0_Ways_c]⟩), .v (.int .i64 v0)], K, w => sh_postroadref10_place ⟨h0_Rank_a, h0_Rank_l, h0_Rank_c⟩ ⟨h0_Ways_a, h0_Ways_l, h0_Ways_c⟩ v0 (fun r0 w' => K (.bool r0) w') w
  | _, _, _, _ => False
def sh_postroadref10_place.q : CVT → List X → World → (Value → Prop) → Prop
  | CV, [.v (.agg ⟨[.slice h0_Rank_a h0_Rank_l h0_Rank_c, .slice h0_Ways_a h0_Ways_l h0_Ways_c]⟩), .v (.int .i64 v0)], w, K => Quiet (Bool) (fun r => (.bool r)) (fun K1 w' => sh_postroadref10_place ⟨h0_Rank_a, h0_Rank_l, h0_Rank_c⟩ ⟨h0_Ways_a, h0_Ways_l, h0_Ways_c⟩ v0 (fun r0 w'' => K1 r0 w'') w') w (fun r => K (.bool r))
  | _, _, _, _ => False
noncomputable def cx_postroadref10_place : Cx := Cx.add Try.prog cx_postroadref10_At 86 sh_postroadref10_place.o sh_postroadref10_place.q
theorem cx_postroadref10_place.ok : CxOk cx_postroadref10_place := by
  refine CxOk.add cx_postroadref10_At.ok rfl (fun CV hcv xs K w hx h => ?_) (fun CV hcv xs K w hx h => ?_)
  · unfold sh_postroadref10_place.o at h; split at h
    · rename_i h0_Rank_a h0_Rank_l h0_Rank_c h0_Ways_a h0_Ways_l h0_Ways_c v0; exact sh_postroadref10_place.calls CV ⟨h0_Rank_a, h0_Rank_l, h0_Rank_c⟩ ⟨h0_Ways_a, h0_Ways_l, h0_Ways_c⟩ v0 hcv h
    · exact h.elim
  · unfold sh_postroadref10_place.q at h; split at h
    · rename_i h0_Rank_a h0_Rank_l h0_Rank_c h0_Ways_a h0_Ways_l h0_Ways_c v0; obtain ⟨r, h1, h2⟩ := h; exact ⟨_, h2, fun w' e => sh_postroadref10_place.calls CV ⟨h0_Rank_a, h0_Rank_l, h0_Rank_c⟩ ⟨h0_Ways_a, h0_Ways_l, h0_Ways_c⟩ v0 hcv (h1 w' e)⟩
    · exact h.elim
def sh_postroadref10_Find.plan : Plan := (.seq .o (.seq (.seq .o (.block (.loop [.slot 7 (.int .i64)] [] (.seq (.seq .o (.cond .o .o)) (.join [] [] (.block (.seq .o (.cond (.seq .o .o) .o))) .o))))) (.seq .o .o)))
theorem sh_postroadref10_Find.is (CV : CVT) (h0_Rank : SV) (h0_Ways : SV) (u0 : Int) (v0 : Int) (w : World) (R : Value → World → Prop) : sh_postroadref10_Find h0_Rank h0_Ways u0 v0 (fun r0 w' => R (.int .i64 r0) w') w = denF (cx_postroadref10_place.with CV) Try.f63 sh_postroadref10_Find.plan [.v (.agg #[(.slice h0_Rank.a h0_Rank.len h0_Rank.cap), (.slice h0_Ways.a h0_Ways.len h0_Ways.cap)]), .v (.int .i64 u0), .v (.int .i64 v0)] w R := by kernel_rfl
theorem sh_postroadref10_Find.calls (CV : CVT) (h0_Rank : SV) (h0_Ways : SV) (u0 : Int) (v0 : Int) (hcv : CVOk Try.prog CV) {w : World} {R : Ending → World → Prop} (h : sh_postroadref10_Find h0_Rank h0_Ways u0 v0 (fun r0 w' => R (.returned (.int .i64 r0)) w') w) : Calls Try.prog 63 #[(.agg #[(.slice h0_Rank.a h0_Rank.len h0_Rank.cap), (.slice h0_Ways.a h0_Ways.len h0_Ways.cap)]), (.int .i64 u0), (.int .i64 v0)] w R :=
  calls_is (cx := cx_postroadref10_place.with CV) mixed_Try (cx_postroadref10_place.ok.with CV) hcv Try.func63 sh_postroadref10_Find.plan (xs := [.v (.agg #[(.slice h0_Rank.a h0_Rank.len h0_Rank.cap), (.slice h0_Ways.a h0_Ways.len h0_Ways.cap)]), .v (.int .i64 u0), .v (.int .i64 v0)]) ((args_cons _ (args_cons _ (args_cons _ args_nil)))) (by kernel_rfl) (sh_postroadref10_Find.is CV h0_Rank h0_Ways u0 v0 w (fun v w' => R (.returned v) w')) h
def sh_postroadref10_Find.o : CVT → List X → (Value → World → Prop) → World → Prop
  | CV, [.v (.agg ⟨[.slice h0_Rank_a h0_Rank_l h0_Rank_c, .slice h0_Ways_a h0_Ways_l h0_Ways_c]⟩), .v (.int .i64 u0), .v (.int .i64 v0)], K, w => sh_postroadref10_Find ⟨h0_Rank_a, h0_Rank_l, h0_Rank_c⟩ ⟨h0_Ways_a, h0_Ways_l, h0_Ways_c⟩ u0 v0 (fun r0 w' => K (.int .i64 r0) w') w
  | _, _, _, _ => False
def sh_postroadref10_Find.q : CVT → List X → World → (Value → Prop) → Prop
  | CV, [.v (.agg ⟨[.slice h0_Rank_a h0_Rank_l h0_Rank_c, .slice h0_Ways_a h0_Ways_l h0_Ways_c]⟩), .v (.int .i64 u0), .v (.int .i64 v0)], w, K => Quiet (Int) (fun r => (.int .i64 r)) (fun K1 w' => sh_postroadref10_Find ⟨h0_Rank_a, h0_Rank_l, h0_Rank_c⟩ ⟨h0_Ways_a, h0_Ways_l, h0_Ways_c⟩ u0 v0 (fun r0 w'' => K1 r0 w'') w') w (fun r => K (.int .i64 r))
  | _, _, _, _ => False
noncomputable def cx_postroadref10_Find : Cx := Cx.add Try.prog cx_postroadref10_place 63 sh_postroadref10_Find.o sh_postroadref10_Find.q
theorem cx_postroadref10_Find.ok : CxOk cx_postroadref10_Find := by
  refine CxOk.add cx_postroadref10_place.ok rfl (fun CV hcv xs K w hx h => ?_) (fun CV hcv xs K w hx h => ?_)
  · unfold sh_postroadref10_Find.o at h; split at h
    · rename_i h0_Rank_a h0_Rank_l h0_Rank_c h0_Ways_a h0_Ways_l h0_Ways_c u0 v0; exact sh_postroadref10_Find.calls CV ⟨h0_Rank_a, h0_Rank_l, h0_Rank_c⟩ ⟨h0_Ways_a, h0_Ways_l, h0_Ways_c⟩ u0 v0 hcv h
    · exact h.elim
  · unfold sh_postroadref10_Find.q at h; split at h
    · rename_i h0_Rank_a h0_Rank_l h0_Rank_c h0_Ways_a h0_Ways_l h0_Ways_c u0 v0; obtain ⟨r, h1, h2⟩ := h; exact ⟨_, h2, fun w' e => sh_postroadref10_Find.calls CV ⟨h0_Rank_a, h0_Rank_l, h0_Rank_c⟩ ⟨h0_Ways_a, h0_Ways_l, h0_Ways_c⟩ u0 v0 hcv (h1 w' e)⟩
    · exact h.elim
def sh_postroadref10_right.plan : Plan := (.seq .o (.seq .o (.seq (.seq .o (.cond (.seq .o .o) .o)) (.seq (.seq .o (.cond (.seq .o .o) .o)) (.seq (.seq (.draw [] [.pure, .pure, .loc, .pure, .pure, .loc, .pure, .pure, .loc, .quiet, .pure, .pure, .pure, .pure, .loc, .pure, .pure, .loc, .pure, .quiet, .pure, .loc, .pure, .loc, .pure, .quiet, .pure, .pure, .pure, .pure, .loc, .pure, .pure, .loc, .pure, .quiet, .pure, .loc, .pure, .loc, .pure, .quiet, .pure, .pure] [0, 1, 2, 3, 4, 5, 6, 7, 8, 9, 10, 11, 12, 13, 14, 15, 16, 17, 18, 19, 20, 21, 22, 23, 24, 25, 26, 27, 28, 29, 30, 31, 32, 33, 34, 35, 36, 37, 38, 39, 40, 41, 42, 43]) (.cond (.seq .o .o) .o)) (.seq .o (.seq .o (.seq (.draw [] [.pure, .pure, .pure, .pure, .pure, .pure, .pure, .pure, .loc, .pure, .pure, .pure, .pure, .quiet, .pure, .loc, .pure, .pure, .pure, .pure, .quiet, .pure, .pure, .pure, .loc, .pure, .pure, .pure] [0, 1, 2, 3, 4, 5, 6, 7, 8, 9, 10, 11, 12, 13, 14, 15, 16, 17, 18, 19, 20, 21, 22, 23, 24, 25, 26, 27]) .o))))))))
theorem sh_postroadref10_right.is (CV : CVT) (h0_Rank : SV) (h0_Ways : SV) (i0 : Int) (w : World) (R : Value → World → Prop) : sh_postroadref10_right h0_Rank h0_Ways i0 (fun r0 w' => R (.bool r0) w') w = denF (cx_postroadref10_Find.with CV) Try.f57 sh_postroadref10_right.plan [.v (.agg #[(.slice h0_Rank.a h0_Rank.len h0_Rank.cap), (.slice h0_Ways.a h0_Ways.len h0_Ways.cap)]), .v (.int .i64 i0)] w R := by kernel_rfl
theorem sh_postroadref10_right.calls (CV : CVT) (h0_Rank : SV) (h0_Ways : SV) (i0 : Int) (hcv : CVOk Try.prog CV) {w : World} {R : Ending → World → Prop} (h : sh_postroadref10_right h0_Rank h0_Ways i0 (fun r0 w' => R (.returned (.bool r0)) w') w) : Calls Try.prog 57 #[(.agg #[(.slice h0_Rank.a h0_Rank.len h0_Rank.cap), (.slice h0_Ways.a h0_Ways.len h0_Ways.cap)]), (.int .i64 i0)] w R :=
  calls_is (cx := cx_postroadref10_Find.with CV) mixed_Try (cx_postroadref10_Find.ok.with CV) hcv Try.func57 sh_postroadref10_right.plan (xs := [.v (.agg #[(.slice h0_Rank.a h0_Rank.len h0_Rank.cap), (.slice h0_Ways.a h0_Ways.len h0_Ways.cap)]), .v (.int .i64 i0)]) ((args_cons _ (args_cons _ args_nil))) (by kernel_rfl) (sh_postroadref10_right.is CV h0_Rank h0_Ways i0 w (fun v w' => R (.returned v) w')) h
def sh_postroadref10_right.o : CVT → List X → (Value → World → Prop) → World → Prop
  | CV, [.v (.agg ⟨[.slice h0_Rank_a h0_Rank_l h0_Rank_c, .slice h0_Ways_a h0_Ways_l h0_Ways_c]⟩), .v (.int .i64 i0)], K, w => sh_postroadref10_right ⟨h0_Rank_a, h0_Rank_l, h0_Rank_c⟩ ⟨h0_Ways_a, h0_Ways_l, h0_Ways_c⟩ i0 (fun r0 w' => K (.bool r0) w') w
  | _, _, _, _ => False
def sh_postroadref10_right.q : CVT → List X → World → (Value → Prop) → Prop
  | CV, [.v (.agg ⟨[.slice h0_Rank_a h0_Rank_l h0_Rank_c, .slice h0_Ways_a h0_Ways_l h0_Ways_c]⟩), .v (.int .i64 i0)], w, K => Quiet (Bool) (fun r => (.bool r)) (fun K1 w' => sh_postroadref10_right ⟨h0_Rank_a, h0_Rank_l, h0_Rank_c⟩ ⟨h0_Ways_a, h0_Ways_l, h0_Ways_c⟩ i0 (fun r0 w'' => K1 r0 w'') w') w (fun r => K (.bool r))
  | _, _, _, _ => False
noncomputable def cx_postroadref10_right : Cx := Cx.add Try.prog cx_postroadref10_Find 57 sh_postroadref10_right.o sh_postroadref10_right.q
theorem cx_postroadref10_right.ok : CxOk cx_postroadref10_right := by
  refine CxOk.add cx_postroadref10_Find.ok rfl (fun CV hcv xs K w hx h => ?_) (fun CV hcv xs K w hx h => ?_)
  · unfold sh_postroadref10_right.o at h; split at h
    · rename_i h0_Rank_a h0_Rank_l h0_Rank_c h0_Ways_a h0_Ways_l h0_Ways_c i0; exact sh_postroadref10_right.calls CV ⟨h0_Rank_a, h0_Rank_l, h0_Rank_c⟩ ⟨h0_Ways_a, h0_Ways_l, h0_Ways_c⟩ i0 hcv h
    · exact h.elim
  · unfold sh_postroadref10_right.q at h; split at h
    · rename_i h0_Rank_a h0_Rank_l h0_Rank_c h0_Ways_a h0_Ways_l h0_Ways_c i0; obtain ⟨r, h1, h2⟩ := h; exact ⟨_, h2, fun w' e => sh_postroadref10_right.calls CV ⟨h0_Rank_a, h0_Rank_l, h0_Rank_c⟩ ⟨h0_Ways_a, h0_Ways_l, h0_Ways_c⟩ i0 hcv (h1 w' e)⟩
    · exact h.elim
def sh_postroadref10_Check.plan : Plan := (.seq .o (.seq (.seq .o (.cond (.seq .o .o) .o)) (.join [] [] (.seq .o (.block (.loop [.slot 3 (.int .i64)] [] (.seq (.seq .o (.cond .o .o)) (.seq (.block (.seq .o (.cond (.seq .o .o) .o))) .o))))) (.seq (.seq .o (.block (.loop [.slot 4 (.int .i64)] [] (.seq (.seq .o (.cond .o .o)) (.seq (.block (.seq .o (.cond (.seq .o .o) .o))) .o))))) (.seq .o .o)))))
theorem sh_postroadref10_Check.is (CV : CVT) (h0_Rank : SV) (h0_Ways : SV) (w : World) (R : Value → World → Prop) : sh_postroadref10_Check h0_Rank h0_Ways (fun r0 w' => R (.int .i64 r0) w') w = denF (cx_postroadref10_right.with CV) Try.f33 sh_postroadref10_Check.plan [.v (.agg #[(.slice h0_Rank.a h0_Rank.len h0_Rank.cap), (.slice h0_Ways.a h0_Ways.len h0_Ways.cap)])] w R := by kernel_rfl
theorem sh_postroadref10_Check.calls (CV : CVT) (h0_Rank : SV) (h0_Ways : SV) (hcv : CVOk Try.prog CV) {w : World} {R : Ending → World → Prop} (h : sh_postroadref10_Check h0_Rank h0_Ways (fun r0 w' => R (.returned (.int .i64 r0)) w') w) : Calls Try.prog 33 #[(.agg #[(.slice h0_Rank.a h0_Rank.len h0_Rank.cap), (.slice h0_Ways.a h0_Ways.len h0_Ways.cap)])] w R :=
  calls_is (cx := cx_postroadref10_right.with CV) mixed_Try (cx_postroadref10_right.ok.with CV) hcv Try.func33 sh_postroadref10_Check.plan (xs := [.v (.agg #[(.slice h0_Rank.a h0_Rank.len h0_Rank.cap), (.slice h0_Ways.a h0_Ways.len h0_Ways.cap)])]) ((args_cons _ args_nil)) (by kernel_rfl) (sh_postroadref10_Check.is CV h0_Rank h0_Ways w (fun v w' => R (.returned v) w')) h
def sh_postroadref10_Check.o : CVT → List X → (Value → World → Prop) → World → Prop
  | CV, [.v (.agg ⟨[.slice h0_Rank_a h0_Rank_l h0_Rank_c, .slice h0_Ways_a h0_Ways_l h0_Ways_c]⟩)], K, w => sh_postroadref10_Check ⟨h0_Rank_a, h0_Rank_l, h0_Rank_c⟩ ⟨h0_Ways_a, h0_Ways_l, h0_Ways_c⟩ (fun r0 w' => K (.int .i64 r0) w') w
  | _, _, _, _ => False
def sh_postroadref10_Check.q : CVT → List X → World → (Value → Prop) → Prop
  | CV, [.v (.agg ⟨[.slice h0_Rank_a h0_Rank_l h0_Rank_c, .slice h0_Ways_a h0_Ways_l h0_Ways_c]⟩)], w, K => Quiet (Int) (fun r => (.int .i64 r)) (fun K1 w' => sh_postroadref10_Check ⟨h0_Rank_a, h0_Rank_l, h0_Rank_c⟩ ⟨h0_Ways_a, h0_Ways_l, h0_Ways_c⟩ (fun r0 w'' => K1 r0 w'') w') w (fun r => K (.int .i64 r))
  | _, _, _, _ => False
noncomputable def cx_postroadref10_Check : Cx := Cx.add Try.prog cx_postroadref10_right 33 sh_postroadref10_Check.o sh_postroadref10_Check.q
theorem cx_postroadref10_Check.ok : CxOk cx_postroadref10_Check := by
  refine CxOk.add cx_postroadref10_right.ok rfl (fun CV hcv xs K w hx h => ?_) (fun CV hcv xs K w hx h => ?_)
  · unfold sh_postroadref10_Check.o at h; split at h
    · rename_i h0_Rank_a h0_Rank_l h0_Rank_c h0_Ways_a h0_Ways_l h0_Ways_c; exact sh_postroadref10_Check.calls CV ⟨h0_Rank_a, h0_Rank_l, h0_Rank_c⟩ ⟨h0_Ways_a, h0_Ways_l, h0_Ways_c⟩ hcv h
    · exact h.elim
  · unfold sh_postroadref10_Check.q at h; split at h
    · rename_i h0_Rank_a h0_Rank_l h0_Rank_c h0_Ways_a h0_Ways_l h0_Ways_c; obtain ⟨r, h1, h2⟩ := h; exact ⟨_, h2, fun w' e => sh_postroadref10_Check.calls CV ⟨h0_Rank_a, h0_Rank_l, h0_Rank_c⟩ ⟨h0_Ways_a, h0_Ways_l, h0_Ways_c⟩ hcv (h1 w' e)⟩
    · exact h.elim
def sh_postroadref11_Fit.plan : Plan := (.seq .o (.seq (.seq .o (.cond (.seq .o .o) .o)) (.seq (.seq .o (.block (.loop [.slot 3 (.int .i64)] [] (.seq (.seq .o (.cond .o .o)) (.seq (.block (.seq .o (.cond (.seq .o .o) .o))) .o))))) (.seq .o .o))))
theorem sh_postroadref11_Fit.is (CV : CVT) (h0_Rank : SV) (h0_Ways : SV) (w : World) (R : Value → World → Prop) : sh_postroadref11_Fit h0_Rank h0_Ways (fun r0 w' => R (.bool r0) w') w = denF (cx_postroadref10_Check.with CV) Try.f10 sh_postroadref11_Fit.plan [.v (.agg #[(.slice h0_Rank.a h0_Rank.len h0_Rank.cap), (.slice h0_Ways.a h0_Ways.len h0_Ways.cap)])] w R := by kernel_rfl
theorem sh_postroadref11_Fit.calls (CV : CVT) (h0_Rank : SV) (h0_Ways : SV) (hcv : CVOk Try.prog CV) {w : World} {R : Ending → World → Prop} (h : sh_postroadref11_Fit h0_Rank h0_Ways (fun r0 w' => R (.returned (.bool r0)) w') w) : Calls Try.prog 10 #[(.agg #[(.slice h0_Rank.a h0_Rank.len h0_Rank.cap), (.slice h0_Ways.a h0_Ways.len h0_Ways.cap)])] w R :=
  calls_is (cx := cx_postroadref10_Check.with CV) mixed_Try (cx_postroadref10_Check.ok.with CV) hcv Try.func10 sh_postroadref11_Fit.plan (xs := [.v (.agg #[(.slice h0_Rank.a h0_Rank.len h0_Rank.cap), (.slice h0_Ways.a h0_Ways.len h0_Ways.cap)])]) ((args_cons _ args_nil)) (by kernel_rfl) (sh_postroadref11_Fit.is CV h0_Rank h0_Ways w (fun v w' => R (.returned v) w')) h
def sh_postroadref11_Fit.o : CVT → List X → (Value → World → Prop) → World → Prop
  | CV, [.v (.agg ⟨[.slice h0_Rank_a h0_Rank_l h0_Rank_c, .slice h0_Ways_a h0_Ways_l h0_Ways_c]⟩)], K, w => sh_postroadref11_Fit ⟨h0_Rank_a, h0_Rank_l, h0_Rank_c⟩ ⟨h0_Ways_a, h0_Ways_l, h0_Ways_c⟩ (fun r0 w' => K (.bool r0) w') w
  | _, _, _, _ => False
def sh_postroadref11_Fit.q : CVT → List X → World → (Value → Prop) → Prop
  | CV, [.v (.agg ⟨[.slice h0_Rank_a h0_Rank_l h0_Rank_c, .slice h0_Ways_a h0_Ways_l h0_Ways_c]⟩)], w, K => Quiet (Bool) (fun r => (.bool r)) (fun K1 w' => sh_postroadref11_Fit ⟨h0_Rank_a, h0_Rank_l, h0_Rank_c⟩ ⟨h0_Ways_a, h0_Ways_l, h0_Ways_c⟩ (fun r0 w'' => K1 r0 w'') w') w (fun r => K (.bool r))
  | _, _, _, _ => False
noncomputable def cx_postroadref11_Fit : Cx := Cx.add Try.prog cx_postroadref10_Check 10 sh_postroadref11_Fit.o sh_postroadref11_Fit.q
theorem cx_postroadref11_Fit.ok : CxOk cx_postroadref11_Fit := by
  refine CxOk.add cx_postroadref10_Check.ok rfl (fun CV hcv xs K w hx h => ?_) (fun CV hcv xs K w hx h => ?_)
  · unfold sh_postroadref11_Fit.o at h; split at h
    · rename_i h0_Rank_a h0_Rank_l h0_Rank_c h0_Ways_a h0_Ways_l h0_Ways_c; exact sh_postroadref11_Fit.calls CV ⟨h0_Rank_a, h0_Rank_l, h0_Rank_c⟩ ⟨h0_Ways_a, h0_Ways_l, h0_Ways_c⟩ hcv h
    · exact h.elim
  · unfold sh_postroadref11_Fit.q at h; split at h
    · rename_i h0_Rank_a h0_Rank_l h0_Rank_c h0_Ways_a h0_Ways_l h0_Ways_c; obtain ⟨r, h1, h2⟩ := h; exact ⟨_, h2, fun w' e => sh_postroadref11_Fit.calls CV ⟨h0_Rank_a, h0_Rank_l, h0_Rank_c⟩ ⟨h0_Ways_a, h0_Ways_l, h0_Ways_c⟩ hcv (h1 w' e)⟩
    · exact h.elim
def sh_hier_placed.plan : Plan := (.seq .o (.seq .o (.join [] [] (.seq .o (.block (.loop [.slot 13 (.int .i64)] [] (.seq .o (.seq (.cond .o .o) (.seq (.block (.seq .o .o)) .o)))))) (.join [] [] (.seq .o (.block (.loop [.slot 22 (.int .i64)] [] (.seq .o (.seq (.cond .o .o) (.seq (.block (.seq .o (.seq (.seq .o (.cond (.seq .o .o) .o)) .o))) .o)))))) (.seq .o .o)))))
theorem sh_hier_placed.is (CV : CVT) (rank0 : SV) (w : World) (R : Value → World → Prop) : sh_hier_placed rank0 (fun r0 r1 w' => R (.tuple #[(.slice r0.a r0.len r0.cap), (.bool r1)]) w') w = denF (cx_postroadref11_Fit.with CV) Try.f58 sh_hier_placed.plan [.v (.slice rank0.a rank0.len rank0.cap)] w R := by kernel_rfl
theorem sh_hier_placed.calls (CV : CVT) (rank0 : SV) (hcv : CVOk Try.prog CV) {w : World} {R : Ending → World → Prop} (h : sh_hier_placed rank0 (fun r0 r1 w' => R (.returned (.tuple #[(.slice r0.a r0.len r0.cap), (.bool r1)])) w') w) : Calls Try.prog 58 #[(.slice rank0.a rank0.len rank0.cap)] w R :=
  calls_is (cx := cx_postroadref11_Fit.with CV) mixed_Try (cx_postroadref11_Fit.ok.with CV) hcv Try.func58 sh_hier_placed.plan (xs := [.v (.slice rank0.a rank0.len rank0.cap)]) ((args_cons _ args_nil)) (by kernel_rfl) (sh_hier_placed.is CV rank0 w (fun v w' => R (.returned v) w')) h
def sh_hier_placed.o : CVT → List X → (Value → World → Prop) → World → Prop
  | CV, [.v (.slice rank0_a rank0_l rank0_c)], K, w => sh_hier_placed ⟨rank0_a, rank0_l, rank0_c⟩ (fun r0 r1 w' => K (.tuple #[(.slice r0.a r0.len r0.cap), (.bool r1)]) w') w
  | _, _, _, _ => False
def sh_hier_placed.q : CVT → List X → World → (Value → Prop) → Prop
  | CV, [.v (.slice rank0_a rank0_l rank0_c)], w, K => Quiet (SV × Bool) (fun r => (.tuple #[(.slice r.1.a r.1.len r.1.cap), (.bool r.2)])) (fun K1 w' => sh_hier_placed ⟨rank0_a, rank0_l, rank0_c⟩ (fun r0 r1 w'' => K1 (r0, r1) w'') w') w (fun r => K (.tuple #[(.slice r.1.a r.1.len r.1.cap), (.bool r.2)]))
  | _, _, _, _ => False
noncomputable def cx_hier_placed : Cx := Cx.add Try.prog cx_postroadref11_Fit 58 sh_hier_placed.o sh_hier_placed.q
theorem cx_hier_placed.ok : CxOk cx_hier_placed := by
  refine CxOk.add cx_postroadref11_Fit.ok rfl (fun CV hcv xs K w hx h => ?_) (fun CV hcv xs K w hx h => ?_)
  · unfold sh_hier_placed.o at h; split at h
    · rename_i rank0_a rank0_l rank0_c; exact sh_hier_placed.calls CV ⟨rank0_a, rank0_l, rank0_c⟩ hcv h
    · exact h.elim
  · unfold sh_hier_placed.q at h; split at h
    · rename_i rank0_a rank0_l rank0_c; obtain ⟨r, h1, h2⟩ := h; exact ⟨_, h2, fun w' e => sh_hier_placed.calls CV ⟨rank0_a, rank0_l, rank0_c⟩ hcv (h1 w' e)⟩
    · exact h.elim
def sh_hier_found.plan : Plan := (.seq .o (.seq .o (.seq .o (.join [] [] (.seq .o (.block (.loop [.slot 17 (.int .i64)] [] (.seq .o (.seq (.cond .o .o) (.seq (.block (.seq .o (.join [] [] (.seq .o (.block (.seq (.seq .o (.cond .o (.seq .o (.cond .o (.seq .o (.cond .o (.seq .o (.cond .o .o)))))))) (.cond (.seq .o .o) .o)))) .o))) .o)))))) (.seq .o .o)))))
theorem sh_hier_found.is (CV : CVT) (h0_Rank : SV) (h0_Ways : SV) (w : World) (R : Value → World → Prop) : sh_hier_found h0_Rank h0_Ways (fun r0 r1 w' => R (.tuple #[(.map r0), (.bool r1)]) w') w = denF (cx_hier_placed.with CV) Try.f59 sh_hier_found.plan [.v (.agg #[(.slice h0_Rank.a h0_Rank.len h0_Rank.cap), (.slice h0_Ways.a h0_Ways.len h0_Ways.cap)])] w R := by kernel_rfl
theorem sh_hier_found.calls (CV : CVT) (h0_Rank : SV) (h0_Ways : SV) (hcv : CVOk Try.prog CV) {w : World} {R : Ending → World → Prop} (h : sh_hier_found h0_Rank h0_Ways (fun r0 r1 w' => R (.returned (.tuple #[(.map r0), (.bool r1)])) w') w) : Calls Try.prog 59 #[(.agg #[(.slice h0_Rank.a h0_Rank.len h0_Rank.cap), (.slice h0_Ways.a h0_Ways.len h0_Ways.cap)])] w R :=
  calls_is (cx := cx_hier_placed.with CV) mixed_Try (cx_hier_placed.ok.with CV) hcv Try.func59 sh_hier_found.plan (xs := [.v (.agg #[(.slice h0_Rank.a h0_Rank.len h0_Rank.cap), (.slice h0_Ways.a h0_Ways.len h0_Ways.cap)])]) ((args_cons _ args_nil)) (by kernel_rfl) (sh_hier_found.is CV h0_Rank h0_Ways w (fun v w' => R (.returned v) w')) h
def sh_hier_found.o : CVT → List X → (Value → World → Prop) → World → Prop
  | CV, [.v (.agg ⟨[.slice h0_Rank_a h0_Rank_l h0_Rank_c, .slice h0_Ways_a h0_Ways_l h0_Ways_c]⟩)], K, w => sh_hier_found ⟨h0_Rank_a, h0_Rank_l, h0_Rank_c⟩ ⟨h0_Ways_a, h0_Ways_l, h0_Ways_c⟩ (fun r0 r1 w' => K (.tuple #[(.map r0), (.bool r1)]) w') w
  | _, _, _, _ => False
def sh_hier_found.q : CVT → List X → World → (Value → Prop) → Prop
  | CV, [.v (.agg ⟨[.slice h0_Rank_a h0_Rank_l h0_Rank_c, .slice h0_Ways_a h0_Ways_l h0_Ways_c]⟩)], w, K => Quiet ((Option Nat) × Bool) (fun r => (.tuple #[(.map r.1), (.bool r.2)])) (fun K1 w' => sh_hier_found ⟨h0_Rank_a, h0_Rank_l, h0_Rank_c⟩ ⟨h0_Ways_a, h0_Ways_l, h0_Ways_c⟩ (fun r0 r1 w'' => K1 (r0, r1) w'') w') w (fun r => K (.tuple #[(.map r.1), (.bool r.2)]))
  | _, _, _, _ => False
noncomputable def cx_hier_found : Cx := Cx.add Try.prog cx_hier_placed 59 sh_hier_found.o sh_hier_found.q
theorem cx_hier_found.ok : CxOk cx_hier_found := by
  refine CxOk.add cx_hier_placed.ok rfl (fun CV hcv xs K w hx h => ?_) (fun CV hcv xs K w hx h => ?_)
  · unfold sh_hier_found.o at h; split at h
    · rename_i h0_Rank_a h0_Rank_l h0_Rank_c h0_Ways_a h0_Ways_l h0_Ways_c; exact sh_hier_found.calls CV ⟨h0_Rank_a, h0_Rank_l, h0_Rank_c⟩ ⟨h0_Ways_a, h0_Ways_l, h0_Ways_c⟩ hcv h
    · exact h.elim
  · unfold sh_hier_found.q at h; split at h
    · rename_i h0_Rank_a h0_Rank_l h0_Rank_c h0_Ways_a h0_Ways_l h0_Ways_c; obtain ⟨r, h1, h2⟩ := h; exact ⟨_, h2, fun w' e => sh_hier_found.calls CV ⟨h0_Rank_a, h0_Rank_l, h0_Rank_c⟩ ⟨h0_Ways_a, h0_Ways_l, h0_Ways_c⟩ hcv (h1 w' e)⟩
    · exact h.elim
def sh_hier_halves.plan : Plan := (.seq .o (.seq .o (.seq .o (.seq .o .o))))
theorem sh_hier_halves.is (CV : CVT) (h0_Rank : SV) (h0_Ways : SV) (find0 : Option Nat) (w_0_From : Int) (w_0_To : Int) (w_0_Way_W : Int) (w_0_Way_Mid : Int) (w_0_Way_Arc : Int) (w : World) (R : Value → World → Prop) : sh_hier_halves h0_Rank h0_Ways find0 w_0_From w_0_To w_0_Way_W w_0_Way_Mid w_0_Way_Arc (fun r0 r1 r2 w' => R (.tuple #[(.int .i64 r0), (.int .i64 r1), (.bool r2)]) w') w = denF (cx_hier_found.with CV) Try.f42 sh_hier_halves.plan [.v (.agg #[(.slice h0_Rank.a h0_Rank.len h0_Rank.cap), (.slice h0_Ways.a h0_Ways.len h0_Ways.cap)]), .v (.map find0), .v (.agg #[(.int .i64 w_0_From), (.int .i64 w_0_To), (.int .i64 w_0_Way_W), (.int .i64 w_0_Way_Mid), (.int .i64 w_0_Way_Arc)])] w R := by kernel_rfl
theorem sh_hier_halves.calls (CV : CVT) (h0_Rank : SV) (h0_Ways : SV) (find0 : Option Nat) (w_0_From : Int) (w_0_To : Int) (w_0_Way_W : Int) (w_0_Way_Mid : Int) (w_0_Way_Arc : Int) (hcv : CVOk Try.prog CV) {w : World} {R : Ending → World → Prop} (h : sh_hier_halves h0_Rank h0_Ways find0 w_0_From w_0_To w_0_Way_W w_0_Way_Mid w_0_Way_Arc (fun r0 r1 r2 w' => R (.returned (.tuple #[(.int .i64 r0), (.int .i64 r1), (.bool r2)])) w') w) : Calls Try.prog 42 #[(.agg #[(.slice h0_Rank.a h0_Rank.len h0_Rank.cap), (.slice h0_Ways.a h0_Ways.len h0_Ways.cap)]), (.map find0), (.agg #[(.int .i64 w_0_From), (.int .i64 w_0_To), (.int .i64 w_0_Way_W), (.int .i64 w_0_Way_Mid), (.int .i64 w_0_Way_Arc)])] w R :=
  calls_is (cx := cx_hier_found.with CV) mixed_Try (cx_hier_found.ok.with CV) hcv Try.func42 sh_hier_halves.plan (xs := [.v (.agg #[(.slice h0_Rank.a h0_Rank.len h0_Rank.cap), (.slice h0_Ways.a h0_Ways.len h0_Ways.cap)]), .v (.map find0), .v (.agg #[(.int .i64 w_0_From), (.int .i64 w_0_To), (.int .i64 w_0_Way_W), (.int .i64 w_0_Way_Mid), (.int .i64 w_0_Way_Arc)])]) ((args_cons _ (args_cons _ (args_cons _ args_nil)))) (by kernel_rfl) (sh_hier_halves.is CV h0_Rank h0_Ways find0 w_0_From w_0_To w_0_Way_W w_0_Way_Mid w_0_Way_Arc w (fun v w' => R (.returned v) w')) h
def sh_hier_halves.o : CVT → List X → (Value → World → Prop) → World → Prop
  | CV, [.v (.agg ⟨[.slice h0_Rank_a h0_Rank_l h0_Rank_c, .slice h0_Ways_a h0_Ways_l h0_Ways_c]⟩), .v (.map find0), .v (.agg ⟨[.int .i64 w_0_From, .int .i64 w_0_To, .int .i64 w_0_Way_W, .int .i64 w_0_Way_Mid, .int .i64 w_0_Way_Arc]⟩)], K, w => sh_hier_halves ⟨h0_Rank_a, h0_Rank_l, h0_Rank_c⟩ ⟨h0_Ways_a, h0_Ways_l, h0_Ways_c⟩ find0 w_0_From w_0_To w_0_Way_W w_0_Way_Mid w_0_Way_Arc (fun r0 r1 r2 w' => K (.tuple #[(.int .i64 r0), (.int .i64 r1), (.bool r2)]) w') w
  | _, _, _, _ => False
def sh_hier_halves.q : CVT → List X → World → (Value → Prop) → Prop
  | CV, [.v (.agg ⟨[.slice h0_Rank_a h0_Rank_l h0_Rank_c, .slice h0_Ways_a h0_Ways_l h0_Ways_c]⟩), .v (.map find0), .v (.agg ⟨[.int .i64 w_0_From, .int .i64 w_0_To, .int .i64 w_0_Way_W, .int .i64 w_0_Way_Mid, .int .i64 w_0_Way_Arc]⟩)], w, K => Quiet (Int × Int × Bool) (fun r => (.tuple #[(.int .i64 r.1), (.int .i64 r.2.1), (.bool r.2.2)])) (fun K1 w' => sh_hier_halves ⟨h0_Rank_a, h0_Rank_l, h0_Rank_c⟩ ⟨h0_Ways_a, h0_Ways_l, h0_Ways_c⟩ find0 w_0_From w_0_To w_0_Way_W w_0_Way_Mid w_0_Way_Arc (fun r0 r1 r2 w'' => K1 (r0, r1, r2) w'') w') w (fun r => K (.tuple #[(.int .i64 r.1), (.int .i64 r.2.1), (.bool r.2.2)]))
  | _, _, _, _ => False
noncomputable def cx_hier_halves : Cx := Cx.add Try.prog cx_hier_found 42 sh_hier_halves.o sh_hier_halves.q
theorem cx_hier_halves.ok : CxOk cx_hier_halves := by
  refine CxOk.add cx_hier_found.ok rfl (fun CV hcv xs K w hx h => ?_) (fun CV hcv xs K w hx h => ?_)
  · unfold sh_hier_halves.o at h; split at h
    · rename_i h0_Rank_a h0_Rank_l h0_Rank_c h0_Ways_a h0_Ways_l h0_Ways_c find0 w_0_From w_0_To w_0_Way_W w_0_Way_Mid w_0_Way_Arc; exact sh_hier_halves.calls CV ⟨h0_Rank_a, h0_Rank_l, h0_Rank_c⟩ ⟨h0_Ways_a, h0_Ways_l, h0_Ways_c⟩ find0 w_0_From w_0_To w_0_Way_W w_0_Way_Mid w_0_Way_Arc hcv h
    · exact h.elim
  · unfold sh_hier_halves.q at h; split at h
    · rename_i h0_Rank_a h0_Rank_l h0_Rank_c h0_Ways_a h0_Ways_l h0_Ways_c find0 w_0_From w_0_To w_0_Way_W w_0_Way_Mid w_0_Way_Arc; obtain ⟨r, h1, h2⟩ := h; exact ⟨_, h2, fun w' e => sh_hier_halves.calls CV ⟨h0_Rank_a, h0_Rank_l, h0_Rank_c⟩ ⟨h0_Ways_a, h0_Ways_l, h0_Ways_c⟩ find0 w_0_From w_0_To w_0_Way_W w_0_Way_Mid w_0_Way_Arc hcv (h1 w' e)⟩
    · exact h.elim
def sh_hier_right.plan : Plan := (.seq .o (.seq (.seq .o (.cond (.seq .o .o) .o)) (.seq (.seq (.draw [] [.pure, .pure, .loc, .pure, .pure, .pure, .pure, .loc, .pure, .pure, .pure, .pure, .pure, .loc, .pure, .loc, .pure, .pure, .pure, .pure, .pure, .loc, .pure, .pure, .loc, .pure, .quiet, .pure, .loc, .pure, .loc, .pure, .quiet, .pure, .loc, .pure, .loc, .pure, .quiet, .pure, .pure, .pure] [0, 1, 2, 3, 4, 5, 6, 7, 8, 9, 10, 11, 12, 13, 14, 15, 16, 17, 18, 19, 20, 21, 22, 23, 24, 25, 26, 27, 28, 29, 30, 31, 32, 33, 34, 35, 36, 37, 38, 39, 40, 41]) (.cond (.seq .o .o) .o)) (.seq .o (.seq (.draw [] [.pure, .pure, .pure, .loc, .pure, .pure, .pure, .pure, .quiet, .pure, .loc, .pure, .pure, .pure, .pure, .quiet, .pure, .pure, .pure, .loc, .pure, .pure, .pure] [0, 1, 2, 3, 4, 5, 6, 7, 8, 9, 10, 11, 12, 13, 14, 15, 16, 17, 18, 19, 20, 21, 22]) .o)))))
theorem sh_hier_right.is (CV : CVT) (h0_Rank : SV) (h0_Ways : SV) (find0 : Option Nat) (w_0_From : Int) (w_0_To : Int) (w_0_Way_W : Int) (w_0_Way_Mid : Int) (w_0_Way_Arc : Int) (w : World) (R : Value → World → Prop) : sh_hier_right h0_Rank h0_Ways find0 w_0_From w_0_To w_0_Way_W w_0_Way_Mid w_0_Way_Arc (fun r0 w' => R (.bool r0) w') w = denF (cx_hier_halves.with CV) Try.f60 sh_hier_right.plan [.v (.agg #[(.slice h0_Rank.a h0_Rank.len h0_Rank.cap), (.slice h0_Ways.a h0_Ways.len h0_Ways.cap)]), .v (.map find0), .v (.agg #[(.int .i64 w_0_From), (.int .i64 w_0_To), (.int .i64 w_0_Way_W), (.int .i64 w_0_Way_Mid), (.int .i64 w_0_Way_Arc)])] w R := by kernel_rfl
theorem sh_hier_right.calls (CV : CVT) (h0_Rank : SV) (h0_Ways : SV) (find0 : Option Nat) (w_0_From : Int) (w_0_To : Int) (w_0_Way_W : Int) (w_0_Way_Mid : Int) (w_0_Way_Arc : Int) (hcv : CVOk Try.prog CV) {w : World} {R : Ending → World → Prop} (h : sh_hier_right h0_Rank h0_Ways find0 w_0_From w_0_To w_0_Way_W w_0_Way_Mid w_0_Way_Arc (fun r0 w' => R (.returned (.bool r0)) w') w) : Calls Try.prog 60 #[(.agg #[(.slice h0_Rank.a h0_Rank.len h0_Rank.cap), (.slice h0_Ways.a h0_Ways.len h0_Ways.cap)]), (.map find0), (.agg #[(.int .i64 w_0_From), (.int .i64 w_0_To), (.int .i64 w_0_Way_W), (.int .i64 w_0_Way_Mid), (.int .i64 w_0_Way_Arc)])] w R :=
  calls_is (cx := cx_hier_halves.with CV) mixed_Try (cx_hier_halves.ok.with CV) hcv Try.func60 sh_hier_right.plan (xs := [.v (.agg #[(.slice h0_Rank.a h0_Rank.len h0_Rank.cap), (.slice h0_Ways.a h0_Ways.len h0_Ways.cap)]), .v (.map find0), .v (.agg #[(.int .i64 w_0_From), (.int .i64 w_0_To), (.int .i64 w_0_Way_W), (.int .i64 w_0_Way_Mid), (.int .i64 w_0_Way_Arc)])]) ((args_cons _ (args_cons _ (args_cons _ args_nil)))) (by kernel_rfl) (sh_hier_right.is CV h0_Rank h0_Ways find0 w_0_From w_0_To w_0_Way_W w_0_Way_Mid w_0_Way_Arc w (fun v w' => R (.returned v) w')) h
def sh_hier_right.o : CVT → List X → (Value → World → Prop) → World → Prop
  | CV, [.v (.agg ⟨[.slice h0_Rank_a h0_Rank_l h0_Rank_c, .slice h0_Ways_a h0_Ways_l h0_Ways_c]⟩), .v (.map find0), .v (.agg ⟨[.int .i64 w_0_From, .int .i64 w_0_To, .int .i64 w_0_Way_W, .int .i64 w_0_Way_Mid, .int .i64 w_0_Way_Arc]⟩)], K, w => sh_hier_right ⟨h0_Rank_a, h0_Rank_l, h0_Rank_c⟩ ⟨h0_Ways_a, h0_Ways_l, h0_Ways_c⟩ find0 w_0_From w_0_To w_0_Way_W w_0_Way_Mid w_0_Way_Arc (fun r0 w' => K (.bool r0) w') w
  | _, _, _, _ => False
def sh_hier_right.q : CVT → List X → World → (Value → Prop) → Prop
  | CV, [.v (.agg ⟨[.slice h0_Rank_a h0_Rank_l h0_Rank_c, .slice h0_Ways_a h0_Ways_l h0_Ways_c]⟩), .v (.map find0), .v (.agg ⟨[.int .i64 w_0_From, .int .i64 w_0_To, .int .i64 w_0_Way_W, .int .i64 w_0_Way_Mid, .int .i64 w_0_Way_Arc]⟩)], w, K => Quiet (Bool) (fun r => (.bool r)) (fun K1 w' => sh_hier_right ⟨h0_Rank_a, h0_Rank_l, h0_Rank_c⟩ ⟨h0_Ways_a, h0_Ways_l, h0_Ways_c⟩ find0 w_0_From w_0_To w_0_Way_W w_0_Way_Mid w_0_Way_Arc (fun r0 w'' => K1 r0 w'') w') w (fun r => K (.bool r))
  | _, _, _, _ => False
noncomputable def cx_hier_right : Cx := Cx.add Try.prog cx_hier_halves 60 sh_hier_right.o sh_hier_right.q
theorem cx_hier_right.ok : CxOk cx_hier_right := by
  refine CxOk.add cx_hier_halves.ok rfl (fun CV hcv xs K w hx h => ?_) (fun CV hcv xs K w hx h => ?_)
  · unfold sh_hier_right.o at h; split at h
    · rename_i h0_Rank_a h0_Rank_l h0_Rank_c h0_Ways_a h0_Ways_l h0_Ways_c find0 w_0_From w_0_To w_0_Way_W w_0_Way_Mid w_0_Way_Arc; exact sh_hier_right.calls CV ⟨h0_Rank_a, h0_Rank_l, h0_Rank_c⟩ ⟨h0_Ways_a, h0_Ways_l, h0_Ways_c⟩ find0 w_0_From w_0_To w_0_Way_W w_0_Way_Mid w_0_Way_Arc hcv h
    · exact h.elim
  · unfold sh_hier_right.q at h; split at h
    · rename_i h0_Rank_a h0_Rank_l h0_Rank_c h0_Ways_a h0_Ways_l h0_Ways_c find0 w_0_From w_0_To w_0_Way_W w_0_Way_Mid w_0_Way_Arc; obtain ⟨r, h1, h2⟩ := h; exact ⟨_, h2, fun w' e => sh_hier_right.calls CV ⟨h0_Rank_a, h0_Rank_l, h0_Rank_c⟩ ⟨h0_Ways_a, h0_Ways_l, h0_Ways_c⟩ find0 w_0_From w_0_To w_0_Way_W w_0_Way_Mid w_0_Way_Arc hcv (h1 w' e)⟩
    · exact h.elim
def sh_hier_check.plan : Plan := (.seq .o (.seq (.seq .o (.cond (.seq .o .o) .o)) (.seq .o (.seq .o (.seq (.seq .o (.cond (.seq .o .o) .o)) (.join [] [] (.seq .o (.block (.loop [.slot 40 (.int .i64)] [] (.seq .o (.seq (.cond .o .o) (.seq (.block (.seq .o (.seq .o (.cond (.seq .o .o) .o)))) .o)))))) (.seq .o .o)))))))
theorem sh_hier_check.is (CV : CVT) (h0_Rank : SV) (h0_Ways : SV) (w : World) (R : Value → World → Prop) : sh_hier_check h0_Rank h0_Ways (fun r0 r1 w' => R (.tuple #[(.pointer r0), (.int .i64 r1)]) w') w = denF (cx_hier_right.with CV) Try.f34 sh_hier_check.plan [.v (.agg #[(.slice h0_Rank.a h0_Rank.len h0_Rank.cap), (.slice h0_Ways.a h0_Ways.len h0_Ways.cap)])] w R := by kernel_rfl
theorem sh_hier_check.calls (CV : CVT) (h0_Rank : SV) (h0_Ways : SV) (hcv : CVOk Try.prog CV) {w : World} {R : Ending → World → Prop} (h : sh_hier_check h0_Rank h0_Ways (fun r0 r1 w' => R (.returned (.tuple #[(.pointer r0), (.int .i64 r1)])) w') w) : Calls Try.prog 34 #[(.agg #[(.slice h0_Rank.a h0_Rank.len h0_Rank.cap), (.slice h0_Ways.a h0_Ways.len h0_Ways.cap)])] w R :=
  calls_is (cx := cx_hier_right.with CV) mixed_Try (cx_hier_right.ok.with CV) hcv Try.func34 sh_hier_check.plan (xs := [.v (.agg #[(.slice h0_Rank.a h0_Rank.len h0_Rank.cap), (.slice h0_Ways.a h0_Ways.len h0_Ways.cap)])]) ((args_cons _ args_nil)) (by kernel_rfl) (sh_hier_check.is CV h0_Rank h0_Ways w (fun v w' => R (.returned v) w')) h
def sh_hier_check.o : CVT → List X → (Value → World → Prop) → World → Prop
  | CV, [.v (.agg ⟨[.slice h0_Rank_a h0_Rank_l h0_Rank_c, .slice h0_Ways_a h0_Ways_l h0_Ways_c]⟩)], K, w => sh_hier_check ⟨h0_Rank_a, h0_Rank_l, h0_Rank_c⟩ ⟨h0_Ways_a, h0_Ways_l, h0_Ways_c⟩ (fun r0 r1 w' => K (.tuple #[(.pointer r0), (.int .i64 r1)]) w') w
  | _, _, _, _ => False
def sh_hier_check.q : CVT → List X → World → (Value → Prop) → Prop
  | CV, [.v (.agg ⟨[.slice h0_Rank_a h0_Rank_l h0_Rank_c, .slice h0_Ways_a h0_Ways_l h0_Ways_c]⟩)], w, K => Quiet ((Option Addr) × Int) (fun r => (.tuple #[(.pointer r.1), (.int .i64 r.2)])) (fun K1 w' => sh_hier_check ⟨h0_Rank_a, h0_Rank_l, h0_Rank_c⟩ ⟨h0_Ways_a, h0_Ways_l, h0_Ways_c⟩ (fun r0 r1 w'' => K1 (r0, r1) w'') w') w (fun r => K (.tuple #[(.pointer r.1), (.int .i64 r.2)]))
  | _, _, _, _ => False
noncomputable def cx_hier_check : Cx := Cx.add Try.prog cx_hier_right 34 sh_hier_check.o sh_hier_check.q
theorem cx_hier_check.ok : CxOk cx_hier_check := by
  refine CxOk.add cx_hier_right.ok rfl (fun CV hcv xs K w hx h => ?_) (fun CV hcv xs K w hx h => ?_)
  · unfold sh_hier_check.o at h; split at h
    · rename_i h0_Rank_a h0_Rank_l h0_Rank_c h0_Ways_a h0_Ways_l h0_Ways_c; exact sh_hier_check.calls CV ⟨h0_Rank_a, h0_Rank_l, h0_Rank_c⟩ ⟨h0_Ways_a, h0_Ways_l, h0_Ways_c⟩ hcv h
    · exact h.elim
  · unfold sh_hier_check.q at h; split at h
    · rename_i h0_Rank_a h0_Rank_l h0_Rank_c h0_Ways_a h0_Ways_l h0_Ways_c; obtain ⟨r, h1, h2⟩ := h; exact ⟨_, h2, fun w' e => sh_hier_check.calls CV ⟨h0_Rank_a, h0_Rank_l, h0_Rank_c⟩ ⟨h0_Ways_a, h0_Ways_l, h0_Ways_c⟩ hcv (h1 w' e)⟩
    · exact h.elim
def sh_hier_put.plan : Plan := (.seq .o (.scope (.seq .o (.seq .o (.join [.slot 5 (.int .i64)] [] (.block (.loop [.slot 5 (.int .i64)] [] (.seq (.seq .o (.cond .o .o)) (.seq (.block (.seq (.draw [] [.pure, .pure, .pure, .pure, .pure, .quiet, .pure, .loc, .pure] [0, 1, 2, 3, 4, 5, 6, 7, 8]) (.cond .o .o))) .o)))) (.seq .o (.seq (.draw [] [.pure, .pure, .pure, .pure, .pure, .pure, .pure, .big] [0, 1, 2, 3, 4, 5, 6, 7]) (.seq .o (.seq .o .o)))))))))
theorem sh_hier_put.is (CV : CVT) (l0 : SV) (e0_V : Int) (e0_W : Int) (e0_Arc : Int) (w : World) (R : Value → World → Prop) : sh_hier_put l0 e0_V e0_W e0_Arc (fun r0 w' => R (.slice r0.a r0.len r0.cap) w') w = denF (cx_hier_check.with CV) Try.f35 sh_hier_put.plan [.v (.slice l0.a l0.len l0.cap), .v (.agg #[(.int .i64 e0_V), (.int .i64 e0_W), (.int .i64 e0_Arc)])] w R := by kernel_rfl
theorem sh_hier_put.calls (CV : CVT) (l0 : SV) (e0_V : Int) (e0_W : Int) (e0_Arc : Int) (hcv : CVOk Try.prog CV) {w : World} {R : Ending → World → Prop} (h : sh_hier_put l0 e0_V e0_W e0_Arc (fun r0 w' => R (.returned (.slice r0.a r0.len r0.cap)) w') w) : Calls Try.prog 35 #[(.slice l0.a l0.len l0.cap), (.agg #[(.int .i64 e0_V), (.int .i64 e0_W), (.int .i64 e0_Arc)])] w R :=
  calls_is (cx := cx_hier_check.with CV) mixed_Try (cx_hier_check.ok.with CV) hcv Try.func35 sh_hier_put.plan (xs := [.v (.slice l0.a l0.len l0.cap), .v (.agg #[(.int .i64 e0_V), (.int .i64 e0_W), (.int .i64 e0_Arc)])]) ((args_cons _ (args_cons _ args_nil))) (by kernel_rfl) (sh_hier_put.is CV l0 e0_V e0_W e0_Arc w (fun v w' => R (.returned v) w')) h
def sh_hier_put.o : CVT → List X → (Value → World → Prop) → World → Prop
  | CV, [.v (.slice l0_a l0_l l0_c), .v (.agg ⟨[.int .i64 e0_V, .int .i64 e0_W, .int .i64 e0_Arc]⟩)], K, w => sh_hier_put ⟨l0_a, l0_l, l0_c⟩ e0_V e0_W e0_Arc (fun r0 w' => K (.slice r0.a r0.len r0.cap) w') w
  | _, _, _, _ => False
def sh_hier_put.q : CVT → List X → World → (Value → Prop) → Prop
  | CV, [.v (.slice l0_a l0_l l0_c), .v (.agg ⟨[.int .i64 e0_V, .int .i64 e0_W, .int .i64 e0_Arc]⟩)], w, K => Quiet (SV) (fun r => (.slice r.a r.len r.cap)) (fun K1 w' => sh_hier_put ⟨l0_a, l0_l, l0_c⟩ e0_V e0_W e0_Arc (fun r0 w'' => K1 r0 w'') w') w (fun r => K (.slice r.a r.len r.cap))
  | _, _, _, _ => False
noncomputable def cx_hier_put : Cx := Cx.add Try.prog cx_hier_check 35 sh_hier_put.o sh_hier_put.q
theorem cx_hier_put.ok : CxOk cx_hier_put := by
  refine CxOk.add cx_hier_check.ok rfl (fun CV hcv xs K w hx h => ?_) (fun CV hcv xs K w hx h => ?_)
  · unfold sh_hier_put.o at h; split at h
    · rename_i l0_a l0_l l0_c e0_V e0_W e0_Arc; exact sh_hier_put.calls CV ⟨l0_a, l0_l, l0_c⟩ e0_V e0_W e0_Arc hcv h
    · exact h.elim
  · unfold sh_hier_put.q at h; split at h
    · rename_i l0_a l0_l l0_c e0_V e0_W e0_Arc; obtain ⟨r, h1, h2⟩ := h; exact ⟨_, h2, fun w' e => sh_hier_put.calls CV ⟨l0_a, l0_l, l0_c⟩ e0_V e0_W e0_Arc hcv (h1 w' e)⟩
    · exact h.elim
def sh_hier_New.plan : Plan := (.seq .o (.seq .o (.seq .o (.seq .o (.seq (.seq .o (.cond (.seq .o .o) .o)) (.seq (.draw [] [.pure, .pure, .pure, .loc, .pure, .new, .pure, .rd, .pure, .alc, .pure, .pure, .bigz, .pure, .pure, .big] [0, 1, 2, 3, 4, 6, 7, 8, 5, 10, 11, 12, 9, 13, 14, 15]) (.seq (.seq .o (.block (.loop [.slot 39 (.int .i64)] [] (.seq .o (.seq (.cond .o .o) (.seq (.block (.seq .o (.seq (.draw [] [.pure, .loc, .pure, .loc, .pure, .quiet, .pure, .loc, .pure, .loc, .pure, .quiet, .pure] [0, 1, 2, 3, 4, 5, 6, 7, 8, 9, 10, 11, 12]) (.cond (.draw [] [.pure, .pure, .pure, .rd, .pure, .rd, .pure, .pure, .pure, .quiet, .pure, .loc, .pure, .quiet, .pure, .loc, .pure, .pure, .loc, .pure, .pure, .big, .pure, .big] [0, 1, 2, 3, 4, 5, 6, 7, 8, 9, 10, 11, 12, 13, 14, 15, 16, 17, 18, 19, 20, 21, 22, 23]) (.draw [] [.pure, .pure, .pure, .rd, .pure, .rd, .pure, .pure, .pure, .quiet, .pure, .loc, .pure, .quiet, .pure, .loc, .pure, .pure, .loc, .pure, .pure, .big, .pure, .big] [0, 1, 2, 3, 4, 5, 6, 7, 8, 9, 10, 11, 12, 13, 14, 15, 16, 17, 18, 19, 20, 21, 22, 23]))))) .o)))))) (.seq .o .o))))))))
theorem sh_hier_New.is (CV : CVT) (h0_Rank : SV) (h0_Ways : SV) (w : World) (R : Value → World → Prop) : sh_hier_New h0_Rank h0_Ways (fun r0 w' => R (.pointer r0) w') w = denF (cx_hier_put.with CV) Try.f12 sh_hier_New.plan [.v (.agg #[(.slice h0_Rank.a h0_Rank.len h0_Rank.cap), (.slice h0_Ways.a h0_Ways.len h0_Ways.cap)])] w R := by kernel_rfl
theorem sh_hier_New.calls (CV : CVT) (h0_Rank : SV) (h0_Ways : SV) (hcv : CVOk Try.prog CV) {w : World} {R : Ending → World → Prop} (h : sh_hier_New h0_Rank h0_Ways (fun r0 w' => R (.returned (.pointer r0)) w') w) : Calls Try.prog 12 #[(.agg #[(.slice h0_Rank.a h0_Rank.len h0_Rank.cap), (.slice h0_Ways.a h0_Ways.len h0_Ways.cap)])] w R :=
  calls_is (cx := cx_hier_put.with CV) mixed_Try (cx_hier_put.ok.with CV) hcv Try.func12 sh_hier_New.plan (xs := [.v (.agg #[(.slice h0_Rank.a h0_Rank.len h0_Rank.cap), (.slice h0_Ways.a h0_Ways.len h0_Ways.cap)])]) ((args_cons _ args_nil)) (by kernel_rfl) (sh_hier_New.is CV h0_Rank h0_Ways w (fun v w' => R (.returned v) w')) h
def sh_hier_New.o : CVT → List X → (Value → World → Prop) → World → Prop
  | CV, [.v (.agg ⟨[.slice h0_Rank_a h0_Rank_l h0_Rank_c, .slice h0_Ways_a h0_Ways_l h0_Ways_c]⟩)], K, w => sh_hier_New ⟨h0_Rank_a, h0_Rank_l, h0_Rank_c⟩ ⟨h0_Ways_a, h0_Ways_l, h0_Ways_c⟩ (fun r0 w' => K (.pointer r0) w') w
  | _, _, _, _ => False
def sh_hier_New.q : CVT → List X → World → (Value → Prop) → Prop
  | CV, [.v (.agg ⟨[.slice h0_Rank_a h0_Rank_l h0_Rank_c, .slice h0_Ways_a h0_Ways_l h0_Ways_c]⟩)], w, K => Quiet ((Option Addr)) (fun r => (.pointer r)) (fun K1 w' => sh_hier_New ⟨h0_Rank_a, h0_Rank_l, h0_Rank_c⟩ ⟨h0_Ways_a, h0_Ways_l, h0_Ways_c⟩ (fun r0 w'' => K1 r0 w'') w') w (fun r => K (.pointer r))
  | _, _, _, _ => False
noncomputable def cx_hier_New : Cx := Cx.add Try.prog cx_hier_put 12 sh_hier_New.o sh_hier_New.q
theorem cx_hier_New.ok : CxOk cx_hier_New := by
  refine CxOk.add cx_hier_put.ok rfl (fun CV hcv xs K w hx h => ?_) (fun CV hcv xs K w hx h => ?_)
  · unfold sh_hier_New.o at h; split at h
    · rename_i h0_Rank_a h0_Rank_l h0_Rank_c h0_Ways_a h0_Ways_l h0_Ways_c; exact sh_hier_New.calls CV ⟨h0_Rank_a, h0_Rank_l, h0_Rank_c⟩ ⟨h0_Ways_a, h0_Ways_l, h0_Ways_c⟩ hcv h
    · exact h.elim
  · unfold sh_hier_New.q at h; split at h
    · rename_i h0_Rank_a h0_Rank_l h0_Rank_c h0_Ways_a h0_Ways_l h0_Ways_c; obtain ⟨r, h1, h2⟩ := h; exact ⟨_, h2, fun w' e => sh_hier_New.calls CV ⟨h0_Rank_a, h0_Rank_l, h0_Rank_c⟩ ⟨h0_Ways_a, h0_Ways_l, h0_Ways_c⟩ hcv (h1 w' e)⟩
    · exact h.elim
def sh_slices_Clone_int_int.plan : Plan := (.seq .o (.seq (.seq .o (.cond (.seq .o .o) .o)) (.seq .o .o)))
theorem sh_slices_Clone_int_int.is (CV : CVT) (s0 : SV) (w : World) (R : Value → World → Prop) : sh_slices_Clone_int_int s0 (fun r0 w' => R (.slice r0.a r0.len r0.cap) w') w = denF (cx_hier_New.with CV) Try.f61 sh_slices_Clone_int_int.plan [.v (.slice s0.a s0.len s0.cap)] w R := by kernel_rfl
theorem sh_slices_Clone_int_int.calls (CV : CVT) (s0 : SV) (hcv : CVOk Try.prog CV) {w : World} {R : Ending → World → Prop} (h : sh_slices_Clone_int_int s0 (fun r0 w' => R (.returned (.slice r0.a r0.len r0.cap)) w') w) : Calls Try.prog 61 #[(.slice s0.a s0.len s0.cap)] w R :=
  calls_is (cx := cx_hier_New.with CV) mixed_Try (cx_hier_New.ok.with CV) hcv Try.func61 sh_slices_Clone_int_int.plan (xs := [.v (.slice s0.a s0.len s0.cap)]) ((args_cons _ args_nil)) (by kernel_rfl) (sh_slices_Clone_int_int.is CV s0 w (fun v w' => R (.returned v) w')) h
def sh_slices_Clone_int_int.o : CVT → List X → (Value → World → Prop) → World → Prop
  | CV, [.v (.slice s0_a s0_l s0_c)], K, w => sh_slices_Clone_int_int ⟨s0_a, s0_l, s0_c⟩ (fun r0 w' => K (.slice r0.a r0.len r0.cap) w') w
  | _, _, _, _ => False
def sh_slices_Clone_int_int.q : CVT → List X → World → (Value → Prop) → Prop
  | CV, [.v (.slice s0_a s0_l s0_c)], w, K => Quiet (SV) (fun r => (.slice r.a r.len r.cap)) (fun K1 w' => sh_slices_Clone_int_int ⟨s0_a, s0_l, s0_c⟩ (fun r0 w'' => K1 r0 w'') w') w (fun r => K (.slice r.a r.len r.cap))
  | _, _, _, _ => False
noncomputable def cx_slices_Clone_int_int : Cx := Cx.add Try.prog cx_hier_New 61 sh_slices_Clone_int_int.o sh_slices_Clone_int_int.q
theorem cx_slices_Clone_int_int.ok : CxOk cx_slices_Clone_int_int := by
  refine CxOk.add cx_hier_New.ok rfl (fun CV hcv xs K w hx h => ?_) (fun CV hcv xs K w hx h => ?_)
  · unfold sh_slices_Clone_int_int.o at h; split at h
    · rename_i s0_a s0_l s0_c; exact sh_slices_Clone_int_int.calls CV ⟨s0_a, s0_l, s0_c⟩ hcv h
    · exact h.elim
  · unfold sh_slices_Clone_int_int.q at h; split at h
    · rename_i s0_a s0_l s0_c; obtain ⟨r, h1, h2⟩ := h; exact ⟨_, h2, fun w' e => sh_slices_Clone_int_int.calls CV ⟨s0_a, s0_l, s0_c⟩ hcv (h1 w' e)⟩
    · exact h.elim
def sh_slices_Reverse_int_int.plan : Plan := (.seq .o (.block (.loop [.slot 2 (.int .i64), .slot 3 (.int .i64)] [] (.seq (.seq .o (.cond .o .o)) (.seq (.block (.draw [] [.pure, .pure, .pure, .pure, .pure, .pure, .pure, .quiet, .pure, .pure, .pure, .quiet, .pure, .big, .pure, .big] [0, 1, 2, 3, 4, 5, 6, 7, 8, 9, 10, 11, 12, 13, 14, 15])) .o)))))
theorem sh_slices_Reverse_int_int.is (CV : CVT) (s0 : SV) (w : World) (R : Value → World → Prop) : sh_slices_Reverse_int_int s0 (fun w' => R (.tuple #[]) w') w = denF (cx_slices_Clone_int_int.with CV) Try.f62 sh_slices_Reverse_int_int.plan [.v (.slice s0.a s0.len s0.cap)] w R := by kernel_rfl
theorem sh_slices_Reverse_int_int.calls (CV : CVT) (s0 : SV) (hcv : CVOk Try.prog CV) {w : World} {R : Ending → World → Prop} (h : sh_slices_Reverse_int_int s0 (fun w' => R (.returned (.tuple #[])) w') w) : Calls Try.prog 62 #[(.slice s0.a s0.len s0.cap)] w R :=
  calls_is (cx := cx_slices_Clone_int_int.with CV) mixed_Try (cx_slices_Clone_int_int.ok.with CV) hcv Try.func62 sh_slices_Reverse_int_int.plan (xs := [.v (.slice s0.a s0.len s0.cap)]) ((args_cons _ args_nil)) (by kernel_rfl) (sh_slices_Reverse_int_int.is CV s0 w (fun v w' => R (.returned v) w')) h
def sh_slices_Reverse_int_int.o : CVT → List X → (Value → World → Prop) → World → Prop
  | CV, [.v (.slice s0_a s0_l s0_c)], K, w => sh_slices_Reverse_int_int ⟨s0_a, s0_l, s0_c⟩ (fun w' => K (.tuple #[]) w') w
  | _, _, _, _ => False
def sh_slices_Reverse_int_int.q : CVT → List X → World → (Value → Prop) → Prop
  | CV, [.v (.slice s0_a s0_l s0_c)], w, K => Quiet (Unit) (fun r => (.tuple #[])) (fun K1 w' => sh_slices_Reverse_int_int ⟨s0_a, s0_l, s0_c⟩ (fun w'' => K1 () w'') w') w (fun r => K (.tuple #[]))
  | _, _, _, _ => False
noncomputable def cx_slices_Reverse_int_int : Cx := Cx.add Try.prog cx_slices_Clone_int_int 62 sh_slices_Reverse_int_int.o sh_slices_Reverse_int_int.q
theorem cx_slices_Reverse_int_int.ok : CxOk cx_slices_Reverse_int_int := by
  refine CxOk.add cx_slices_Clone_int_int.ok rfl (fun CV hcv xs K w hx h => ?_) (fun CV hcv xs K w hx h => ?_)
  · unfold sh_slices_Reverse_int_int.o at h; split at h
    · rename_i s0_a s0_l s0_c; exact sh_slices_Reverse_int_int.calls CV ⟨s0_a, s0_l, s0_c⟩ hcv h
    · exact h.elim
  · unfold sh_slices_Reverse_int_int.q at h; split at h
    · rename_i s0_a s0_l s0_c; obtain ⟨r, h1, h2⟩ := h; exact ⟨_, h2, fun w' e => sh_slices_Reverse_int_int.calls CV ⟨s0_a, s0_l, s0_c⟩ hcv (h1 w' e)⟩
    · exact h.elim
def sh_hier_Hier_Way.plan : Plan := (.seq .o (.seq (.seq .o (.cond (.seq .o .o) .o)) (.seq .o .o)))
theorem sh_hier_Hier_Way.is (CV : CVT) (h0 : Option Addr) (k0 : Int) (w : World) (R : Value → World → Prop) : sh_hier_Hier_Way h0 k0 (fun r0 r1 r2 r3 r4 r5 w' => R (.tuple #[(.agg #[(.int .i64 r0), (.int .i64 r1), (.int .i64 r2), (.int .i64 r3), (.int .i64 r4)]), (.bool r5)]) w') w = denF (cx_slices_Reverse_int_int.with CV) Try.f24 sh_hier_Hier_Way.plan [.v (.pointer h0), .v (.int .i64 k0)] w R := by kernel_rfl
theorem sh_hier_Hier_Way.calls (CV : CVT) (h0 : Option Addr) (k0 : Int) (hcv : CVOk Try.prog CV) {w : World} {R : Ending → World → Prop} (h : sh_hier_Hier_Way h0 k0 (fun r0 r1 r2 r3 r4 r5 w' => R (.returned (.tuple #[(.agg #[(.int .i64 r0), (.int .i64 r1), (.int .i64 r2), (.int .i64 r3), (.int .i64 r4)]), (.bool r5)])) w') w) : Calls Try.prog 24 #[(.pointer h0), (.int .i64 k0)] w R :=
  calls_is (cx := cx_slices_Reverse_int_int.with CV) mixed_Try (cx_slices_Reverse_int_int.ok.with CV) hcv Try.func24 sh_hier_Hier_Way.plan (xs := [.v (.pointer h0), .v (.int .i64 k0)]) ((args_cons _ (args_cons _ args_nil))) (by kernel_rfl) (sh_hier_Hier_Way.is CV h0 k0 w (fun v w' => R (.returned v) w')) h
def sh_hier_Hier_Way.o : CVT → List X → (Value → World → Prop) → World → Prop
  | CV, [.v (.pointer h0), .v (.int .i64 k0)], K, w => sh_hier_Hier_Way h0 k0 (fun r0 r1 r2 r3 r4 r5 w' => K (.tuple #[(.agg #[(.int .i64 r0), (.int .i64 r1), (.int .i64 r2), (.int .i64 r3), (.int .i64 r4)]), (.bool r5)]) w') w
  | _, _, _, _ => False
def sh_hier_Hier_Way.q : CVT → List X → World → (Value → Prop) → Prop
  | CV, [.v (.pointer h0), .v (.int .i64 k0)], w, K => Quiet (Int × Int × Int × Int × Int × Bool) (fun r => (.tuple #[(.agg #[(.int .i64 r.1), (.int .i64 r.2.1), (.int .i64 r.2.2.1), (.int .i64 r.2.2.2.1), (.int .i64 r.2.2.2.2.1)]), (.bool r.2.2.2.2.2)])) (fun K1 w' => sh_hier_Hier_Way h0 k0 (fun r0 r1 r2 r3 r4 r5 w'' => K1 (r0, r1, r2, r3, r4, r5) w'') w') w (fun r => K (.tuple #[(.agg #[(.int .i64 r.1), (.int .i64 r.2.1), (.int .i64 r.2.2.1), (.int .i64 r.2.2.2.1), (.int .i64 r.2.2.2.2.1)]), (.bool r.2.2.2.2.2)]))
  | _, _, _, _ => False
noncomputable def cx_hier_Hier_Way : Cx := Cx.add Try.prog cx_slices_Reverse_int_int 24 sh_hier_Hier_Way.o sh_hier_Hier_Way.q
theorem cx_hier_Hier_Way.ok : CxOk cx_hier_Hier_Way := by
  refine CxOk.add cx_slices_Reverse_int_int.ok rfl (fun CV hcv xs K w hx h => ?_) (fun CV hcv xs K w hx h => ?_)
  · unfold sh_hier_Hier_Way.o at h; split at h
    · rename_i h0 k0; exact sh_hier_Hier_Way.calls CV h0 k0 hcv h
    · exact h.elim
  · unfold sh_hier_Hier_Way.q at h; split at h
    · rename_i h0 k0; obtain ⟨r, h1, h2⟩ := h; exact ⟨_, h2, fun w' e => sh_hier_Hier_Way.calls CV h0 k0 hcv (h1 w' e)⟩
    · exact h.elim
def sh_hier_Hier_Halves.plan : Plan := (.seq .o (.seq .o (.seq (.seq .o (.cond (.seq .o .o) .o)) (.seq (.draw [] [.pure, .pure, .pure, .quiet, .pure, .pure, .pure, .quiet, .loc, .quiet, .pure, .pure, .pure, .pure, .pure, .pure] [0, 1, 2, 3, 4, 5, 6, 7, 8, 9, 10, 11, 12, 13, 14, 15]) .o))))
theorem sh_hier_Hier_Halves.is (CV : CVT) (h0 : Option Addr) (k0 : Int) (w : World) (R : Value → World → Prop) : sh_hier_Hier_Halves h0 k0 (fun r0 r1 r2 w' => R (.tuple #[(.int .i64 r0), (.int .i64 r1), (.bool r2)]) w') w = denF (cx_hier_Hier_Way.with CV) Try.f21 sh_hier_Hier_Halves.plan [.v (.pointer h0), .v (.int .i64 k0)] w R := by kernel_rfl
theorem sh_hier_Hier_Halves.calls (CV : CVT) (h0 : Option Addr) (k0 : Int) (hcv : CVOk Try.prog CV) {w : World} {R : Ending → World → Prop} (h : sh_hier_Hier_Halves h0 k0 (fun r0 r1 r2 w' => R (.returned (.tuple #[(.int .i64 r0), (.int .i64 r1), (.bool r2)])) w') w) : Calls Try.prog 21 #[(.pointer h0), (.int .i64 k0)] w R :=
  calls_is (cx := cx_hier_Hier_Way.with CV) mixed_Try (cx_hier_Hier_Way.ok.with CV) hcv Try.func21 sh_hier_Hier_Halves.plan (xs := [.v (.pointer h0), .v (.int .i64 k0)]) ((args_cons _ (args_cons _ args_nil))) (by kernel_rfl) (sh_hier_Hier_Halves.is CV h0 k0 w (fun v w' => R (.returned v) w')) h
def sh_hier_Hier_Halves.o : CVT → List X → (Value → World → Prop) → World → Prop
  | CV, [.v (.pointer h0), .v (.int .i64 k0)], K, w => sh_hier_Hier_Halves h0 k0 (fun r0 r1 r2 w' => K (.tuple #[(.int .i64 r0), (.int .i64 r1), (.bool r2)]) w') w
  | _, _, _, _ => False
def sh_hier_Hier_Halves.q : CVT → List X → World → (Value → Prop) → Prop
  | CV, [.v (.pointer h0), .v (.int .i64 k0)], w, K => Quiet (Int × Int × Bool) (fun r => (.tuple #[(.int .i64 r.1), (.int .i64 r.2.1), (.bool r.2.2)])) (fun K1 w' => sh_hier_Hier_Halves h0 k0 (fun r0 r1 r2 w'' => K1 (r0, r1, r2) w'') w') w (fun r => K (.tuple #[(.int .i64 r.1), (.int .i64 r.2.1), (.bool r.2.2)]))
  | _, _, _, _ => False
noncomputable def cx_hier_Hier_Halves : Cx := Cx.add Try.prog cx_hier_Hier_Way 21 sh_hier_Hier_Halves.o sh_hier_Hier_Halves.q
theorem cx_hier_Hier_Halves.ok : CxOk cx_hier_Hier_Halves := by
  refine CxOk.add cx_hier_Hier_Way.ok rfl (fun CV hcv xs K w hx h => ?_) (fun CV hcv xs K w hx h => ?_)
  · unfold sh_hier_Hier_Halves.o at h; split at h
    · rename_i h0 k0; exact sh_hier_Hier_Halves.calls CV h0 k0 hcv h
    · exact h.elim
  · unfold sh_hier_Hier_Halves.q at h; split at h
    · rename_i h0 k0; obtain ⟨r, h1, h2⟩ := h; exact ⟨_, h2, fun w' e => sh_hier_Hier_Halves.calls CV h0 k0 hcv (h1 w' e)⟩
    · exact h.elim
def sh_unpack_open.plan : Plan := (.seq .o (.scope (.seq .o (.seq .o (.seq .o (.seq .o (.seq (.block (.loop [.slot 5 .slice, .slot 6 .slice] [] (.seq (.seq .o (.cond .o .o)) (.block (.seq .o (.seq .o (.seq (.seq .o (.seq .o (.cond (.seq .o .o) .o))) (.seq .o (.seq .o (.cond .o .o)))))))))) (.seq .o .o))))))))
theorem sh_unpack_open.is (CV : CVT) (h0 : Option Addr) (l0 : SV) (w : World) (R : Value → World → Prop) : sh_unpack_open h0 l0 (fun r0 w' => R (.slice r0.a r0.len r0.cap) w') w = denF (cx_hier_Hier_Halves.with CV) Try.f36 sh_unpack_open.plan [.v (.pointer h0), .v (.slice l0.a l0.len l0.cap)] w R := by kernel_rfl
theorem sh_unpack_open.calls (CV : CVT) (h0 : Option Addr) (l0 : SV) (hcv : CVOk Try.prog CV) {w : World} {R : Ending → World → Prop} (h : sh_unpack_open h0 l0 (fun r0 w' => R (.returned (.slice r0.a r0.len r0.cap)) w') w) : Calls Try.prog 36 #[(.pointer h0), (.slice l0.a l0.len l0.cap)] w R :=
  calls_is (cx := cx_hier_Hier_Halves.with CV) mixed_Try (cx_hier_Hier_Halves.ok.with CV) hcv Try.func36 sh_unpack_open.plan (xs := [.v (.pointer h0), .v (.slice l0.a l0.len l0.cap)]) ((args_cons _ (args_cons _ args_nil))) (by kernel_rfl) (sh_unpack_open.is CV h0 l0 w (fun v w' => R (.returned v) w')) h
def sh_unpack_open.o : CVT → List X → (Value → World → Prop) → World → Prop
  | CV, [.v (.pointer h0), .v (.slice l0_a l0_l l0_c)], K, w => sh_unpack_open h0 ⟨l0_a, l0_l, l0_c⟩ (fun r0 w' => K (.slice r0.a r0.len r0.cap) w') w
  | _, _, _, _ => False
def sh_unpack_open.q : CVT → List X → World → (Value → Prop) → Prop
  | CV, [.v (.pointer h0), .v (.slice l0_a l0_l l0_c)], w, K => Quiet (SV) (fun r => (.slice r.a r.len r.cap)) (fun K1 w' => sh_unpack_open h0 ⟨l0_a, l0_l, l0_c⟩ (fun r0 w'' => K1 r0 w'') w') w (fun r => K (.slice r.a r.len r.cap))
  | _, _, _, _ => False
noncomputable def cx_unpack_open : Cx := Cx.add Try.prog cx_hier_Hier_Halves 36 sh_unpack_open.o sh_unpack_open.q
theorem cx_unpack_open.ok : CxOk cx_unpack_open := by
  refine CxOk.add cx_hier_Hier_Halves.ok rfl (fun CV hcv xs K w hx h => ?_) (fun CV hcv xs K w hx h => ?_)
  · unfold sh_unpack_open.o at h; split at h
    · rename_i h0 l0_a l0_l l0_c; exact sh_unpack_open.calls CV h0 ⟨l0_a, l0_l, l0_c⟩ hcv h
    · exact h.elim
  · unfold sh_unpack_open.q at h; split at h
    · rename_i h0 l0_a l0_l l0_c; obtain ⟨r, h1, h2⟩ := h; exact ⟨_, h2, fun w' e => sh_unpack_open.calls CV h0 ⟨l0_a, l0_l, l0_c⟩ hcv (h1 w' e)⟩
    · exact h.elim
def sh_unpack_Open.plan : Plan := (.seq .o (.seq .o .o))
theorem sh_unpack_Open.is (CV : CVT) (h0 : Option Addr) (k0 : Int) (w : World) (R : Value → World → Prop) : sh_unpack_Open h0 k0 (fun r0 w' => R (.slice r0.a r0.len r0.cap) w') w = denF (cx_unpack_open.with CV) Try.f14 sh_unpack_Open.plan [.v (.pointer h0), .v (.int .i64 k0)] w R := by kernel_rfl
theorem sh_unpack_Open.calls (CV : CVT) (h0 : Option Addr) (k0 : Int) (hcv : CVOk Try.prog CV) {w : World} {R : Ending → World → Prop} (h : sh_unpack_Open h0 k0 (fun r0 w' => R (.returned (.slice r0.a r0.len r0.cap)) w') w) : Calls Try.prog 14 #[(.pointer h0), (.int .i64 k0)] w R :=
  calls_is (cx := cx_unpack_open.with CV) mixed_Try (cx_unpack_open.ok.with CV) hcv Try.func14 sh_unpack_Open.plan (xs := [.v (.pointer h0), .v (.int .i64 k0)]) ((args_cons _ (args_cons _ args_nil))) (by kernel_rfl) (sh_unpack_Open.is CV h0 k0 w (fun v w' => R (.returned v) w')) h
def sh_unpack_Open.o : CVT → List X → (Value → World → Prop) → World → Prop
  | CV, [.v (.pointer h0), .v (.int .i64 k0)], K, w => sh_unpack_Open h0 k0 (fun r0 w' => K (.slice r0.a r0.len r0.cap) w') w
  | _, _, _, _ => False
def sh_unpack_Open.q : CVT → List X → World → (Value → Prop) → Prop
  | CV, [.v (.pointer h0), .v (.int .i64 k0)], w, K => Quiet (SV) (fun r => (.slice r.a r.len r.cap)) (fun K1 w' => sh_unpack_Open h0 k0 (fun r0 w'' => K1 r0 w'') w') w (fun r => K (.slice r.a r.len r.cap))
  | _, _, _, _ => False
noncomputable def cx_unpack_Open : Cx := Cx.add Try.prog cx_unpack_open 14 sh_unpack_Open.o sh_unpack_Open.q
theorem cx_unpack_Open.ok : CxOk cx_unpack_Open := by
  refine CxOk.add cx_unpack_open.ok rfl (fun CV hcv xs K w hx h => ?_) (fun CV hcv xs K w hx h => ?_)
  · unfold sh_unpack_Open.o at h; split at h
    · rename_i h0 k0; exact sh_unpack_Open.calls CV h0 k0 hcv h
    · exact h.elim
  · unfold sh_unpack_Open.q at h; split at h
    · rename_i h0 k0; obtain ⟨r, h1, h2⟩ := h; exact ⟨_, h2, fun w' e => sh_unpack_Open.calls CV h0 k0 hcv (h1 w' e)⟩
    · exact h.elim
def sh_postroadref00_SameInts.plan : Plan := (.seq .o (.seq (.seq .o (.cond (.seq .o .o) .o)) (.seq (.seq .o (.block (.loop [.slot 5 (.int .i64)] [] (.seq (.seq .o (.cond .o .o)) (.seq (.block (.seq (.draw [] [.pure, .pure, .pure, .quiet, .pure, .pure, .pure, .quiet, .pure] [0, 1, 2, 3, 4, 5, 6, 7, 8]) (.cond (.seq .o .o) .o))) .o))))) (.seq .o .o))))
theorem sh_postroadref00_SameInts.is (CV : CVT) (a0 : SV) (b0 : SV) (w : World) (R : Value → World → Prop) : sh_postroadref00_SameInts a0 b0 (fun r0 w' => R (.bool r0) w') w = denF (cx_unpack_Open.with CV) Try.f13 sh_postroadref00_SameInts.plan [.v (.slice a0.a a0.len a0.cap), .v (.slice b0.a b0.len b0.cap)] w R := by kernel_rfl
theorem sh_postroadref00_SameInts.calls (CV : CVT) (a0 : SV) (b0 : SV) (hcv : CVOk Try.prog CV) {w : World} {R : Ending → World → Prop} (h : sh_postroadref00_SameInts a0 b0 (fun r0 w' => R (.returned (.bool r0)) w') w) : Calls Try.prog 13 #[(.slice a0.a a0.len a0.cap), (.slice b0.a b0.len b0.cap)] w R :=
  calls_is (cx := cx_unpack_Open.with CV) mixed_Try (cx_unpack_Open.ok.with CV) hcv Try.func13 sh_postroadref00_SameInts.plan (xs := [.v (.slice a0.a a0.len a0.cap), .v (.slice b0.a b0.len b0.cap)]) ((args_cons _ (args_cons _ args_nil))) (by kernel_rfl) (sh_postroadref00_SameInts.is CV a0 b0 w (fun v w' => R (.returned v) w')) h
def sh_postroadref00_SameInts.o : CVT → List X → (Value → World → Prop) → World → Prop
  | CV, [.v (.slice a0_a a0_l a0_c), .v (.slice b0_a b0_l b0_c)], K, w => sh_postroadref00_SameInts ⟨a0_a, a0_l, a0_c⟩ ⟨b0_a, b0_l, b0_c⟩ (fun r0 w' => K (.bool r0) w') w
  | _, _, _, _ => False
def sh_postroadref00_SameInts.q : CVT → List X → World → (Value → Prop) → Prop
  | CV, [.v (.slice a0_a a0_l a0_c), .v (.slice b0_a b0_l b0_c)], w, K => Quiet (Bool) (fun r => (.bool r)) (fun K1 w' => sh_postroadref00_SameInts ⟨a0_a, a0_l, a0_c⟩ ⟨b0_a, b0_l, b0_c⟩ (fun r0 w'' => K1 r0 w'') w') w (fun r => K (.bool r))
  | _, _, _, _ => False
noncomputable def cx_postroadref00_SameInts : Cx := Cx.add Try.prog cx_unpack_Open 13 sh_postroadref00_SameInts.o sh_postroadref00_SameInts.q
theorem cx_postroadref00_SameInts.ok : CxOk cx_postroadref00_SameInts := by
  refine CxOk.add cx_unpack_Open.ok rfl (fun CV hcv xs K w hx h => ?_) (fun CV hcv xs K w hx h => ?_)
  · unfold sh_postroadref00_SameInts.o at h; split at h
    · rename_i a0_a a0_l a0_c b0_a b0_l b0_c; exact sh_postroadref00_SameInts.calls CV ⟨a0_a, a0_l, a0_c⟩ ⟨b0_a, b0_l, b0_c⟩ hcv h
    · exact h.elim
  · unfold sh_postroadref00_SameInts.q at h; split at h
    · rename_i a0_a a0_l a0_c b0_a b0_l b0_c; obtain ⟨r, h1, h2⟩ := h; exact ⟨_, h2, fun w' e => sh_postroadref00_SameInts.calls CV ⟨a0_a, a0_l, a0_c⟩ ⟨b0_a, b0_l, b0_c⟩ hcv (h1 w' e)⟩
    · exact h.elim
def sh_unpack_Deep.plan : Plan := (.seq .o (.seq (.seq .o (.seq .o (.cond (.seq .o .o) .o))) (.seq .o (.seq (.seq .o (.cond (.seq .o .o) .o)) (.seq .o .o)))))
def sh_unpack_Deep.or (rec_ : Option Addr → Int → (Int → World → Prop) → World → Prop) : CVT → List X → (Value → World → Prop) → World → Prop
  | _, [.v (.pointer h0), .v (.int .i64 k0)], K, w => rec_ h0 k0 (fun r0 w' => K (.int .i64 r0) w') w
  | _, _, _, _ => False
def sh_unpack_Deep.qr (rec_ : Option Addr → Int → (Int → World → Prop) → World → Prop) : CVT → List X → World → (Value → Prop) → Prop
  | _, [.v (.pointer h0), .v (.int .i64 k0)], w, K => Quiet (Int) (fun r => (.int .i64 r)) (fun K1 w' => rec_ h0 k0 (fun r0 w'' => K1 r0 w'') w') w (fun r => K (.int .i64 r))
  | _, _, _, _ => False
noncomputable def cx_unpack_Deep.r (rec_ : Option Addr → Int → (Int → World → Prop) → World → Prop) : Cx := Cx.add Try.prog cx_postroadref00_SameInts 16 (sh_unpack_Deep.or rec_) (sh_unpack_Deep.qr rec_)
theorem sh_unpack_Deep.is (rec_ : Option Addr → Int → (Int → World → Prop) → World → Prop) (CV : CVT) (h0 : Option Addr) (k0 : Int) (w : World) (R : Value → World → Prop) : sh_unpack_Deep.step rec_ h0 k0 (fun r0 w' => R (.int .i64 r0) w') w = denF ((cx_unpack_Deep.r rec_).with CV) Try.f16 sh_unpack_Deep.plan [.v (.pointer h0), .v (.int .i64 k0)] w R := by kernel_rfl
theorem cx_unpack_Deep.rok (rec_ : Option Addr → Int → (Int → World → Prop) → World → Prop) (hr : ∀ (h0 : Option Addr) (k0 : Int) (w : World) (R : Ending → World → Prop), rec_ h0 k0 (fun r0 w' => R (.returned (.int .i64 r0)) w') w → Calls Try.prog 16 #[(.pointer h0), (.int .i64 k0)] w R) : CxOk (cx_unpack_Deep.r rec_) := by
  refine CxOk.add cx_postroadref00_SameInts.ok rfl (fun CV hcv xs K w hx h => ?_) (fun CV hcv xs K w hx h => ?_)
  · unfold sh_unpack_Deep.or at h; split at h
    · rename_i h0 k0; exact hr h0 k0 _ _ h
    · exact h.elim
  · unfold sh_unpack_Deep.qr at h; split at h
    · rename_i h0 k0; obtain ⟨r, h1, h2⟩ := h; exact ⟨_, h2, fun w' e => hr h0 k0 _ _ (h1 w' e)⟩
    · exact h.elim
theorem sh_unpack_Deep.calls_n : ∀ n : Nat, ∀ (h0 : Option Addr) (k0 : Int) (w : World) (R : Ending → World → Prop), sh_unpack_Deep.n n h0 k0 (fun r0 w' => R (.returned (.int .i64 r0)) w') w → Calls Try.prog 16 #[(.pointer h0), (.int .i64 k0)] w R
  | 0 => fun _ _ _ _ h => h.elim
  | n + 1 => fun h0 k0 w _ h => calls_is (cx := (cx_unpack_Deep.r (sh_unpack_Deep.n n)).with noCV) mixed_Try ((cx_unpack_Deep.rok _ (sh_unpack_Deep.calls_n n)).with noCV) (noCV_ok _) Try.func16 sh_unpack_Deep.plan (xs := [.v (.pointer h0), .v (.int .i64 k0)]) ((args_cons _ (args_cons _ args_nil))) (by kernel_rfl) (sh_unpack_Deep.is (sh_unpack_Deep.n n) noCV h0 k0 w _) h
theorem sh_unpack_Deep.calls (CV : CVT) (h0 : Option Addr) (k0 : Int) (_ : CVOk Try.prog CV) {w : World} {R : Ending → World → Prop} (h : sh_unpack_Deep h0 k0 (fun r0 w' => R (.returned (.int .i64 r0)) w') w) : Calls Try.prog 16 #[(.pointer h0), (.int .i64 k0)] w R := by
  obtain ⟨n, h⟩ := h; exact sh_unpack_Deep.calls_n n h0 k0 _ _ h
def sh_unpack_Deep.o : CVT → List X → (Value → World → Prop) → World → Prop
  | CV, [.v (.pointer h0), .v (.int .i64 k0)], K, w => sh_unpack_Deep h0 k0 (fun r0 w' => K (.int .i64 r0) w') w
  | _, _, _, _ => False
def sh_unpack_Deep.q : CVT → List X → World → (Value → Prop) → Prop
  | CV, [.v (.pointer h0), .v (.int .i64 k0)], w, K => Quiet (Int) (fun r => (.int .i64 r)) (fun K1 w' => sh_unpack_Deep h0 k0 (fun r0 w'' => K1 r0 w'') w') w (fun r => K (.int .i64 r))
  | _, _, _, _ => False
noncomputable def cx_unpack_Deep : Cx := Cx.add Try.prog cx_postroadref00_SameInts 16 sh_unpack_Deep.o sh_unpack_Deep.q
theorem cx_unpack_Deep.ok : CxOk cx_unpack_Deep := by
  refine CxOk.add cx_postroadref00_SameInts.ok rfl (fun CV hcv xs K w hx h => ?_) (fun CV hcv xs K w hx h => ?_)
  · unfold sh_unpack_Deep.o at h; split at h
    · rename_i h0 k0; exact sh_unpack_Deep.calls CV h0 k0 hcv h
    · exact h.elim
  · unfold sh_unpack_Deep.q at h; split at h
    · rename_i h0 k0; obtain ⟨r, h1, h2⟩ := h; exact ⟨_, h2, fun w' e => sh_unpack_Deep.calls CV h0 k0 hcv (h1 w' e)⟩
    · exact h.elim
def sh_postroadlaw13_known.plan : Plan := (.seq .o (.seq .o (.seq .o .o)))
theorem sh_postroadlaw13_known.is (CV : CVT) (w : World) (R : Value → World → Prop) : sh_postroadlaw13_known  (fun r0 w' => R (.bool r0) w') w = denF (cx_unpack_Deep.with CV) Try.f11 sh_postroadlaw13_known.plan [] w R := by kernel_rfl
theorem sh_postroadlaw13_known.calls (CV : CVT) (hcv : CVOk Try.prog CV) {w : World} {R : Ending → World → Prop} (h : sh_postroadlaw13_known  (fun r0 w' => R (.returned (.bool r0)) w') w) : Calls Try.prog 11 #[] w R :=
  calls_is (cx := cx_unpack_Deep.with CV) mixed_Try (cx_unpack_Deep.ok.with CV) hcv Try.func11 sh_postroadlaw13_known.plan (xs := []) (args_nil) (by kernel_rfl) (sh_postroadlaw13_known.is CV w (fun v w' => R (.returned v) w')) h
def sh_postroadlaw13_known.o : CVT → List X → (Value → World → Prop) → World → Prop
  | CV, [], K, w => sh_postroadlaw13_known  (fun r0 w' => K (.bool r0) w') w
  | _, _, _, _ => False
def sh_postroadlaw13_known.q : CVT → List X → World → (Value → Prop) → Prop
  | CV, [], w, K => Quiet (Bool) (fun r => (.bool r)) (fun K1 w' => sh_postroadlaw13_known  (fun r0 w'' => K1 r0 w'') w') w (fun r => K (.bool r))
  | _, _, _, _ => False
noncomputable def cx_postroadlaw13_known : Cx := Cx.add Try.prog cx_unpack_Deep 11 sh_postroadlaw13_known.o sh_postroadlaw13_known.q
theorem cx_postroadlaw13_known.ok : CxOk cx_postroadlaw13_known := by
  refine CxOk.add cx_unpack_Deep.ok rfl (fun CV hcv xs K w hx h => ?_) (fun CV hcv xs K w hx h => ?_)
  · unfold sh_postroadlaw13_known.o at h; split at h
    · exact sh_postroadlaw13_known.calls CV hcv h
    · exact h.elim
  · unfold sh_postroadlaw13_known.q at h; split at h
    · obtain ⟨r, h1, h2⟩ := h; exact ⟨_, h2, fun w' e => sh_postroadlaw13_known.calls CV hcv (h1 w' e)⟩
    · exact h.elim
def sh_postroadref10_Halves.plan : Plan := (.seq .o (.seq (.seq .o (.cond (.seq .o .o) .o)) (.seq .o (.seq (.draw [] [.loc, .pure, .loc, .pure, .pure, .loc, .quiet, .loc, .pure, .pure, .loc, .pure, .loc, .quiet, .pure, .pure, .pure] [0, 1, 2, 3, 4, 5, 6, 7, 8, 9, 10, 11, 12, 13, 14, 15, 16]) .o))))
theorem sh_postroadref10_Halves.is (CV : CVT) (h0_Rank : SV) (h0_Ways : SV) (k0 : Int) (w : World) (R : Value → World → Prop) : sh_postroadref10_Halves h0_Rank h0_Ways k0 (fun r0 r1 r2 w' => R (.tuple #[(.int .i64 r0), (.int .i64 r1), (.bool r2)]) w') w = denF (cx_postroadlaw13_known.with CV) Try.f37 sh_postroadref10_Halves.plan [.v (.agg #[(.slice h0_Rank.a h0_Rank.len h0_Rank.cap), (.slice h0_Ways.a h0_Ways.len h0_Ways.cap)]), .v (.int .i64 k0)] w R := by kernel_rfl
theorem sh_postroadref10_Halves.calls (CV : CVT) (h0_Rank : SV) (h0_Ways : SV) (k0 : Int) (hcv : CVOk Try.prog CV) {w : World} {R : Ending → World → Prop} (h : sh_postroadref10_Halves h0_Rank h0_Ways k0 (fun r0 r1 r2 w' => R (.returned (.tuple #[(.int .i64 r0), (.int .i64 r1), (.bool r2)])) w') w) : Calls Try.prog 37 #[(.agg #[(.slice h0_Rank.a h0_Rank.len h0_Rank.cap), (.slice h0_Ways.a h0_Ways.len h0_Ways.cap)]), (.int .i64 k0)] w R :=
  calls_is (cx := cx_postroadlaw13_known.with CV) mixed_Try (cx_postroadlaw13_known.ok.with CV) hcv Try.func37 sh_postroadref10_Halves.plan (xs := [.v (.agg #[(.slice h0_Rank.a h0_Rank.len h0_Rank.cap), (.slice h0_Ways.a h0_Ways.len h0_Ways.cap)]), .v (.int .i64 k0)]) ((args_cons _ (args_cons _ args_nil))) (by kernel_rfl) (sh_postroadref10_Halves.is CV h0_Rank h0_Ways k0 w (fun v w' => R (.returned v) w')) h
def sh_postroadref10_Halves.o : CVT → List X → (Value → World → Prop) → World → Prop
  | CV, [.v (.agg ⟨[.slice h0_Rank_a h0_Rank_l h0_Rank_c, .slice h0_Ways_a h0_Ways_l h0_Ways_c]⟩), .v (.int .i64 k0)], K, w => sh_postroadref10_Halves ⟨h0_Rank_a, h0_Rank_l, h0_Rank_c⟩ ⟨h0_Ways_a, h0_Ways_l, h0_Ways_c⟩ k0 (fun r0 r1 r2 w' => K (.tuple #[(.int .i64 r0), (.int .i64 r1), (.bool r2)]) w') w
  | _, _, _, _ => False
def sh_postroadref10_Halves.q : CVT → List X → World → (Value → Prop) → Prop
  | CV, [.v (.agg ⟨[.slice h0_Rank_a h0_Rank_l h0_Rank_c, .slice h0_Ways_a h0_Ways_l h0_Ways_c]⟩), .v (.int .i64 k0)], w, K => Quiet (Int × Int × Bool) (fun r => (.tuple #[(.int .i64 r.1), (.int .i64 r.2.1), (.bool r.2.2)])) (fun K1 w' => sh_postroadref10_Halves ⟨h0_Rank_a, h0_Rank_l, h0_Rank_c⟩ ⟨h0_Ways_a, h0_Ways_l, h0_Ways_c⟩ k0 (fun r0 r1 r2 w'' => K1 (r0, r1, r2) w'') w') w (fun r => K (.tuple #[(.int .i64 r.1), (.int .i64 r.2.1), (.bool r.2.2)]))
  | _, _, _, _ => False
noncomputable def cx_postroadref10_Halves : Cx := Cx.add Try.prog cx_postroadlaw13_known 37 sh_postroadref10_Halves.o sh_postroadref10_Halves.q
theorem cx_postroadref10_Halves.ok : CxOk cx_postroadref10_Halves := by
  refine CxOk.add cx_postroadlaw13_known.ok rfl (fun CV hcv xs K w hx h => ?_) (fun CV hcv xs K w hx h => ?_)
  · unfold sh_postroadref10_Halves.o at h; split at h
    · rename_i h0_Rank_a h0_Rank_l h0_Rank_c h0_Ways_a h0_Ways_l h0_Ways_c k0; exact sh_postroadref10_Halves.calls CV ⟨h0_Rank_a, h0_Rank_l, h0_Rank_c⟩ ⟨h0_Ways_a, h0_Ways_l, h0_Ways_c⟩ k0 hcv h
    · exact h.elim
  · unfold sh_postroadref10_Halves.q at h; split at h
    · rename_i h0_Rank_a h0_Rank_l h0_Rank_c h0_Ways_a h0_Ways_l h0_Ways_c k0; obtain ⟨r, h1, h2⟩ := h; exact ⟨_, h2, fun w' e => sh_postroadref10_Halves.calls CV ⟨h0_Rank_a, h0_Rank_l, h0_Rank_c⟩ ⟨h0_Ways_a, h0_Ways_l, h0_Ways_c⟩ k0 hcv (h1 w' e)⟩
    · exact h.elim
def sh_postroadref13_Open.plan : Plan := (.seq .o (.seq (.seq .o (.cond (.seq .o .o) .o)) (.seq .o (.seq (.seq .o (.cond (.seq .o .o) .o)) (.seq .o (.seq .o .o))))))
def sh_postroadref13_Open.or (rec_ : SV → SV → Int → (SV → World → Prop) → World → Prop) : CVT → List X → (Value → World → Prop) → World → Prop
  | _, [.v (.agg ⟨[.slice h0_Rank_a h0_Rank_l h0_Rank_c, .slice h0_Ways_a h0_Ways_l h0_Ways_c]⟩), .v (.int .i64 k0)], K, w => rec_ ⟨h0_Rank_a, h0_Rank_l, h0_Rank_c⟩ ⟨h0_Ways_a, h0_Ways_l, h0_Ways_c⟩ k0 (fun r0 w' => K (.slice r0.a r0.len r0.cap) w') w
  | _, _, _, _ => False
def sh_postroadref13_Open.qr (rec_ : SV → SV → Int → (SV → World → Prop) → World → Prop) : CVT → List X → World → (Value → Prop) → Prop
  | _, [.v (.agg ⟨[.slice h0_Rank_a h0_Rank_l h0_Rank_c, .slice h0_Ways_a h0_Ways_l h0_Ways_c]⟩), .v (.int .i64 k0)], w, K => Quiet (SV) (fun r => (.slice r.a r.len r.cap)) (fun K1 w' => rec_ ⟨h0_Rank_a, h0_Rank_l, h0_Rank_c⟩ ⟨h0_Ways_a, h0_Ways_l, h0_Ways_c⟩ k0 (fun r0 w'' => K1 r0 w'') w') w (fun r => K (.slice r.a r.len r.cap))
  | _, _, _, _ => False
noncomputable def cx_postroadref13_Open.r (rec_ : SV → SV → Int → (SV → World → Prop) → World → Prop) : Cx := Cx.add Try.prog cx_postroadref10_Halves 15 (sh_postroadref13_Open.or rec_) (sh_postroadref13_Open.qr rec_)
theorem sh_postroadref13_Open.is (rec_ : SV → SV → Int → (SV → World → Prop) → World → Prop) (CV : CVT) (h0_Rank : SV) (h0_Ways : SV) (k0 : Int) (w : World) (R : Value → World → Prop) : sh_postroadref13_Open.step rec_ h0_Rank h0_Ways k0 (fun r0 w' => R (.slice r0.a r0.len r0.cap) w') w = denF ((cx_postroadref13_Open.r rec_).with CV) Try.f15 sh_postroadref13_Open.plan [.v (.agg #[(.slice h0_Rank.a h0_Rank.len h0_Rank.cap), (.slice h0_Ways.a h0_Ways.len h0_Ways.cap)]), .v (.int .i64 k0)] w R := by kernel_rfl
theorem cx_postroadref13_Open.rok (rec_ : SV → SV → Int → (SV → World → Prop) → World → Prop) (hr : ∀ (h0_Rank : SV) (h0_Ways : SV) (k0 : Int) (w : World) (R : Ending → World → Prop), rec_ h0_Rank h0_Ways k0 (fun r0 w' => R (.returned (.slice r0.a r0.len r0.cap)) w') w → Calls Try.prog 15 #[(.agg #[(.slice h0_Rank.a h0_Rank.len h0_Rank.cap), (.slice h0_Ways.a h0_Ways.len h0_Ways.cap)]), (.int .i64 k0)] w R) : CxOk (cx_postroadref13_Open.r rec_) := by
  refine CxOk.add cx_postroadref10_Halves.ok rfl (fun CV hcv xs K w hx h => ?_) (fun CV hcv xs K w hx h => ?_)
  · unfold sh_postroadref13_Open.or at h; split at h
    · rename_i h0_Rank_a h0_Rank_l h0_Rank_c h0_Ways_a h0_Ways_l h0_Ways_c k0; exact hr ⟨h0_Rank_a, h0_Rank_l, h0_Rank_c⟩ ⟨h0_Ways_a, h0_Ways_l, h0_Ways_c⟩ k0 _ _ h
    · exact h.elim
  · unfold sh_postroadref13_Open.qr at h; split at h
    · rename_i h0_Rank_a h0_Rank_l h0_Rank_c h0_Ways_a h0_Ways_l h0_Ways_c k0; obtain ⟨r, h1, h2⟩ := h; exact ⟨_, h2, fun w' e => hr ⟨h0_Rank_a, h0_Rank_l, h0_Rank_c⟩ ⟨h0_Ways_a, h0_Ways_l, h0_Ways_c⟩ k0 _ _ (h1 w' e)⟩
    · exact h.elim
theorem sh_postroadref13_Open.calls_n : ∀ n : Nat, ∀ (h0_Rank : SV) (h0_Ways : SV) (k0 : Int) (w : World) (R : Ending → World → Prop), sh_postroadref13_Open.n n h0_Rank h0_Ways k0 (fun r0 w' => R (.returned (.slice r0.a r0.len r0.cap)) w') w → Calls Try.prog 15 #[(.agg #[(.slice h0_Rank.a h0_Rank.len h0_Rank.cap), (.slice h0_Ways.a h0_Ways.len h0_Ways.cap)]), (.int .i64 k0)] w R
  | 0 => fun _ _ _ _ _ h => h.elim
  | n + 1 => fun h0_Rank h0_Ways k0 w _ h => calls_is (cx := (cx_postroadref13_Open.r (sh_postroadref13_Open.n n)).with noCV) mixed_Try ((cx_postroadref13_Open.rok _ (sh_postroadref13_Open.calls_n n)).with noCV) (noCV_ok _) Try.func15 sh_postroadref13_Open.plan (xs := [.v (.agg #[(.slice h0_Rank.a h0_Rank.len h0_Rank.cap), (.slice h0_Ways.a h0_Ways.len h0_Ways.cap)]), .v (.int .i64 k0)]) ((args_cons _ (args_cons _ args_nil))) (by kernel_rfl) (sh_postroadref13_Open.is (sh_postroadref13_Open.n n) noCV h0_Rank h0_Ways k0 w _) h
theorem sh_postroadref13_Open.calls (CV : CVT) (h0_Rank : SV) (h0_Ways : SV) (k0 : Int) (_ : CVOk Try.prog CV) {w : World} {R : Ending → World → Prop} (h : sh_postroadref13_Open h0_Rank h0_Ways k0 (fun r0 w' => R (.returned (.slice r0.a r0.len r0.cap)) w') w) : Calls Try.prog 15 #[(.agg #[(.slice h0_Rank.a h0_Rank.len h0_Rank.cap), (.slice h0_Ways.a h0_Ways.len h0_Ways.cap)]), (.int .i64 k0)] w R := by
  obtain ⟨n, h⟩ := h; exact sh_postroadref13_Open.calls_n n h0_Rank h0_Ways k0 _ _ h
def sh_postroadref13_Open.o : CVT → List X → (Value → World → Prop) → World → Prop
  | CV, [.v (.agg ⟨[.slice h0_Rank_a h0_Rank_l h0_Rank_c, .slice h0_Ways_a h0_Ways_l h0_Ways_c]⟩), .v (.int .i64 k0)], K, w => sh_postroadref13_Open ⟨h0_Rank_a, h0_Rank_l, h0_Rank_c⟩ ⟨h0_Ways_a, h0_Ways_l, h0_Ways_c⟩ k0 (fun r0 w' => K (.slice r0.a r0.len r0.cap) w') w
  | _, _, _, _ => False
def sh_postroadref13_Open.q : CVT → List X → World → (Value → Prop) → Prop
  | CV, [.v (.agg ⟨[.slice h0_Rank_a h0_Rank_l h0_Rank_c, .slice h0_Ways_a h0_Ways_l h0_Ways_c]⟩), .v (.int .i64 k0)], w, K => Quiet (SV) (fun r => (.slice r.a r.len r.cap)) (fun K1 w' => sh_postroadref13_Open ⟨h0_Rank_a, h0_Rank_l, h0_Rank_c⟩ ⟨h0_Ways_a, h0_Ways_l, h0_Ways_c⟩ k0 (fun r0 w'' => K1 r0 w'') w') w (fun r => K (.slice r.a r.len r.cap))
  | _, _, _, _ => False
noncomputable def cx_postroadref13_Open : Cx := Cx.add Try.prog cx_postroadref10_Halves 15 sh_postroadref13_Open.o sh_postroadref13_Open.q
theorem cx_postroadref13_Open.ok : CxOk cx_postroadref13_Open := by
  refine CxOk.add cx_postroadref10_Halves.ok rfl (fun CV hcv xs K w hx h => ?_) (fun CV hcv xs K w hx h => ?_)
  · unfold sh_postroadref13_Open.o at h; split at h
    · rename_i h0_Rank_a h0_Rank_l h0_Rank_c h0_Ways_a h0_Ways_l h0_Ways_c k0; exact sh_postroadref13_Open.calls CV ⟨h0_Rank_a, h0_Rank_l, h0_Rank_c⟩ ⟨h0_Ways_a, h0_Ways_l, h0_Ways_c⟩ k0 hcv h
    · exact h.elim
  · unfold sh_postroadref13_Open.q at h; split at h
    · rename_i h0_Rank_a h0_Rank_l h0_Rank_c h0_Ways_a h0_Ways_l h0_Ways_c k0; obtain ⟨r, h1, h2⟩ := h; exact ⟨_, h2, fun w' e => sh_postroadref13_Open.calls CV ⟨h0_Rank_a, h0_Rank_l, h0_Rank_c⟩ ⟨h0_Ways_a, h0_Ways_l, h0_Ways_c⟩ k0 hcv (h1 w' e)⟩
    · exact h.elim
def sh_postroadref13_Deep.plan : Plan := (.seq .o (.seq (.seq .o (.cond (.seq .o .o) .o)) (.seq .o (.seq (.seq .o (.cond (.seq .o .o) .o)) (.seq (.draw [] [.loc, .pure, .quiet, .loc, .pure, .quiet, .pure, .pure, .pure] [0, 1, 2, 3, 4, 5, 6, 7, 8]) .o)))))
def sh_postroadref13_Deep.or (rec_ : SV → SV → Int → (Int → World → Prop) → World → Prop) : CVT → List X → (Value → World → Prop) → World → Prop
  | _, [.v (.agg ⟨[.slice h0_Rank_a h0_Rank_l h0_Rank_c, .slice h0_Ways_a h0_Ways_l h0_Ways_c]⟩), .v (.int .i64 k0)], K, w => rec_ ⟨h0_Rank_a, h0_Rank_l, h0_Rank_c⟩ ⟨h0_Ways_a, h0_Ways_l, h0_Ways_c⟩ k0 (fun r0 w' => K (.int .i64 r0) w') w
  | _, _, _, _ => False
def sh_postroadref13_Deep.qr (rec_ : SV → SV → Int → (Int → World → Prop) → World → Prop) : CVT → List X → World → (Value → Prop) → Prop
  | _, [.v (.agg ⟨[.slice h0_Rank_a h0_Rank_l h0_Rank_c, .slice h0_Ways_a h0_Ways_l h0_Ways_c]⟩), .v (.int .i64 k0)], w, K => Quiet (Int) (fun r => (.int .i64 r)) (fun K1 w' => rec_ ⟨h0_Rank_a, h0_Rank_l, h0_Rank_c⟩ ⟨h0_Ways_a, h0_Ways_l, h0_Ways_c⟩ k0 (fun r0 w'' => K1 r0 w'') w') w (fun r => K (.int .i64 r))
  | _, _, _, _ => False
noncomputable def cx_postroadref13_Deep.r (rec_ : SV → SV → Int → (Int → World → Prop) → World → Prop) : Cx := Cx.add Try.prog cx_postroadref13_Open 17 (sh_postroadref13_Deep.or rec_) (sh_postroadref13_Deep.qr rec_)
theorem sh_postroadref13_Deep.is (rec_ : SV → SV → Int → (Int → World → Prop) → World → Prop) (CV : CVT) (h0_Rank : SV) (h0_Ways : SV) (k0 : Int) (w : World) (R : Value → World → Prop) : sh_postroadref13_Deep.step rec_ h0_Rank h0_Ways k0 (fun r0 w' => R (.int .i64 r0) w') w = denF ((cx_postroadref13_Deep.r rec_).with CV) Try.f17 sh_postroadref13_Deep.plan [.v (.agg #[(.slice h0_Rank.a h0_Rank.len h0_Rank.cap), (.slice h0_Ways.a h0_Ways.len h0_Ways.cap)]), .v (.int .i64 k0)] w R := by kernel_rfl
theorem cx_postroadref13_Deep.rok (rec_ : SV → SV → Int → (Int → World → Prop) → World → Prop) (hr : ∀ (h0_Rank : SV) (h0_Ways : SV) (k0 : Int) (w : World) (R : Ending → World → Prop), rec_ h0_Rank h0_Ways k0 (fun r0 w' => R (.returned (.int .i64 r0)) w') w → Calls Try.prog 17 #[(.agg #[(.slice h0_Rank.a h0_Rank.len h0_Rank.cap), (.slice h0_Ways.a h0_Ways.len h0_Ways.cap)]), (.int .i64 k0)] w R) : CxOk (cx_postroadref13_Deep.r rec_) := by
  refine CxOk.add cx_postroadref13_Open.ok rfl (fun CV hcv xs K w hx h => ?_) (fun CV hcv xs K w hx h => ?_)
  · unfold sh_postroadref13_Deep.or at h; split at h
    · rename_i h0_Rank_a h0_Rank_l h0_Rank_c h0_Ways_a h0_Ways_l h0_Ways_c k0; exact hr ⟨h0_Rank_a, h0_Rank_l, h0_Rank_c⟩ ⟨h0_Ways_a, h0_Ways_l, h0_Ways_c⟩ k0 _ _ h
    · exact h.elim
  · unfold sh_postroadref13_Deep.qr at h; split at h
    · rename_i h0_Rank_a h0_Rank_l h0_Rank_c h0_Ways_a h0_Ways_l h0_Ways_c k0; obtain ⟨r, h1, h2⟩ := h; exact ⟨_, h2, fun w' e => hr ⟨h0_Rank_a, h0_Rank_l, h0_Rank_c⟩ ⟨h0_Ways_a, h0_Ways_l, h0_Ways_c⟩ k0 _ _ (h1 w' e)⟩
    · exact h.elim
theorem sh_postroadref13_Deep.calls_n : ∀ n : Nat, ∀ (h0_Rank : SV) (h0_Ways : SV) (k0 : Int) (w : World) (R : Ending → World → Prop), sh_postroadref13_Deep.n n h0_Rank h0_Ways k0 (fun r0 w' => R (.returned (.int .i64 r0)) w') w → Calls Try.prog 17 #[(.agg #[(.slice h0_Rank.a h0_Rank.len h0_Rank.cap), (.slice h0_Ways.a h0_Ways.len h0_Ways.cap)]), (.int .i64 k0)] w R
  | 0 => fun _ _ _ _ _ h => h.elim
  | n + 1 => fun h0_Rank h0_Ways k0 w _ h => calls_is (cx := (cx_postroadref13_Deep.r (sh_postroadref13_Deep.n n)).with noCV) mixed_Try ((cx_postroadref13_Deep.rok _ (sh_postroadref13_Deep.calls_n n)).with noCV) (noCV_ok _) Try.func17 sh_postroadref13_Deep.plan (xs := [.v (.agg #[(.slice h0_Rank.a h0_Rank.len h0_Rank.cap), (.slice h0_Ways.a h0_Ways.len h0_Ways.cap)]), .v (.int .i64 k0)]) ((args_cons _ (args_cons _ args_nil))) (by kernel_rfl) (sh_postroadref13_Deep.is (sh_postroadref13_Deep.n n) noCV h0_Rank h0_Ways k0 w _) h
theorem sh_postroadref13_Deep.calls (CV : CVT) (h0_Rank : SV) (h0_Ways : SV) (k0 : Int) (_ : CVOk Try.prog CV) {w : World} {R : Ending → World → Prop} (h : sh_postroadref13_Deep h0_Rank h0_Ways k0 (fun r0 w' => R (.returned (.int .i64 r0)) w') w) : Calls Try.prog 17 #[(.agg #[(.slice h0_Rank.a h0_Rank.len h0_Rank.cap), (.slice h0_Ways.a h0_Ways.len h0_Ways.cap)]), (.int .i64 k0)] w R := by
  obtain ⟨n, h⟩ := h; exact sh_postroadref13_Deep.calls_n n h0_Rank h0_Ways k0 _ _ h
def sh_postroadref13_Deep.o : CVT → List X → (Value → World → Prop) → World → Prop
  | CV, [.v (.agg ⟨[.slice h0_Rank_a h0_Rank_l h0_Rank_c, .slice h0_Ways_a h0_Ways_l h0_Ways_c]⟩), .v (.int .i64 k0)], K, w => sh_postroadref13_Deep ⟨h0_Rank_a, h0_Rank_l, h0_Rank_c⟩ ⟨h0_Ways_a, h0_Ways_l, h0_Ways_c⟩ k0 (fun r0 w' => K (.int .i64 r0) w') w
  | _, _, _, _ => False
def sh_postroadref13_Deep.q : CVT → List X → World → (Value → Prop) → Prop
  | CV, [.v (.agg ⟨[.slice h0_Rank_a h0_Rank_l h0_Rank_c, .slice h0_Ways_a h0_Ways_l h0_Ways_c]⟩), .v (.int .i64 k0)], w, K => Quiet (Int) (fun r => (.int .i64 r)) (fun K1 w' => sh_postroadref13_Deep ⟨h0_Rank_a, h0_Rank_l, h0_Rank_c⟩ ⟨h0_Ways_a, h0_Ways_l, h0_Ways_c⟩ k0 (fun r0 w'' => K1 r0 w'') w') w (fun r => K (.int .i64 r))
  | _, _, _, _ => False
noncomputable def cx_postroadref13_Deep : Cx := Cx.add Try.prog cx_postroadref13_Open 17 sh_postroadref13_Deep.o sh_postroadref13_Deep.q
theorem cx_postroadref13_Deep.ok : CxOk cx_postroadref13_Deep := by
  refine CxOk.add cx_postroadref13_Open.ok rfl (fun CV hcv xs K w hx h => ?_) (fun CV hcv xs K w hx h => ?_)
  · unfold sh_postroadref13_Deep.o at h; split at h
    · rename_i h0_Rank_a h0_Rank_l h0_Rank_c h0_Ways_a h0_Ways_l h0_Ways_c k0; exact sh_postroadref13_Deep.calls CV ⟨h0_Rank_a, h0_Rank_l, h0_Rank_c⟩ ⟨h0_Ways_a, h0_Ways_l, h0_Ways_c⟩ k0 hcv h
    · exact h.elim
  · unfold sh_postroadref13_Deep.q at h; split at h
    · rename_i h0_Rank_a h0_Rank_l h0_Rank_c h0_Ways_a h0_Ways_l h0_Ways_c k0; obtain ⟨r, h1, h2⟩ := h; exact ⟨_, h2, fun w' e => sh_postroadref13_Deep.calls CV ⟨h0_Rank_a, h0_Rank_l, h0_Rank_c⟩ ⟨h0_Ways_a, h0_Ways_l, h0_Ways_c⟩ k0 hcv (h1 w' e)⟩
    · exact h.elim
def sh_postroadlaw13_UnpackOpens.plan : Plan := (.seq .o (.seq (.seq .o (.cond (.seq .o .o) .o)) (.seq .o (.join [] [] (.seq .o (.block (.loop [.slot 4 (.int .i64)] [] (.seq (.seq .o (.cond .o .o)) (.seq (.block (.seq (.draw [] [.pure, .pure, .big, .rd, .pure, .big, .quiet, .pure, .pure, .pure, .pure, .quiet, .loc, .pure, .quiet, .pure, .pure] [0, 1, 3, 4, 2, 5, 6, 7, 8, 9, 10, 11, 12, 13, 14, 15, 16]) (.cond (.seq .o .o) .o))) .o))))) (.seq .o .o)))))
theorem sh_postroadlaw13_UnpackOpens.is (CV : CVT) (h0_Rank : SV) (h0_Ways : SV) (w : World) (R : Value → World → Prop) : sh_postroadlaw13_UnpackOpens h0_Rank h0_Ways (fun r0 w' => R (.bool r0) w') w = denF (cx_postroadref13_Deep.with CV) Try.f3 sh_postroadlaw13_UnpackOpens.plan [.v (.agg #[(.slice h0_Rank.a h0_Rank.len h0_Rank.cap), (.slice h0_Ways.a h0_Ways.len h0_Ways.cap)])] w R := by kernel_rfl
theorem sh_postroadlaw13_UnpackOpens.calls (CV : CVT) (h0_Rank : SV) (h0_Ways : SV) (hcv : CVOk Try.prog CV) {w : World} {R : Ending → World → Prop} (h : sh_postroadlaw13_UnpackOpens h0_Rank h0_Ways (fun r0 w' => R (.returned (.bool r0)) w') w) : Calls Try.prog 3 #[(.agg #[(.slice h0_Rank.a h0_Rank.len h0_Rank.cap), (.slice h0_Ways.a h0_Ways.len h0_Ways.cap)])] w R :=
  calls_is (cx := cx_postroadref13_Deep.with CV) mixed_Try (cx_postroadref13_Deep.ok.with CV) hcv Try.func3 sh_postroadlaw13_UnpackOpens.plan (xs := [.v (.agg #[(.slice h0_Rank.a h0_Rank.len h0_Rank.cap), (.slice h0_Ways.a h0_Ways.len h0_Ways.cap)])]) ((args_cons _ args_nil)) (by kernel_rfl) (sh_postroadlaw13_UnpackOpens.is CV h0_Rank h0_Ways w (fun v w' => R (.returned v) w')) h
def sh_postroadlaw13_UnpackOpens.o : CVT → List X → (Value → World → Prop) → World → Prop
  | CV, [.v (.agg ⟨[.slice h0_Rank_a h0_Rank_l h0_Rank_c, .slice h0_Ways_a h0_Ways_l h0_Ways_c]⟩)], K, w => sh_postroadlaw13_UnpackOpens ⟨h0_Rank_a, h0_Rank_l, h0_Rank_c⟩ ⟨h0_Ways_a, h0_Ways_l, h0_Ways_c⟩ (fun r0 w' => K (.bool r0) w') w
  | _, _, _, _ => False
def sh_postroadlaw13_UnpackOpens.q : CVT → List X → World → (Value → Prop) → Prop
  | CV, [.v (.agg ⟨[.slice h0_Rank_a h0_Rank_l h0_Rank_c, .slice h0_Ways_a h0_Ways_l h0_Ways_c]⟩)], w, K => Quiet (Bool) (fun r => (.bool r)) (fun K1 w' => sh_postroadlaw13_UnpackOpens ⟨h0_Rank_a, h0_Rank_l, h0_Rank_c⟩ ⟨h0_Ways_a, h0_Ways_l, h0_Ways_c⟩ (fun r0 w'' => K1 r0 w'') w') w (fun r => K (.bool r))
  | _, _, _, _ => False
noncomputable def cx_postroadlaw13_UnpackOpens : Cx := Cx.add Try.prog cx_postroadref13_Deep 3 sh_postroadlaw13_UnpackOpens.o sh_postroadlaw13_UnpackOpens.q
theorem cx_postroadlaw13_UnpackOpens.ok : CxOk cx_postroadlaw13_UnpackOpens := by
  refine CxOk.add cx_postroadref13_Deep.ok rfl (fun CV hcv xs K w hx h => ?_) (fun CV hcv xs K w hx h => ?_)
  · unfold sh_postroadlaw13_UnpackOpens.o at h; split at h
    · rename_i h0_Rank_a h0_Rank_l h0_Rank_c h0_Ways_a h0_Ways_l h0_Ways_c; exact sh_postroadlaw13_UnpackOpens.calls CV ⟨h0_Rank_a, h0_Rank_l, h0_Rank_c⟩ ⟨h0_Ways_a, h0_Ways_l, h0_Ways_c⟩ hcv h
    · exact h.elim
  · unfold sh_postroadlaw13_UnpackOpens.q at h; split at h
    · rename_i h0_Rank_a h0_Rank_l h0_Rank_c h0_Ways_a h0_Ways_l h0_Ways_c; obtain ⟨r, h1, h2⟩ := h; exact ⟨_, h2, fun w' e => sh_postroadlaw13_UnpackOpens.calls CV ⟨h0_Rank_a, h0_Rank_l, h0_Rank_c⟩ ⟨h0_Ways_a, h0_Ways_l, h0_Ways_c⟩ hcv (h1 w' e)⟩
    · exact h.elim
def sh_postroadref06_part.plan : Plan := (.seq .o (.seq .o (.seq (.seq .o (.cond (.seq .o .o) .o)) (.seq .o .o))))
theorem sh_postroadref06_part.is (CV : CVT) (x0 : Int) (n0 : Int) (w : World) (R : Value → World → Prop) : sh_postroadref06_part x0 n0 (fun r0 w' => R (.int .i64 r0) w') w = denF (cx_postroadlaw13_UnpackOpens.with CV) Try.f64 sh_postroadref06_part.plan [.v (.int .i64 x0), .v (.int .i64 n0)] w R := by kernel_rfl
theorem sh_postroadref06_part.calls (CV : CVT) (x0 : Int) (n0 : Int) (hcv : CVOk Try.prog CV) {w : World} {R : Ending → World → Prop} (h : sh_postroadref06_part x0 n0 (fun r0 w' => R (.returned (.int .i64 r0)) w') w) : Calls Try.prog 64 #[(.int .i64 x0), (.int .i64 n0)] w R :=
  calls_is (cx := cx_postroadlaw13_UnpackOpens.with CV) mixed_Try (cx_postroadlaw13_UnpackOpens.ok.with CV) hcv Try.func64 sh_postroadref06_part.plan (xs := [.v (.int .i64 x0), .v (.int .i64 n0)]) ((args_cons _ (args_cons _ args_nil))) (by kernel_rfl) (sh_postroadref06_part.is CV x0 n0 w (fun v w' => R (.returned v) w')) h
def sh_postroadref06_part.o : CVT → List X → (Value → World → Prop) → World → Prop
  | CV, [.v (.int .i64 x0), .v (.int .i64 n0)], K, w => sh_postroadref06_part x0 n0 (fun r0 w' => K (.int .i64 r0) w') w
  | _, _, _, _ => False
def sh_postroadref06_part.q : CVT → List X → World → (Value → Prop) → Prop
  | CV, [.v (.int .i64 x0), .v (.int .i64 n0)], w, K => Quiet (Int) (fun r => (.int .i64 r)) (fun K1 w' => sh_postroadref06_part x0 n0 (fun r0 w'' => K1 r0 w'') w') w (fun r => K (.int .i64 r))
  | _, _, _, _ => False
noncomputable def cx_postroadref06_part : Cx := Cx.add Try.prog cx_postroadlaw13_UnpackOpens 64 sh_postroadref06_part.o sh_postroadref06_part.q
theorem cx_postroadref06_part.ok : CxOk cx_postroadref06_part := by
  refine CxOk.add cx_postroadlaw13_UnpackOpens.ok rfl (fun CV hcv xs K w hx h => ?_) (fun CV hcv xs K w hx h => ?_)
  · unfold sh_postroadref06_part.o at h; split at h
    · rename_i x0 n0; exact sh_postroadref06_part.calls CV x0 n0 hcv h
    · exact h.elim
  · unfold sh_postroadref06_part.q at h; split at h
    · rename_i x0 n0; obtain ⟨r, h1, h2⟩ := h; exact ⟨_, h2, fun w' e => sh_postroadref06_part.calls CV x0 n0 hcv (h1 w' e)⟩
    · exact h.elim
def sh_postroadref06_Of.plan : Plan := (.seq .o (.seq .o (.seq .o (.join [.box 5 [(.int .i64), .slice]] [] (.seq .o (.block (.loop [.slot 6 (.int .i64), .box 5 [(.int .i64), .slice]] [] (.seq (.seq .o (.cond .o .o)) (.seq (.block (.seq .o (.draw [] [.pure, .loc, .pure, .loc, .pure, .quiet, .pure, .loc, .pure, .quiet, .pure, .loc, .quiet, .pure, .new, .big, .pure, .big] [0, 1, 2, 3, 4, 5, 6, 7, 8, 9, 10, 11, 12, 13, 14, 15, 16, 17]))) .o))))) (.seq .o .o)))))
theorem sh_postroadref06_Of.is (CV : CVT) (n0 : Int) (arcs0 : SV) (w : World) (R : Value → World → Prop) : sh_postroadref06_Of n0 arcs0 (fun r0 r1 w' => R (.agg #[(.int .i64 r0), (.slice r1.a r1.len r1.cap)]) w') w = denF (cx_postroadref06_part.with CV) Try.f38 sh_postroadref06_Of.plan [.v (.int .i64 n0), .v (.slice arcs0.a arcs0.len arcs0.cap)] w R := by kernel_rfl
theorem sh_postroadref06_Of.calls (CV : CVT) (n0 : Int) (arcs0 : SV) (hcv : CVOk Try.prog CV) {w : World} {R : Ending → World → Prop} (h : sh_postroadref06_Of n0 arcs0 (fun r0 r1 w' => R (.returned (.agg #[(.int .i64 r0), (.slice r1.a r1.len r1.cap)])) w') w) : Calls Try.prog 38 #[(.int .i64 n0), (.slice arcs0.a arcs0.len arcs0.cap)] w R :=
  calls_is (cx := cx_postroadref06_part.with CV) mixed_Try (cx_postroadref06_part.ok.with CV) hcv Try.func38 sh_postroadref06_Of.plan (xs := [.v (.int .i64 n0), .v (.slice arcs0.a arcs0.len arcs0.cap)]) ((args_cons _ (args_cons _ args_nil))) (by kernel_rfl) (sh_postroadref06_Of.is CV n0 arcs0 w (fun v w' => R (.returned v) w')) h
def sh_postroadref06_Of.o : CVT → List X → (Value → World → Prop) → World → Prop
  | CV, [.v (.int .i64 n0), .v (.slice arcs0_a arcs0_l arcs0_c)], K, w => sh_postroadref06_Of n0 ⟨arcs0_a, arcs0_l, arcs0_c⟩ (fun r0 r1 w' => K (.agg #[(.int .i64 r0), (.slice r1.a r1.len r1.cap)]) w') w
  | _, _, _, _ => False
def sh_postroadref06_Of.q : CVT → List X → World → (Value → Prop) → Prop
  | CV, [.v (.int .i64 n0), .v (.slice arcs0_a arcs0_l arcs0_c)], w, K => Quiet (Int × SV) (fun r => (.agg #[(.int .i64 r.1), (.slice r.2.a r.2.len r.2.cap)])) (fun K1 w' => sh_postroadref06_Of n0 ⟨arcs0_a, arcs0_l, arcs0_c⟩ (fun r0 r1 w'' => K1 (r0, r1) w'') w') w (fun r => K (.agg #[(.int .i64 r.1), (.slice r.2.a r.2.len r.2.cap)]))
  | _, _, _, _ => False
noncomputable def cx_postroadref06_Of : Cx := Cx.add Try.prog cx_postroadref06_part 38 sh_postroadref06_Of.o sh_postroadref06_Of.q
theorem cx_postroadref06_Of.ok : CxOk cx_postroadref06_Of := by
  refine CxOk.add cx_postroadref06_part.ok rfl (fun CV hcv xs K w hx h => ?_) (fun CV hcv xs K w hx h => ?_)
  · unfold sh_postroadref06_Of.o at h; split at h
    · rename_i n0 arcs0_a arcs0_l arcs0_c; exact sh_postroadref06_Of.calls CV n0 ⟨arcs0_a, arcs0_l, arcs0_c⟩ hcv h
    · exact h.elim
  · unfold sh_postroadref06_Of.q at h; split at h
    · rename_i n0 arcs0_a arcs0_l arcs0_c; obtain ⟨r, h1, h2⟩ := h; exact ⟨_, h2, fun w' e => sh_postroadref06_Of.calls CV n0 ⟨arcs0_a, arcs0_l, arcs0_c⟩ hcv (h1 w' e)⟩
    · exact h.elim
def sh_postroadref07_Of.plan : Plan := (.seq .o (.seq .o .o))
theorem sh_postroadref07_Of.is (CV : CVT) (n0 : Int) (arcs0 : SV) (w : World) (R : Value → World → Prop) : sh_postroadref07_Of n0 arcs0 (fun r0 r1 w' => R (.agg #[(.int .i64 r0), (.slice r1.a r1.len r1.cap)]) w') w = denF (cx_postroadref06_Of.with CV) Try.f18 sh_postroadref07_Of.plan [.v (.int .i64 n0), .v (.slice arcs0.a arcs0.len arcs0.cap)] w R := by kernel_rfl
theorem sh_postroadref07_Of.calls (CV : CVT) (n0 : Int) (arcs0 : SV) (hcv : CVOk Try.prog CV) {w : World} {R : Ending → World → Prop} (h : sh_postroadref07_Of n0 arcs0 (fun r0 r1 w' => R (.returned (.agg #[(.int .i64 r0), (.slice r1.a r1.len r1.cap)])) w') w) : Calls Try.prog 18 #[(.int .i64 n0), (.slice arcs0.a arcs0.len arcs0.cap)] w R :=
  calls_is (cx := cx_postroadref06_Of.with CV) mixed_Try (cx_postroadref06_Of.ok.with CV) hcv Try.func18 sh_postroadref07_Of.plan (xs := [.v (.int .i64 n0), .v (.slice arcs0.a arcs0.len arcs0.cap)]) ((args_cons _ (args_cons _ args_nil))) (by kernel_rfl) (sh_postroadref07_Of.is CV n0 arcs0 w (fun v w' => R (.returned v) w')) h
def sh_postroadref07_Of.o : CVT → List X → (Value → World → Prop) → World → Prop
  | CV, [.v (.int .i64 n0), .v (.slice arcs0_a arcs0_l arcs0_c)], K, w => sh_postroadref07_Of n0 ⟨arcs0_a, arcs0_l, arcs0_c⟩ (fun r0 r1 w' => K (.agg #[(.int .i64 r0), (.slice r1.a r1.len r1.cap)]) w') w
  | _, _, _, _ => False
def sh_postroadref07_Of.q : CVT → List X → World → (Value → Prop) → Prop
  | CV, [.v (.int .i64 n0), .v (.slice arcs0_a arcs0_l arcs0_c)], w, K => Quiet (Int × SV) (fun r => (.agg #[(.int .i64 r.1), (.slice r.2.a r.2.len r.2.cap)])) (fun K1 w' => sh_postroadref07_Of n0 ⟨arcs0_a, arcs0_l, arcs0_c⟩ (fun r0 r1 w'' => K1 (r0, r1) w'') w') w (fun r => K (.agg #[(.int .i64 r.1), (.slice r.2.a r.2.len r.2.cap)]))
  | _, _, _, _ => False
noncomputable def cx_postroadref07_Of : Cx := Cx.add Try.prog cx_postroadref06_Of 18 sh_postroadref07_Of.o sh_postroadref07_Of.q
theorem cx_postroadref07_Of.ok : CxOk cx_postroadref07_Of := by
  refine CxOk.add cx_postroadref06_Of.ok rfl (fun CV hcv xs K w hx h => ?_) (fun CV hcv xs K w hx h => ?_)
  · unfold sh_postroadref07_Of.o at h; split at h
    · rename_i n0 arcs0_a arcs0_l arcs0_c; exact sh_postroadref07_Of.calls CV n0 ⟨arcs0_a, arcs0_l, arcs0_c⟩ hcv h
    · exact h.elim
  · unfold sh_postroadref07_Of.q at h; split at h
    · rename_i n0 arcs0_a arcs0_l arcs0_c; obtain ⟨r, h1, h2⟩ := h; exact ⟨_, h2, fun w' e => sh_postroadref07_Of.calls CV n0 ⟨arcs0_a, arcs0_l, arcs0_c⟩ hcv (h1 w' e)⟩
    · exact h.elim
def sh_postroadref05_Check.plan : Plan := (.seq .o (.seq (.seq .o (.cond (.seq .o .o) .o)) (.seq (.seq .o (.cond (.seq .o .o) .o)) (.seq (.seq .o (.block (.loop [.slot 3 (.int .i64)] [] (.seq (.seq .o (.cond .o .o)) (.seq (.block (.seq .o (.seq .o (.cond (.seq .o .o) .o)))) .o))))) (.seq .o .o)))))
theorem sh_postroadref05_Check.is (CV : CVT) (m0_N : Int) (m0_Arcs : SV) (w : World) (R : Value → World → Prop) : sh_postroadref05_Check m0_N m0_Arcs (fun r0 w' => R (.int .i64 r0) w') w = denF (cx_postroadref07_Of.with CV) Try.f41 sh_postroadref05_Check.plan [.v (.agg #[(.int .i64 m0_N), (.slice m0_Arcs.a m0_Arcs.len m0_Arcs.cap)])] w R := by kernel_rfl
theorem sh_postroadref05_Check.calls (CV : CVT) (m0_N : Int) (m0_Arcs : SV) (hcv : CVOk Try.prog CV) {w : World} {R : Ending → World → Prop} (h : sh_postroadref05_Check m0_N m0_Arcs (fun r0 w' => R (.returned (.int .i64 r0)) w') w) : Calls Try.prog 41 #[(.agg #[(.int .i64 m0_N), (.slice m0_Arcs.a m0_Arcs.len m0_Arcs.cap)])] w R :=
  calls_is (cx := cx_postroadref07_Of.with CV) mixed_Try (cx_postroadref07_Of.ok.with CV) hcv Try.func41 sh_postroadref05_Check.plan (xs := [.v (.agg #[(.int .i64 m0_N), (.slice m0_Arcs.a m0_Arcs.len m0_Arcs.cap)])]) ((args_cons _ args_nil)) (by kernel_rfl) (sh_postroadref05_Check.is CV m0_N m0_Arcs w (fun v w' => R (.returned v) w')) h
def sh_postroadref05_Check.o : CVT → List X → (Value → World → Prop) → World → Prop
  | CV, [.v (.agg ⟨[.int .i64 m0_N, .slice m0_Arcs_a m0_Arcs_l m0_Arcs_c]⟩)], K, w => sh_postroadref05_Check m0_N ⟨m0_Arcs_a, m0_Arcs_l, m0_Arcs_c⟩ (fun r0 w' => K (.int .i64 r0) w') w
  | _, _, _, _ => False
def sh_postroadref05_Check.q : CVT → List X → World → (Value → Prop) → Prop
  | CV, [.v (.agg ⟨[.int .i64 m0_N, .slice m0_Arcs_a m0_Arcs_l m0_Arcs_c]⟩)], w, K => Quiet (Int) (fun r => (.int .i64 r)) (fun K1 w' => sh_postroadref05_Check m0_N ⟨m0_Arcs_a, m0_Arcs_l, m0_Arcs_c⟩ (fun r0 w'' => K1 r0 w'') w') w (fun r => K (.int .i64 r))
  | _, _, _, _ => False
noncomputable def cx_postroadref05_Check : Cx := Cx.add Try.prog cx_postroadref07_Of 41 sh_postroadref05_Check.o sh_postroadref05_Check.q
theorem cx_postroadref05_Check.ok : CxOk cx_postroadref05_Check := by
  refine CxOk.add cx_postroadref07_Of.ok rfl (fun CV hcv xs K w hx h => ?_) (fun CV hcv xs K w hx h => ?_)
  · unfold sh_postroadref05_Check.o at h; split at h
    · rename_i m0_N m0_Arcs_a m0_Arcs_l m0_Arcs_c; exact sh_postroadref05_Check.calls CV m0_N ⟨m0_Arcs_a, m0_Arcs_l, m0_Arcs_c⟩ hcv h
    · exact h.elim
  · unfold sh_postroadref05_Check.q at h; split at h
    · rename_i m0_N m0_Arcs_a m0_Arcs_l m0_Arcs_c; obtain ⟨r, h1, h2⟩ := h; exact ⟨_, h2, fun w' e => sh_postroadref05_Check.calls CV m0_N ⟨m0_Arcs_a, m0_Arcs_l, m0_Arcs_c⟩ hcv (h1 w' e)⟩
    · exact h.elim
def sh_postroadref06_counts.plan : Plan := (.seq .o (.seq .o (.seq (.seq .o (.cond (.seq .o .o) .o)) (.seq (.seq .o (.block (.loop [.slot 6 (.int .i64)] [] (.seq (.seq .o (.cond .o .o)) (.join [] [] (.block (.seq .o (.seq .o (.cond (.seq .o .o) .o)))) .o))))) (.seq .o .o)))))
theorem sh_postroadref06_counts.is (CV : CVT) (m0_N : Int) (m0_Arcs : SV) (k0 : Int) (w : World) (R : Value → World → Prop) : sh_postroadref06_counts m0_N m0_Arcs k0 (fun r0 w' => R (.bool r0) w') w = denF (cx_postroadref05_Check.with CV) Try.f65 sh_postroadref06_counts.plan [.v (.agg #[(.int .i64 m0_N), (.slice m0_Arcs.a m0_Arcs.len m0_Arcs.cap)]), .v (.int .i64 k0)] w R := by kernel_rfl
theorem sh_postroadref06_counts.calls (CV : CVT) (m0_N : Int) (m0_Arcs : SV) (k0 : Int) (hcv : CVOk Try.prog CV) {w : World} {R : Ending → World → Prop} (h : sh_postroadref06_counts m0_N m0_Arcs k0 (fun r0 w' => R (.returned (.bool r0)) w') w) : Calls Try.prog 65 #[(.agg #[(.int .i64 m0_N), (.slice m0_Arcs.a m0_Arcs.len m0_Arcs.cap)]), (.int .i64 k0)] w R :=
  calls_is (cx := cx_postroadref05_Check.with CV) mixed_Try (cx_postroadref05_Check.ok.with CV) hcv Try.func65 sh_postroadref06_counts.plan (xs := [.v (.agg #[(.int .i64 m0_N), (.slice m0_Arcs.a m0_Arcs.len m0_Arcs.cap)]), .v (.int .i64 k0)]) ((args_cons _ (args_cons _ args_nil))) (by kernel_rfl) (sh_postroadref06_counts.is CV m0_N m0_Arcs k0 w (fun v w' => R (.returned v) w')) h
def sh_postroadref06_counts.o : CVT → List X → (Value → World → Prop) → World → Prop
  | CV, [.v (.agg ⟨[.int .i64 m0_N, .slice m0_Arcs_a m0_Arcs_l m0_Arcs_c]⟩), .v (.int .i64 k0)], K, w => sh_postroadref06_counts m0_N ⟨m0_Arcs_a, m0_Arcs_l, m0_Arcs_c⟩ k0 (fun r0 w' => K (.bool r0) w') w
  | _, _, _, _ => False
def sh_postroadref06_counts.q : CVT → List X → World → (Value → Prop) → Prop
  | CV, [.v (.agg ⟨[.int .i64 m0_N, .slice m0_Arcs_a m0_Arcs_l m0_Arcs_c]⟩), .v (.int .i64 k0)], w, K => Quiet (Bool) (fun r => (.bool r)) (fun K1 w' => sh_postroadref06_counts m0_N ⟨m0_Arcs_a, m0_Arcs_l, m0_Arcs_c⟩ k0 (fun r0 w'' => K1 r0 w'') w') w (fun r => K (.bool r))
  | _, _, _, _ => False
noncomputable def cx_postroadref06_counts : Cx := Cx.add Try.prog cx_postroadref05_Check 65 sh_postroadref06_counts.o sh_postroadref06_counts.q
theorem cx_postroadref06_counts.ok : CxOk cx_postroadref06_counts := by
  refine CxOk.add cx_postroadref05_Check.ok rfl (fun CV hcv xs K w hx h => ?_) (fun CV hcv xs K w hx h => ?_)
  · unfold sh_postroadref06_counts.o at h; split at h
    · rename_i m0_N m0_Arcs_a m0_Arcs_l m0_Arcs_c k0; exact sh_postroadref06_counts.calls CV m0_N ⟨m0_Arcs_a, m0_Arcs_l, m0_Arcs_c⟩ k0 hcv h
    · exact h.elim
  · unfold sh_postroadref06_counts.q at h; split at h
    · rename_i m0_N m0_Arcs_a m0_Arcs_l m0_Arcs_c k0; obtain ⟨r, h1, h2⟩ := h; exact ⟨_, h2, fun w' e => sh_postroadref06_counts.calls CV m0_N ⟨m0_Arcs_a, m0_Arcs_l, m0_Arcs_c⟩ k0 hcv (h1 w' e)⟩
    · exact h.elim
def sh_postroadref06_New.plan : Plan := (.seq .o (.seq (.seq .o (.cond (.seq .o .o) .o)) (.seq .o (.join [.box 4 [(.int .i64), .slice, .slice]] [] (.seq .o (.block (.loop [.slot 5 (.int .i64), .box 4 [(.int .i64), .slice, .slice]] [] (.seq (.seq .o (.cond .o .o)) (.seq (.block (.seq .o (.join [.slot 6 (.int .i64)] [] (.seq .o (.cond .o .o)) .o))) .o))))) (.seq .o .o)))))
theorem sh_postroadref06_New.is (CV : CVT) (m0_N : Int) (m0_Arcs : SV) (w : World) (R : Value → World → Prop) : sh_postroadref06_New m0_N m0_Arcs (fun r0 r1 r2 r3 w' => R (.tuple #[(.agg #[(.int .i64 r0), (.slice r1.a r1.len r1.cap), (.slice r2.a r2.len r2.cap)]), (.bool r3)]) w') w = denF (cx_postroadref06_counts.with CV) Try.f39 sh_postroadref06_New.plan [.v (.agg #[(.int .i64 m0_N), (.slice m0_Arcs.a m0_Arcs.len m0_Arcs.cap)])] w R := by kernel_rfl
theorem sh_postroadref06_New.calls (CV : CVT) (m0_N : Int) (m0_Arcs : SV) (hcv : CVOk Try.prog CV) {w : World} {R : Ending → World → Prop} (h : sh_postroadref06_New m0_N m0_Arcs (fun r0 r1 r2 r3 w' => R (.returned (.tuple #[(.agg #[(.int .i64 r0), (.slice r1.a r1.len r1.cap), (.slice r2.a r2.len r2.cap)]), (.bool r3)])) w') w) : Calls Try.prog 39 #[(.agg #[(.int .i64 m0_N), (.slice m0_Arcs.a m0_Arcs.len m0_Arcs.cap)])] w R :=
  calls_is (cx := cx_postroadref06_counts.with CV) mixed_Try (cx_postroadref06_counts.ok.with CV) hcv Try.func39 sh_postroadref06_New.plan (xs := [.v (.agg #[(.int .i64 m0_N), (.slice m0_Arcs.a m0_Arcs.len m0_Arcs.cap)])]) ((args_cons _ args_nil)) (by kernel_rfl) (sh_postroadref06_New.is CV m0_N m0_Arcs w (fun v w' => R (.returned v) w')) h
def sh_postroadref06_New.o : CVT → List X → (Value → World → Prop) → World → Prop
  | CV, [.v (.agg ⟨[.int .i64 m0_N, .slice m0_Arcs_a m0_Arcs_l m0_Arcs_c]⟩)], K, w => sh_postroadref06_New m0_N ⟨m0_Arcs_a, m0_Arcs_l, m0_Arcs_c⟩ (fun r0 r1 r2 r3 w' => K (.tuple #[(.agg #[(.int .i64 r0), (.slice r1.a r1.len r1.cap), (.slice r2.a r2.len r2.cap)]), (.bool r3)]) w') w
  | _, _, _, _ => False
def sh_postroadref06_New.q : CVT → List X → World → (Value → Prop) → Prop
  | CV, [.v (.agg ⟨[.int .i64 m0_N, .slice m0_Arcs_a m0_Arcs_l m0_Arcs_c]⟩)], w, K => Quiet (Int × SV × SV × Bool) (fun r => (.tuple #[(.agg #[(.int .i64 r.1), (.slice r.2.1.a r.2.1.len r.2.1.cap), (.slice r.2.2.1.a r.2.2.1.len r.2.2.1.cap)]), (.bool r.2.2.2)])) (fun K1 w' => sh_postroadref06_New m0_N ⟨m0_Arcs_a, m0_Arcs_l, m0_Arcs_c⟩ (fun r0 r1 r2 r3 w'' => K1 (r0, r1, r2, r3) w'') w') w (fun r => K (.tuple #[(.agg #[(.int .i64 r.1), (.slice r.2.1.a r.2.1.len r.2.1.cap), (.slice r.2.2.1.a r.2.2.1.len r.2.2.1.cap)]), (.bool r.2.2.2)]))
  | _, _, _, _ => False
noncomputable def cx_postroadref06_New : Cx := Cx.add Try.prog cx_postroadref06_counts 39 sh_postroadref06_New.o sh_postroadref06_New.q
theorem cx_postroadref06_New.ok : CxOk cx_postroadref06_New := by
  refine CxOk.add cx_postroadref06_counts.ok rfl (fun CV hcv xs K w hx h => ?_) (fun CV hcv xs K w hx h => ?_)
  · unfold sh_postroadref06_New.o at h; split at h
    · rename_i m0_N m0_Arcs_a m0_Arcs_l m0_Arcs_c; exact sh_postroadref06_New.calls CV m0_N ⟨m0_Arcs_a, m0_Arcs_l, m0_Arcs_c⟩ hcv h
    · exact h.elim
  · unfold sh_postroadref06_New.q at h; split at h
    · rename_i m0_N m0_Arcs_a m0_Arcs_l m0_Arcs_c; obtain ⟨r, h1, h2⟩ := h; exact ⟨_, h2, fun w' e => sh_postroadref06_New.calls CV m0_N ⟨m0_Arcs_a, m0_Arcs_l, m0_Arcs_c⟩ hcv (h1 w' e)⟩
    · exact h.elim
def sh_postroadref06_put.plan : Plan := (.seq .o (.seq .o (.join [.slot 5 (.int .i64)] [] (.block (.loop [.slot 5 (.int .i64)] [] (.seq (.seq (.draw [] [.pure, .pure, .pure, .pure, .pure, .pure, .pure, .pure, .pure, .quiet, .pure, .loc, .pure, .pure] [0, 1, 2, 3, 4, 5, 6, 7, 8, 9, 10, 11, 12, 13]) (.cond .o .o)) (.block .o)))) (.seq .o (.seq .o (.seq .o (.seq .o .o)))))))
theorem sh_postroadref06_put.is (CV : CVT) (l0 : SV) (e0_V : Int) (e0_W : Int) (e0_Arc : Int) (w : World) (R : Value → World → Prop) : sh_postroadref06_put l0 e0_V e0_W e0_Arc (fun r0 w' => R (.slice r0.a r0.len r0.cap) w') w = denF (cx_postroadref06_New.with CV) Try.f100 sh_postroadref06_put.plan [.v (.slice l0.a l0.len l0.cap), .v (.agg #[(.int .i64 e0_V), (.int .i64 e0_W), (.int .i64 e0_Arc)])] w R := by kernel_rfl
theorem sh_postroadref06_put.calls (CV : CVT) (l0 : SV) (e0_V : Int) (e0_W : Int) (e0_Arc : Int) (hcv : CVOk Try.prog CV) {w : World} {R : Ending → World → Prop} (h : sh_postroadref06_put l0 e0_V e0_W e0_Arc (fun r0 w' => R (.returned (.slice r0.a r0.len r0.cap)) w') w) : Calls Try.prog 100 #[(.slice l0.a l0.len l0.cap), (.agg #[(.int .i64 e0_V), (.int .i64 e0_W), (.int .i64 e0_Arc)])] w R :=
  calls_is (cx := cx_postroadref06_New.with CV) mixed_Try (cx_postroadref06_New.ok.with CV) hcv Try.func100 sh_postroadref06_put.plan (xs := [.v (.slice l0.a l0.len l0.cap), .v (.agg #[(.int .i64 e0_V), (.int .i64 e0_W), (.int .i64 e0_Arc)])]) ((args_cons _ (args_cons _ args_nil))) (by kernel_rfl) (sh_postroadref06_put.is CV l0 e0_V e0_W e0_Arc w (fun v w' => R (.returned v) w')) h
def sh_postroadref06_put.o : CVT → List X → (Value → World → Prop) → World → Prop
  | CV, [.v (.slice l0_a l0_l l0_c), .v (.agg ⟨[.int .i64 e0_V, .int .i64 e0_W, .int .i64 e0_Arc]⟩)], K, w => sh_postroadref06_put ⟨l0_a, l0_l, l0_c⟩ e0_V e0_W e0_Arc (fun r0 w' => K (.slice r0.a r0.len r0.cap) w') w
  | _, _, _, _ => False
def sh_postroadref06_put.q : CVT → List X → World → (Value → Prop) → Prop
  | CV, [.v (.slice l0_a l0_l l0_c), .v (.agg ⟨[.int .i64 e0_V, .int .i64 e0_W, .int .i64 e0_Arc]⟩)], w, K => Quiet (SV) (fun r => (.slice r.a r.len r.cap)) (fun K1 w' => sh_postroadref06_put ⟨l0_a, l0_l, l0_c⟩ e0_V e0_W e0_Arc (fun r0 w'' => K1 r0 w'') w') w (fun r => K (.slice r.a r.len r.cap))
  | _, _, _, _ => False
noncomputable def cx_postroadref06_put : Cx := Cx.add Try.prog cx_postroadref06_New 100 sh_postroadref06_put.o sh_postroadref06_put.q
theorem cx_postroadref06_put.ok : CxOk cx_postroadref06_put := by
  refine CxOk.add cx_postroadref06_New.ok rfl (fun CV hcv xs K w hx h => ?_) (fun CV hcv xs K w hx h => ?_)
  · unfold sh_postroadref06_put.o at h; split at h
    · rename_i l0_a l0_l l0_c e0_V e0_W e0_Arc; exact sh_postroadref06_put.calls CV ⟨l0_a, l0_l, l0_c⟩ e0_V e0_W e0_Arc hcv h
    · exact h.elim
  · unfold sh_postroadref06_put.q at h; split at h
    · rename_i l0_a l0_l l0_c e0_V e0_W e0_Arc; obtain ⟨r, h1, h2⟩ := h; exact ⟨_, h2, fun w' e => sh_postroadref06_put.calls CV ⟨l0_a, l0_l, l0_c⟩ e0_V e0_W e0_Arc hcv (h1 w' e)⟩
    · exact h.elim
def sh_postroadref06_Out.plan : Plan := (.seq .o (.seq .o (.seq (.seq .o (.block (.loop [.slot 5 .slice, .slot 6 (.int .i64)] [] (.seq (.seq .o (.cond .o .o)) (.join [.slot 5 .slice] [] (.block (.seq .o (.cond (.draw [] [.pure, .pure, .pure, .loc, .pure, .pure, .pure, .quiet, .pure, .pure, .loc, .pure, .pure, .pure, .quiet, .pure, .pure, .big, .pure] [0, 1, 2, 3, 4, 5, 6, 7, 8, 9, 10, 11, 12, 13, 14, 15, 16, 17, 18]) .o))) .o))))) (.seq .o .o))))
theorem sh_postroadref06_Out.is (CV : CVT) (g0_M_N : Int) (g0_M_Arcs : SV) (g0_Kept : SV) (v0 : Int) (w : World) (R : Value → World → Prop) : sh_postroadref06_Out g0_M_N g0_M_Arcs g0_Kept v0 (fun r0 w' => R (.slice r0.a r0.len r0.cap) w') w = denF (cx_postroadref06_put.with CV) Try.f87 sh_postroadref06_Out.plan [.v (.agg #[(.int .i64 g0_M_N), (.slice g0_M_Arcs.a g0_M_Arcs.len g0_M_Arcs.cap), (.slice g0_Kept.a g0_Kept.len g0_Kept.cap)]), .v (.int .i64 v0)] w R := by kernel_rfl
theorem sh_postroadref06_Out.calls (CV : CVT) (g0_M_N : Int) (g0_M_Arcs : SV) (g0_Kept : SV) (v0 : Int) (hcv : CVOk Try.prog CV) {w : World} {R : Ending → World → Prop} (h : sh_postroadref06_Out g0_M_N g0_M_Arcs g0_Kept v0 (fun r0 w' => R (.returned (.slice r0.a r0.len r0.cap)) w') w) : Calls Try.prog 87 #[(.agg #[(.int .i64 g0_M_N), (.slice g0_M_Arcs.a g0_M_Arcs.len g0_M_Arcs.cap), (.slice g0_Kept.a g0_Kept.len g0_Kept.cap)]), (.int .i64 v0)] w R :=
  calls_is (cx := cx_postroadref06_put.with CV) mixed_Try (cx_postroadref06_put.ok.with CV) hcv Try.func87 sh_postroadref06_Out.plan (xs := [.v (.agg #[(.int .i64 g0_M_N), (.slice g0_M_Arcs.a g0_M_Arcs.len g0_M_Arcs.cap), (.slice g0_Kept.a g0_Kept.len g0_Kept.cap)]), .v (.int .i64 v0)]) ((args_cons _ (args_cons _ args_nil))) (by kernel_rfl) (sh_postroadref06_Out.is CV g0_M_N g0_M_Arcs g0_Kept v0 w (fun v w' => R (.returned v) w')) h
def sh_postroadref06_Out.o : CVT → List X → (Value → World → Prop) → World → Prop
  | CV, [.v (.agg ⟨[.int .i64 g0_M_N, .slice g0_M_Arcs_a g0_M_Arcs_l g0_M_Arcs_c, .slice g0_Kept_a g0_Kept_l g0_Kept_c]⟩), .v (.int .i64 v0)], K, w => sh_postroadref06_Out g0_M_N ⟨g0_M_Arcs_a, g0_M_Arcs_l, g0_M_Arcs_c⟩ ⟨g0_Kept_a, g0_Kept_l, g0_Kept_c⟩ v0 (fun r0 w' => K (.slice r0.a r0.len r0.cap) w') w
  | _, _, _, _ => False
def sh_postroadref06_Out.q : CVT → List X → World → (Value → Prop) → Prop
  | CV, [.v (.agg ⟨[.int .i64 g0_M_N, .slice g0_M_Arcs_a g0_M_Arcs_l g0_M_Arcs_c, .slice g0_Kept_a g0_Kept_l g0_Kept_c]⟩), .v (.int .i64 v0)], w, K => Quiet (SV) (fun r => (.slice r.a r.len r.cap)) (fun K1 w' => sh_postroadref06_Out g0_M_N ⟨g0_M_Arcs_a, g0_M_Arcs_l, g0_M_Arcs_c⟩ ⟨g0_Kept_a, g0_Kept_l, g0_Kept_c⟩ v0 (fun r0 w'' => K1 r0 w'') w') w (fun r => K (.slice r.a r.len r.cap))
  | _, _, _, _ => False
noncomputable def cx_postroadref06_Out : Cx := Cx.add Try.prog cx_postroadref06_put 87 sh_postroadref06_Out.o sh_postroadref06_Out.q
theorem cx_postroadref06_Out.ok : CxOk cx_postroadref06_Out := by
  refine CxOk.add cx_postroadref06_put.ok rfl (fun CV hcv xs K w hx h => ?_) (fun CV hcv xs K w hx h => ?_)
  · unfold sh_postroadref06_Out.o at h; split at h
    · rename_i g0_M_N g0_M_Arcs_a g0_M_Arcs_l g0_M_Arcs_c g0_Kept_a g0_Kept_l g0_Kept_c v0; exact sh_postroadref06_Out.calls CV g0_M_N ⟨g0_M_Arcs_a, g0_M_Arcs_l, g0_M_Arcs_c⟩ ⟨g0_Kept_a, g0_Kept_l, g0_Kept_c⟩ v0 hcv h
    · exact h.elim
  · unfold sh_postroadref06_Out.q at h; split at h
    · rename_i g0_M_N g0_M_Arcs_a g0_M_Arcs_l g0_M_Arcs_c g0_Kept_a g0_Kept_l g0_Kept_c v0; obtain ⟨r, h1, h2⟩ := h; exact ⟨_, h2, fun w' e => sh_postroadref06_Out.calls CV g0_M_N ⟨g0_M_Arcs_a, g0_M_Arcs_l, g0_M_Arcs_c⟩ ⟨g0_Kept_a, g0_Kept_l, g0_Kept_c⟩ v0 hcv (h1 w' e)⟩
    · exact h.elim
def sh_postroadref08_New.plan : Plan := (.seq .o (.seq .o (.join [.box 3 [(.int .i64), .slice, .slice, .slice]] [] (.seq .o (.block (.loop [.slot 4 (.int .i64), .box 3 [(.int .i64), .slice, .slice, .slice]] [] (.seq (.seq .o (.cond .o .o)) (.join [.box 3 [(.int .i64), .slice, .slice, .slice]] [] (.block (.seq .o (.seq .o (.seq .o (.seq .o (.block (.loop [.slot 6 (.int .i64), .box 3 [(.int .i64), .slice, .slice, .slice]] [] (.seq (.seq .o (.cond .o .o)) (.seq (.block (.draw [] [.pure, .loc, .pure, .pure, .pure, .pure, .pure, .quiet, .pure, .pure, .pure, .pure, .quiet, .pure, .pure, .pure, .pure, .quiet, .pure, .pure, .new, .big, .pure, .big] [0, 1, 2, 3, 4, 5, 6, 7, 8, 9, 10, 11, 12, 13, 14, 15, 16, 17, 18, 19, 20, 21, 22, 23])) .o))))))))) .o))))) (.seq .o .o))))
theorem sh_postroadref08_New.is (CV : CVT) (g0_M_N : Int) (g0_M_Arcs : SV) (g0_Kept : SV) (w : World) (R : Value → World → Prop) : sh_postroadref08_New g0_M_N g0_M_Arcs g0_Kept (fun r0 r1 r2 r3 w' => R (.agg #[(.int .i64 r0), (.slice r1.a r1.len r1.cap), (.slice r2.a r2.len r2.cap), (.slice r3.a r3.len r3.cap)]) w') w = denF (cx_postroadref06_Out.with CV) Try.f66 sh_postroadref08_New.plan [.v (.agg #[(.int .i64 g0_M_N), (.slice g0_M_Arcs.a g0_M_Arcs.len g0_M_Arcs.cap), (.slice g0_Kept.a g0_Kept.len g0_Kept.cap)])] w R := by kernel_rfl
theorem sh_postroadref08_New.calls (CV : CVT) (g0_M_N : Int) (g0_M_Arcs : SV) (g0_Kept : SV) (hcv : CVOk Try.prog CV) {w : World} {R : Ending → World → Prop} (h : sh_postroadref08_New g0_M_N g0_M_Arcs g0_Kept (fun r0 r1 r2 r3 w' => R (.returned (.agg #[(.int .i64 r0), (.slice r1.a r1.len r1.cap), (.slice r2.a r2.len r2.cap), (.slice r3.a r3.len r3.cap)])) w') w) : Calls Try.prog 66 #[(.agg #[(.int .i64 g0_M_N), (.slice g0_M_Arcs.a g0_M_Arcs.len g0_M_Arcs.cap), (.slice g0_Kept.a g0_Kept.len g0_Kept.cap)])] w R :=
  calls_is (cx := cx_postroadref06_Out.with CV) mixed_Try (cx_postroadref06_Out.ok.with CV) hcv Try.func66 sh_postroadref08_New.plan (xs := [.v (.agg #[(.int .i64 g0_M_N), (.slice g0_M_Arcs.a g0_M_Arcs.len g0_M_Arcs.cap), (.slice g0_Kept.a g0_Kept.len g0_Kept.cap)])]) ((args_cons _ args_nil)) (by kernel_rfl) (sh_postroadref08_New.is CV g0_M_N g0_M_Arcs g0_Kept w (fun v w' => R (.returned v) w')) h
def sh_postroadref08_New.o : CVT → List X → (Value → World → Prop) → World → Prop
  | CV, [.v (.agg ⟨[.int .i64 g0_M_N, .slice g0_M_Arcs_a g0_M_Arcs_l g0_M_Arcs_c, .slice g0_Kept_a g0_Kept_l g0_Kept_c]⟩)], K, w => sh_postroadref08_New g0_M_N ⟨g0_M_Arcs_a, g0_M_Arcs_l, g0_M_Arcs_c⟩ ⟨g0_Kept_a, g0_Kept_l, g0_Kept_c⟩ (fun r0 r1 r2 r3 w' => K (.agg #[(.int .i64 r0), (.slice r1.a r1.len r1.cap), (.slice r2.a r2.len r2.cap), (.slice r3.a r3.len r3.cap)]) w') w
  | _, _, _, _ => False
def sh_postroadref08_New.q : CVT → List X → World → (Value → Prop) → Prop
  | CV, [.v (.agg ⟨[.int .i64 g0_M_N, .slice g0_M_Arcs_a g0_M_Arcs_l g0_M_Arcs_c, .slice g0_Kept_a g0_Kept_l g0_Kept_c]⟩)], w, K => Quiet (Int × SV × SV × SV) (fun r => (.agg #[(.int .i64 r.1), (.slice r.2.1.a r.2.1.len r.2.1.cap), (.slice r.2.2.1.a r.2.2.1.len r.2.2.1.cap), (.slice r.2.2.2.a r.2.2.2.len r.2.2.2.cap)])) (fun K1 w' => sh_postroadref08_New g0_M_N ⟨g0_M_Arcs_a, g0_M_Arcs_l, g0_M_Arcs_c⟩ ⟨g0_Kept_a, g0_Kept_l, g0_Kept_c⟩ (fun r0 r1 r2 r3 w'' => K1 (r0, r1, r2, r3) w'') w') w (fun r => K (.agg #[(.int .i64 r.1), (.slice r.2.1.a r.2.1.len r.2.1.cap), (.slice r.2.2.1.a r.2.2.1.len r.2.2.1.cap), (.slice r.2.2.2.a r.2.2.2.len r.2.2.2.cap)]))
  | _, _, _, _ => False
noncomputable def cx_postroadref08_New : Cx := Cx.add Try.prog cx_postroadref06_Out 66 sh_postroadref08_New.o sh_postroadref08_New.q
theorem cx_postroadref08_New.ok : CxOk cx_postroadref08_New := by
  refine CxOk.add cx_postroadref06_Out.ok rfl (fun CV hcv xs K w hx h => ?_) (fun CV hcv xs K w hx h => ?_)
  · unfold sh_postroadref08_New.o at h; split at h
    · rename_i g0_M_N g0_M_Arcs_a g0_M_Arcs_l g0_M_Arcs_c g0_Kept_a g0_Kept_l g0_Kept_c; exact sh_postroadref08_New.calls CV g0_M_N ⟨g0_M_Arcs_a, g0_M_Arcs_l, g0_M_Arcs_c⟩ ⟨g0_Kept_a, g0_Kept_l, g0_Kept_c⟩ hcv h
    · exact h.elim
  · unfold sh_postroadref08_New.q at h; split at h
    · rename_i g0_M_N g0_M_Arcs_a g0_M_Arcs_l g0_M_Arcs_c g0_Kept_a g0_Kept_l g0_Kept_c; obtain ⟨r, h1, h2⟩ := h; exact ⟨_, h2, fun w' e => sh_postroadref08_New.calls CV g0_M_N ⟨g0_M_Arcs_a, g0_M_Arcs_l, g0_M_Arcs_c⟩ ⟨g0_Kept_a, g0_Kept_l, g0_Kept_c⟩ hcv (h1 w' e)⟩
    · exact h.elim
def sh_postroadref08_Places.plan : Plan := (.seq .o (.seq .o (.seq (.seq .o (.block (.loop [.slot 3 .slice, .slot 4 (.int .i64)] [] (.seq (.seq .o (.cond .o .o)) (.join [.slot 3 .slice] [] (.block (.seq .o (.cond .o .o))) .o))))) (.seq .o .o))))
theorem sh_postroadref08_Places.is (CV : CVT) (t0_N : Int) (t0_In : SV) (t0_L : SV) (t0_Lost : SV) (w : World) (R : Value → World → Prop) : sh_postroadref08_Places t0_N t0_In t0_L t0_Lost (fun r0 w' => R (.slice r0.a r0.len r0.cap) w') w = denF (cx_postroadref08_New.with CV) Try.f88 sh_postroadref08_Places.plan [.v (.agg #[(.int .i64 t0_N), (.slice t0_In.a t0_In.len t0_In.cap), (.slice t0_L.a t0_L.len t0_L.cap), (.slice t0_Lost.a t0_Lost.len t0_Lost.cap)])] w R := by kernel_rfl
theorem sh_postroadref08_Places.calls (CV : CVT) (t0_N : Int) (t0_In : SV) (t0_L : SV) (t0_Lost : SV) (hcv : CVOk Try.prog CV) {w : World} {R : Ending → World → Prop} (h : sh_postroadref08_Places t0_N t0_In t0_L t0_Lost (fun r0 w' => R (.returned (.slice r0.a r0.len r0.cap)) w') w) : Calls Try.prog 88 #[(.agg #[(.int .i64 t0_N), (.slice t0_In.a t0_In.len t0_In.cap), (.slice t0_L.a t0_L.len t0_L.cap), (.slice t0_Lost.a t0_Lost.len t0_Lost.cap)])] w R :=
  calls_is (cx := cx_postroadref08_New.with CV) mixed_Try (cx_postroadref08_New.ok.with CV) hcv Try.func88 sh_postroadref08_Places.plan (xs := [.v (.agg #[(.int .i64 t0_N), (.slice t0_In.a t0_In.len t0_In.cap), (.slice t0_L.a t0_L.len t0_L.cap), (.slice t0_Lost.a t0_Lost.len t0_Lost.cap)])]) ((args_cons _ args_nil)) (by kernel_rfl) (sh_postroadref08_Places.is CV t0_N t0_In t0_L t0_Lost w (fun v w' => R (.returned v) w')) h
def sh_postroadref08_Places.o : CVT → List X → (Value → World → Prop) → World → Prop
  | CV, [.v (.agg ⟨[.int .i64 t0_N, .slice t0_In_a t0_In_l t0_In_c, .slice t0_L_a t0_L_l t0_L_c, .slice t0_Lost_a t0_Lost_l t0_Lost_c]⟩)], K, w => sh_postroadref08_Places t0_N ⟨t0_In_a, t0_In_l, t0_In_c⟩ ⟨t0_L_a, t0_L_l, t0_L_c⟩ ⟨t0_Lost_a, t0_Lost_l, t0_Lost_c⟩ (fun r0 w' => K (.slice r0.a r0.len r0.cap) w') w
  | _, _, _, _ => False
def sh_postroadref08_Places.q : CVT → List X → World → (Value → Prop) → Prop
  | CV, [.v (.agg ⟨[.int .i64 t0_N, .slice t0_In_a t0_In_l t0_In_c, .slice t0_L_a t0_L_l t0_L_c, .slice t0_Lost_a t0_Lost_l t0_Lost_c]⟩)], w, K => Quiet (SV) (fun r => (.slice r.a r.len r.cap)) (fun K1 w' => sh_postroadref08_Places t0_N ⟨t0_In_a, t0_In_l, t0_In_c⟩ ⟨t0_L_a, t0_L_l, t0_L_c⟩ ⟨t0_Lost_a, t0_Lost_l, t0_Lost_c⟩ (fun r0 w'' => K1 r0 w'') w') w (fun r => K (.slice r.a r.len r.cap))
  | _, _, _, _ => False
noncomputable def cx_postroadref08_Places : Cx := Cx.add Try.prog cx_postroadref08_New 88 sh_postroadref08_Places.o sh_postroadref08_Places.q
theorem cx_postroadref08_Places.ok : CxOk cx_postroadref08_Places := by
  refine CxOk.add cx_postroadref08_New.ok rfl (fun CV hcv xs K w hx h => ?_) (fun CV hcv xs K w hx h => ?_)
  · unfold sh_postroadref08_Places.o at h; split at h
    · rename_i t0_N t0_In_a t0_In_l t0_In_c t0_L_a t0_L_l t0_L_c t0_Lost_a t0_Lost_l t0_Lost_c; exact sh_postroadref08_Places.calls CV t0_N ⟨t0_In_a, t0_In_l, t0_In_c⟩ ⟨t0_L_a, t0_L_l, t0_L_c⟩ ⟨t0_Lost_a, t0_Lost_l, t0_Lost_c⟩ hcv h
    · exact h.elim
  · unfold sh_postroadref08_Places.q at h; split at h
    · rename_i t0_N t0_In_a t0_In_l t0_In_c t0_L_a t0_L_l t0_L_c t0_Lost_a t0_Lost_l t0_Lost_c; obtain ⟨r, h1, h2⟩ := h; exact ⟨_, h2, fun w' e => sh_postroadref08_Places.calls CV t0_N ⟨t0_In_a, t0_In_l, t0_In_c⟩ ⟨t0_L_a, t0_L_l, t0_L_c⟩ ⟨t0_Lost_a, t0_Lost_l, t0_Lost_c⟩ hcv (h1 w' e)⟩
    · exact h.elim
def sh_postroadref08_is.plan : Plan := (.seq .o (.seq .o .o))
theorem sh_postroadref08_is.is (CV : CVT) (t0_N : Int) (t0_In : SV) (t0_L : SV) (t0_Lost : SV) (v0 : Int) (w : World) (R : Value → World → Prop) : sh_postroadref08_is t0_N t0_In t0_L t0_Lost v0 (fun r0 w' => R (.bool r0) w') w = denF (cx_postroadref08_Places.with CV) Try.f91 sh_postroadref08_is.plan [.v (.agg #[(.int .i64 t0_N), (.slice t0_In.a t0_In.len t0_In.cap), (.slice t0_L.a t0_L.len t0_L.cap), (.slice t0_Lost.a t0_Lost.len t0_Lost.cap)]), .v (.int .i64 v0)] w R := by kernel_rfl
theorem sh_postroadref08_is.calls (CV : CVT) (t0_N : Int) (t0_In : SV) (t0_L : SV) (t0_Lost : SV) (v0 : Int) (hcv : CVOk Try.prog CV) {w : World} {R : Ending → World → Prop} (h : sh_postroadref08_is t0_N t0_In t0_L t0_Lost v0 (fun r0 w' => R (.returned (.bool r0)) w') w) : Calls Try.prog 91 #[(.agg #[(.int .i64 t0_N), (.slice t0_In.a t0_In.len t0_In.cap), (.slice t0_L.a t0_L.len t0_L.cap), (.slice t0_Lost.a t0_Lost.len t0_Lost.cap)]), (.int .i64 v0)] w R :=
  calls_is (cx := cx_postroadref08_Places.with CV) mixed_Try (cx_postroadref08_Places.ok.with CV) hcv Try.func91 sh_postroadref08_is.plan (xs := [.v (.agg #[(.int .i64 t0_N), (.slice t0_In.a t0_In.len t0_In.cap), (.slice t0_L.a t0_L.len t0_L.cap), (.slice t0_Lost.a t0_Lost.len t0_Lost.cap)]), .v (.int .i64 v0)]) ((args_cons _ (args_cons _ args_nil))) (by kernel_rfl) (sh_postroadref08_is.is CV t0_N t0_In t0_L t0_Lost v0 w (fun v w' => R (.returned v) w')) h
def sh_postroadref08_is.o : CVT → List X → (Value → World → Prop) → World → Prop
  | CV, [.v (.agg ⟨[.int .i64 t0_N, .slice t0_In_a t0_In_l t0_In_c, .slice t0_L_a t0_L_l t0_L_c, .slice t0_Lost_a t0_Lost_l t0_Lost_c]⟩), .v (.int .i64 v0)], K, w => sh_postroadref08_is t0_N ⟨t0_In_a, t0_In_l, t0_In_c⟩ ⟨t0_L_a, t0_L_l, t0_L_c⟩ ⟨t0_Lost_a, t0_Lost_l, t0_Lost_c⟩ v0 (fun r0 w' => K (.bool r0) w') w
  | _, _, _, _ => False
def sh_postroadref08_is.q : CVT → List X → World → (Value → Prop) → Prop
  | CV, [.v (.agg ⟨[.int .i64 t0_N, .slice t0_In_a t0_In_l t0_In_c, .slice t0_L_a t0_L_l t0_L_c, .slice t0_Lost_a t0_Lost_l t0_Lost_c]⟩), .v (.int .i64 v0)], w, K => Quiet (Bool) (fun r => (.bool r)) (fun K1 w' => sh_postroadref08_is t0_N ⟨t0_In_a, t0_In_l, t0_In_c⟩ ⟨t0_L_a, t0_L_l, t0_L_c⟩ ⟨t0_Lost_a, t0_Lost_l, t0_Lost_c⟩ v0 (fun r0 w'' => K1 r0 w'') w') w (fun r => K (.bool r))
  | _, _, _, _ => False
noncomputable def cx_postroadref08_is : Cx := Cx.add Try.prog cx_postroadref08_Places 91 sh_postroadref08_is.o sh_postroadref08_is.q
theorem cx_postroadref08_is.ok : CxOk cx_postroadref08_is := by
  refine CxOk.add cx_postroadref08_Places.ok rfl (fun CV hcv xs K w hx h => ?_) (fun CV hcv xs K w hx h => ?_)
  · unfold sh_postroadref08_is.o at h; split at h
    · rename_i t0_N t0_In_a t0_In_l t0_In_c t0_L_a t0_L_l t0_L_c t0_Lost_a t0_Lost_l t0_Lost_c v0; exact sh_postroadref08_is.calls CV t0_N ⟨t0_In_a, t0_In_l, t0_In_c⟩ ⟨t0_L_a, t0_L_l, t0_L_c⟩ ⟨t0_Lost_a, t0_Lost_l, t0_Lost_c⟩ v0 hcv h
    · exact h.elim
  · unfold sh_postroadref08_is.q at h; split at h
    · rename_i t0_N t0_In_a t0_In_l t0_In_c t0_L_a t0_L_l t0_L_c t0_Lost_a t0_Lost_l t0_Lost_c v0; obtain ⟨r, h1, h2⟩ := h; exact ⟨_, h2, fun w' e => sh_postroadref08_is.calls CV t0_N ⟨t0_In_a, t0_In_l, t0_In_c⟩ ⟨t0_L_a, t0_L_l, t0_L_c⟩ ⟨t0_Lost_a, t0_Lost_l, t0_Lost_c⟩ v0 hcv (h1 w' e)⟩
    · exact h.elim
def sh_postroadref08_Way.plan : Plan := (.seq .o (.join [.box 6 [(.int .i64), (.int .i64), (.int .i64)]] [] (.seq .o (.block (.loop [.slot 8 (.int .i64), .box 6 [(.int .i64), (.int .i64), (.int .i64)]] [] (.seq (.seq .o (.cond .o .o)) (.join [.box 6 [(.int .i64), (.int .i64), (.int .i64)]] [] (.block (.seq .o (.cond (.seq .o .o) .o))) .o))))) (.seq .o .o)))
theorem sh_postroadref08_Way.is (CV : CVT) (t0_N : Int) (t0_In : SV) (t0_L : SV) (t0_Lost : SV) (u0 : Int) (v0 : Int) (w : World) (R : Value → World → Prop) : sh_postroadref08_Way t0_N t0_In t0_L t0_Lost u0 v0 (fun r0 r1 r2 r3 w' => R (.tuple #[(.agg #[(.int .i64 r0), (.int .i64 r1), (.int .i64 r2)]), (.bool r3)]) w') w = denF (cx_postroadref08_is.with CV) Try.f71 sh_postroadref08_Way.plan [.v (.agg #[(.int .i64 t0_N), (.slice t0_In.a t0_In.len t0_In.cap), (.slice t0_L.a t0_L.len t0_L.cap), (.slice t0_Lost.a t0_Lost.len t0_Lost.cap)]), .v (.int .i64 u0), .v (.int .i64 v0)] w R := by kernel_rfl
theorem sh_postroadref08_Way.calls (CV : CVT) (t0_N : Int) (t0_In : SV) (t0_L : SV) (t0_Lost : SV) (u0 : Int) (v0 : Int) (hcv : CVOk Try.prog CV) {w : World} {R : Ending → World → Prop} (h : sh_postroadref08_Way t0_N t0_In t0_L t0_Lost u0 v0 (fun r0 r1 r2 r3 w' => R (.returned (.tuple #[(.agg #[(.int .i64 r0), (.int .i64 r1), (.int .i64 r2)]), (.bool r3)])) w') w) : Calls Try.prog 71 #[(.agg #[(.int .i64 t0_N), (.slice t0_In.a t0_In.len t0_In.cap), (.slice t0_L.a t0_L.len t0_L.cap), (.slice t0_Lost.a t0_Lost.len t0_Lost.cap)]), (.int .i64 u0), (.int .i64 v0)] w R :=
  calls_is (cx := cx_postroadref08_is.with CV) mixed_Try (cx_postroadref08_is.ok.with CV) hcv Try.func71 sh_postroadref08_Way.plan (xs := [.v (.agg #[(.int .i64 t0_N), (.slice t0_In.a t0_In.len t0_In.cap), (.slice t0_L.a t0_L.len t0_L.cap), (.slice t0_Lost.a t0_Lost.len t0_Lost.cap)]), .v (.int .i64 u0), .v (.int .i64 v0)]) ((args_cons _ (args_cons _ (args_cons _ args_nil)))) (by kernel_rfl) (sh_postroadref08_Way.is CV t0_N t0_In t0_L t0_Lost u0 v0 w (fun v w' => R (.returned v) w')) h
def sh_postroadref08_Way.o : CVT → List X → (Value → World → Prop) → World → Prop
  | CV, [.v (.agg ⟨[.int .i64 t0_N, .slice t0_In_a t0_In_l t0_In_c, .slice t0_L_a t0_L_l t0_L_c, .slice t0_Lost_a t0_Lost_l t0_Lost_c]⟩), .v (.int .i64 u0), .v (.int .i64 v0)], K, w => sh_postroadref08_Way t0_N ⟨t0_In_a, t0_In_l, t0_In_c⟩ ⟨t0_L_a, t0_L_l, t0_L_c⟩ ⟨t0_Lost_a, t0_Lost_l, t0_Lost_c⟩ u0 v0 (fun r0 r1 r2 r3 w' => K (.tuple #[(.agg #[(.int .i64 r0), (.int .i64 r1), (.int .i64 r2)]), (.bool r3)]) w') w
  | _, _, _, _ => False
def sh_postroadref08_Way.q : CVT → List X → World → (Value → Prop) → Prop
  | CV, [.v (.agg ⟨[.int .i64 t0_N, .slice t0_In_a t0_In_l t0_In_c, .slice t0_L_a t0_L_l t0_L_c, .slice t0_Lost_a t0_Lost_l t0_Lost_c]⟩), .v (.int .i64 u0), .v (.int .i64 v0)], w, K => Quiet (Int × Int × Int × Bool) (fun r => (.tuple #[(.agg #[(.int .i64 r.1), (.int .i64 r.2.1), (.int .i64 r.2.2.1)]), (.bool r.2.2.2)])) (fun K1 w' => sh_postroadref08_Way t0_N ⟨t0_In_a, t0_In_l, t0_In_c⟩ ⟨t0_L_a, t0_L_l, t0_L_c⟩ ⟨t0_Lost_a, t0_Lost_l, t0_Lost_c⟩ u0 v0 (fun r0 r1 r2 r3 w'' => K1 (r0, r1, r2, r3) w'') w') w (fun r => K (.tuple #[(.agg #[(.int .i64 r.1), (.int .i64 r.2.1), (.int .i64 r.2.2.1)]), (.bool r.2.2.2)]))
  | _, _, _, _ => False
noncomputable def cx_postroadref08_Way : Cx := Cx.add Try.prog cx_postroadref08_is 71 sh_postroadref08_Way.o sh_postroadref08_Way.q
theorem cx_postroadref08_Way.ok : CxOk cx_postroadref08_Way := by
  refine CxOk.add cx_postroadref08_is.ok rfl (fun CV hcv xs K w hx h => ?_) (fun CV hcv xs K w hx h => ?_)
  · unfold sh_postroadref08_Way.o at h; split at h
    · rename_i t0_N t0_In_a t0_In_l t0_In_c t0_L_a t0_L_l t0_L_c t0_Lost_a t0_Lost_l t0_Lost_c u0 v0; exact sh_postroadref08_Way.calls CV t0_N ⟨t0_In_a, t0_In_l, t0_In_c⟩ ⟨t0_L_a, t0_L_l, t0_L_c⟩ ⟨t0_Lost_a, t0_Lost_l, t0_Lost_c⟩ u0 v0 hcv h
    · exact h.elim
  · unfold sh_postroadref08_Way.q at h; split at h
    · rename_i t0_N t0_In_a t0_In_l t0_In_c t0_L_a t0_L_l t0_L_c t0_Lost_a t0_Lost_l t0_Lost_c u0 v0; obtain ⟨r, h1, h2⟩ := h; exact ⟨_, h2, fun w' e => sh_postroadref08_Way.calls CV t0_N ⟨t0_In_a, t0_In_l, t0_In_c⟩ ⟨t0_L_a, t0_L_l, t0_L_c⟩ ⟨t0_Lost_a, t0_Lost_l, t0_Lost_c⟩ u0 v0 hcv (h1 w' e)⟩
    · exact h.elim
def sh_postroadref08_Ins.plan : Plan := (.seq .o (.seq .o (.seq (.seq .o (.block (.loop [.slot 5 .slice, .slot 6 (.int .i64)] [] (.seq (.seq .o (.cond .o .o)) (.join [.slot 5 .slice] [] (.block (.seq .o (.seq .o (.cond .o .o)))) .o))))) (.seq .o .o))))
theorem sh_postroadref08_Ins.is (CV : CVT) (t0_N : Int) (t0_In : SV) (t0_L : SV) (t0_Lost : SV) (v0 : Int) (w : World) (R : Value → World → Prop) : sh_postroadref08_Ins t0_N t0_In t0_L t0_Lost v0 (fun r0 w' => R (.slice r0.a r0.len r0.cap) w') w = denF (cx_postroadref08_Way.with CV) Try.f72 sh_postroadref08_Ins.plan [.v (.agg #[(.int .i64 t0_N), (.slice t0_In.a t0_In.len t0_In.cap), (.slice t0_L.a t0_L.len t0_L.cap), (.slice t0_Lost.a t0_Lost.len t0_Lost.cap)]), .v (.int .i64 v0)] w R := by kernel_rfl
theorem sh_postroadref08_Ins.calls (CV : CVT) (t0_N : Int) (t0_In : SV) (t0_L : SV) (t0_Lost : SV) (v0 : Int) (hcv : CVOk Try.prog CV) {w : World} {R : Ending → World → Prop} (h : sh_postroadref08_Ins t0_N t0_In t0_L t0_Lost v0 (fun r0 w' => R (.returned (.slice r0.a r0.len r0.cap)) w') w) : Calls Try.prog 72 #[(.agg #[(.int .i64 t0_N), (.slice t0_In.a t0_In.len t0_In.cap), (.slice t0_L.a t0_L.len t0_L.cap), (.slice t0_Lost.a t0_Lost.len t0_Lost.cap)]), (.int .i64 v0)] w R :=
  calls_is (cx := cx_postroadref08_Way.with CV) mixed_Try (cx_postroadref08_Way.ok.with CV) hcv Try.func72 sh_postroadref08_Ins.plan (xs := [.v (.agg #[(.int .i64 t0_N), (.slice t0_In.a t0_In.len t0_In.cap), (.slice t0_L.a t0_L.len t0_L.cap), (.slice t0_Lost.a t0_Lost.len t0_Lost.cap)]), .v (.int .i64 v0)]) ((args_cons _ (args_cons _ args_nil))) (by kernel_rfl) (sh_postroadref08_Ins.is CV t0_N t0_In t0_L t0_Lost v0 w (fun v w' => R (.returned v) w')) h
def sh_postroadref08_Ins.o : CVT → List X → (Value → World → Prop) → World → Prop
  | CV, [.v (.agg ⟨[.int .i64 t0_N, .slice t0_In_a t0_In_l t0_In_c, .slice t0_L_a t0_L_l t0_L_c, .slice t0_Lost_a t0_Lost_l t0_Lost_c]⟩), .v (.int .i64 v0)], K, w => sh_postroadref08_Ins t0_N ⟨t0_In_a, t0_In_l, t0_In_c⟩ ⟨t0_L_a, t0_L_l, t0_L_c⟩ ⟨t0_Lost_a, t0_Lost_l, t0_Lost_c⟩ v0 (fun r0 w' => K (.slice r0.a r0.len r0.cap) w') w
  | _, _, _, _ => False
def sh_postroadref08_Ins.q : CVT → List X → World → (Value → Prop) → Prop
  | CV, [.v (.agg ⟨[.int .i64 t0_N, .slice t0_In_a t0_In_l t0_In_c, .slice t0_L_a t0_L_l t0_L_c, .slice t0_Lost_a t0_Lost_l t0_Lost_c]⟩), .v (.int .i64 v0)], w, K => Quiet (SV) (fun r => (.slice r.a r.len r.cap)) (fun K1 w' => sh_postroadref08_Ins t0_N ⟨t0_In_a, t0_In_l, t0_In_c⟩ ⟨t0_L_a, t0_L_l, t0_L_c⟩ ⟨t0_Lost_a, t0_Lost_l, t0_Lost_c⟩ v0 (fun r0 w'' => K1 r0 w'') w') w (fun r => K (.slice r.a r.len r.cap))
  | _, _, _, _ => False
noncomputable def cx_postroadref08_Ins : Cx := Cx.add Try.prog cx_postroadref08_Way 72 sh_postroadref08_Ins.o sh_postroadref08_Ins.q
theorem cx_postroadref08_Ins.ok : CxOk cx_postroadref08_Ins := by
  refine CxOk.add cx_postroadref08_Way.ok rfl (fun CV hcv xs K w hx h => ?_) (fun CV hcv xs K w hx h => ?_)
  · unfold sh_postroadref08_Ins.o at h; split at h
    · rename_i t0_N t0_In_a t0_In_l t0_In_c t0_L_a t0_L_l t0_L_c t0_Lost_a t0_Lost_l t0_Lost_c v0; exact sh_postroadref08_Ins.calls CV t0_N ⟨t0_In_a, t0_In_l, t0_In_c⟩ ⟨t0_L_a, t0_L_l, t0_L_c⟩ ⟨t0_Lost_a, t0_Lost_l, t0_Lost_c⟩ v0 hcv h
    · exact h.elim
  · unfold sh_postroadref08_Ins.q at h; split at h
    · rename_i t0_N t0_In_a t0_In_l t0_In_c t0_L_a t0_L_l t0_L_c t0_Lost_a t0_Lost_l t0_Lost_c v0; obtain ⟨r, h1, h2⟩ := h; exact ⟨_, h2, fun w' e => sh_postroadref08_Ins.calls CV t0_N ⟨t0_In_a, t0_In_l, t0_In_c⟩ ⟨t0_L_a, t0_L_l, t0_L_c⟩ ⟨t0_Lost_a, t0_Lost_l, t0_Lost_c⟩ v0 hcv (h1 w' e)⟩
    · exact h.elim
def sh_postroadref08_Outs.plan : Plan := (.seq .o (.seq .o (.seq (.seq .o (.block (.loop [.slot 5 .slice, .slot 6 (.int .i64)] [] (.seq (.seq .o (.cond .o .o)) (.join [.slot 5 .slice] [] (.block (.seq .o (.seq .o (.cond .o .o)))) .o))))) (.seq .o .o))))
theorem sh_postroadref08_Outs.is (CV : CVT) (t0_N : Int) (t0_In : SV) (t0_L : SV) (t0_Lost : SV) (v0 : Int) (w : World) (R : Value → World → Prop) : sh_postroadref08_Outs t0_N t0_In t0_L t0_Lost v0 (fun r0 w' => R (.slice r0.a r0.len r0.cap) w') w = denF (cx_postroadref08_Ins.with CV) Try.f70 sh_postroadref08_Outs.plan [.v (.agg #[(.int .i64 t0_N), (.slice t0_In.a t0_In.len t0_In.cap), (.slice t0_L.a t0_L.len t0_L.cap), (.slice t0_Lost.a t0_Lost.len t0_Lost.cap)]), .v (.int .i64 v0)] w R := by kernel_rfl
theorem sh_postroadref08_Outs.calls (CV : CVT) (t0_N : Int) (t0_In : SV) (t0_L : SV) (t0_Lost : SV) (v0 : Int) (hcv : CVOk Try.prog CV) {w : World} {R : Ending → World → Prop} (h : sh_postroadref08_Outs t0_N t0_In t0_L t0_Lost v0 (fun r0 w' => R (.returned (.slice r0.a r0.len r0.cap)) w') w) : Calls Try.prog 70 #[(.agg #[(.int .i64 t0_N), (.slice t0_In.a t0_In.len t0_In.cap), (.slice t0_L.a t0_L.len t0_L.cap), (.slice t0_Lost.a t0_Lost.len t0_Lost.cap)]), (.int .i64 v0)] w R :=
  calls_is (cx := cx_postroadref08_Ins.with CV) mixed_Try (cx_postroadref08_Ins.ok.with CV) hcv Try.func70 sh_postroadref08_Outs.plan (xs := [.v (.agg #[(.int .i64 t0_N), (.slice t0_In.a t0_In.len t0_In.cap), (.slice t0_L.a t0_L.len t0_L.cap), (.slice t0_Lost.a t0_Lost.len t0_Lost.cap)]), .v (.int .i64 v0)]) ((args_cons _ (args_cons _ args_nil))) (by kernel_rfl) (sh_postroadref08_Outs.is CV t0_N t0_In t0_L t0_Lost v0 w (fun v w' => R (.returned v) w')) h
def sh_postroadref08_Outs.o : CVT → List X → (Value → World → Prop) → World → Prop
  | CV, [.v (.agg ⟨[.int .i64 t0_N, .slice t0_In_a t0_In_l t0_In_c, .slice t0_L_a t0_L_l t0_L_c, .slice t0_Lost_a t0_Lost_l t0_Lost_c]⟩), .v (.int .i64 v0)], K, w => sh_postroadref08_Outs t0_N ⟨t0_In_a, t0_In_l, t0_In_c⟩ ⟨t0_L_a, t0_L_l, t0_L_c⟩ ⟨t0_Lost_a, t0_Lost_l, t0_Lost_c⟩ v0 (fun r0 w' => K (.slice r0.a r0.len r0.cap) w') w
  | _, _, _, _ => False
def sh_postroadref08_Outs.q : CVT → List X → World → (Value → Prop) → Prop
  | CV, [.v (.agg ⟨[.int .i64 t0_N, .slice t0_In_a t0_In_l t0_In_c, .slice t0_L_a t0_L_l t0_L_c, .slice t0_Lost_a t0_Lost_l t0_Lost_c]⟩), .v (.int .i64 v0)], w, K => Quiet (SV) (fun r => (.slice r.a r.len r.cap)) (fun K1 w' => sh_postroadref08_Outs t0_N ⟨t0_In_a, t0_In_l, t0_In_c⟩ ⟨t0_L_a, t0_L_l, t0_L_c⟩ ⟨t0_Lost_a, t0_Lost_l, t0_Lost_c⟩ v0 (fun r0 w'' => K1 r0 w'') w') w (fun r => K (.slice r.a r.len r.cap))
  | _, _, _, _ => False
noncomputable def cx_postroadref08_Outs : Cx := Cx.add Try.prog cx_postroadref08_Ins 70 sh_postroadref08_Outs.o sh_postroadref08_Outs.q
theorem cx_postroadref08_Outs.ok : CxOk cx_postroadref08_Outs := by
  refine CxOk.add cx_postroadref08_Ins.ok rfl (fun CV hcv xs K w hx h => ?_) (fun CV hcv xs K w hx h => ?_)
  · unfold sh_postroadref08_Outs.o at h; split at h
    · rename_i t0_N t0_In_a t0_In_l t0_In_c t0_L_a t0_L_l t0_L_c t0_Lost_a t0_Lost_l t0_Lost_c v0; exact sh_postroadref08_Outs.calls CV t0_N ⟨t0_In_a, t0_In_l, t0_In_c⟩ ⟨t0_L_a, t0_L_l, t0_L_c⟩ ⟨t0_Lost_a, t0_Lost_l, t0_Lost_c⟩ v0 hcv h
    · exact h.elim
  · unfold sh_postroadref08_Outs.q at h; split at h
    · rename_i t0_N t0_In_a t0_In_l t0_In_c t0_L_a t0_L_l t0_L_c t0_Lost_a t0_Lost_l t0_Lost_c v0; obtain ⟨r, h1, h2⟩ := h; exact ⟨_, h2, fun w' e => sh_postroadref08_Outs.calls CV t0_N ⟨t0_In_a, t0_In_l, t0_In_c⟩ ⟨t0_L_a, t0_L_l, t0_L_c⟩ ⟨t0_Lost_a, t0_Lost_l, t0_Lost_c⟩ v0 hcv (h1 w' e)⟩
    · exact h.elim
def sh_postroadref08_Cost.plan : Plan := (.seq .o (.seq (.seq .o (.cond (.seq .o .o) .o)) (.seq .o (.seq .o (.seq .o (.join [.slot 7 (.int .i64)] [] (.seq .o (.block (.loop [.slot 7 (.int .i64), .slot 8 (.int .i64)] [] (.seq (.seq .o (.cond .o .o)) (.join [.slot 7 (.int .i64)] [] (.block (.seq .o (.block (.loop [.slot 7 (.int .i64), .slot 9 (.int .i64)] [] (.seq (.seq .o (.cond .o .o)) (.join [.slot 7 (.int .i64)] [] (.block (.seq (.draw [] [.pure, .pure, .pure, .quiet, .pure, .pure, .pure, .quiet, .pure] [0, 1, 2, 3, 4, 5, 6, 7, 8]) (.cond .o .o))) .o)))))) .o))))) (.seq .o .o)))))))
theorem sh_postroadref08_Cost.is (CV : CVT) (t0_N : Int) (t0_In : SV) (t0_L : SV) (t0_Lost : SV) (v0 : Int) (w : World) (R : Value → World → Prop) : sh_postroadref08_Cost t0_N t0_In t0_L t0_Lost v0 (fun r0 w' => R (.int .i64 r0) w') w = denF (cx_postroadref08_Outs.with CV) Try.f89 sh_postroadref08_Cost.plan [.v (.agg #[(.int .i64 t0_N), (.slice t0_In.a t0_In.len t0_In.cap), (.slice t0_L.a t0_L.len t0_L.cap), (.slice t0_Lost.a t0_Lost.len t0_Lost.cap)]), .v (.int .i64 v0)] w R := by kernel_rfl
theorem sh_postroadref08_Cost.calls (CV : CVT) (t0_N : Int) (t0_In : SV) (t0_L : SV) (t0_Lost : SV) (v0 : Int) (hcv : CVOk Try.prog CV) {w : World} {R : Ending → World → Prop} (h : sh_postroadref08_Cost t0_N t0_In t0_L t0_Lost v0 (fun r0 w' => R (.returned (.int .i64 r0)) w') w) : Calls Try.prog 89 #[(.agg #[(.int .i64 t0_N), (.slice t0_In.a t0_In.len t0_In.cap), (.slice t0_L.a t0_L.len t0_L.cap), (.slice t0_Lost.a t0_Lost.len t0_Lost.cap)]), (.int .i64 v0)] w R :=
  calls_is (cx := cx_postroadref08_Outs.with CV) mixed_Try (cx_postroadref08_Outs.ok.with CV) hcv Try.func89 sh_postroadref08_Cost.plan (xs := [.v (.agg #[(.int .i64 t0_N), (.slice t0_In.a t0_In.len t0_In.cap), (.slice t0_L.a t0_L.len t0_L.cap), (.slice t0_Lost.a t0_Lost.len t0_Lost.cap)]), .v (.int .i64 v0)]) ((args_cons _ (args_cons _ args_nil))) (by kernel_rfl) (sh_postroadref08_Cost.is CV t0_N t0_In t0_L t0_Lost v0 w (fun v w' => R (.returned v) w')) h
def sh_postroadref08_Cost.o : CVT → List X → (Value → World → Prop) → World → Prop
  | CV, [.v (.agg ⟨[.int .i64 t0_N, .slice t0_In_a t0_In_l t0_In_c, .slice t0_L_a t0_L_l t0_L_c, .slice t0_Lost_a t0_Lost_l t0_Lost_c]⟩), .v (.int .i64 v0)], K, w => sh_postroadref08_Cost t0_N ⟨t0_In_a, t0_In_l, t0_In_c⟩ ⟨t0_L_a, t0_L_l, t0_L_c⟩ ⟨t0_Lost_a, t0_Lost_l, t0_Lost_c⟩ v0 (fun r0 w' => K (.int .i64 r0) w') w
  | _, _, _, _ => False
def sh_postroadref08_Cost.q : CVT → List X → World → (Value → Prop) → Prop
  | CV, [.v (.agg ⟨[.int .i64 t0_N, .slice t0_In_a t0_In_l t0_In_c, .slice t0_L_a t0_L_l t0_L_c, .slice t0_Lost_a t0_Lost_l t0_Lost_c]⟩), .v (.int .i64 v0)], w, K => Quiet (Int) (fun r => (.int .i64 r)) (fun K1 w' => sh_postroadref08_Cost t0_N ⟨t0_In_a, t0_In_l, t0_In_c⟩ ⟨t0_L_a, t0_L_l, t0_L_c⟩ ⟨t0_Lost_a, t0_Lost_l, t0_Lost_c⟩ v0 (fun r0 w'' => K1 r0 w'') w') w (fun r => K (.int .i64 r))
  | _, _, _, _ => False
noncomputable def cx_postroadref08_Cost : Cx := Cx.add Try.prog cx_postroadref08_Outs 89 sh_postroadref08_Cost.o sh_postroadref08_Cost.q
theorem cx_postroadref08_Cost.ok : CxOk cx_postroadref08_Cost := by
  refine CxOk.add cx_postroadref08_Outs.ok rfl (fun CV hcv xs K w hx h => ?_) (fun CV hcv xs K w hx h => ?_)
  · unfold sh_postroadref08_Cost.o at h; split at h
    · rename_i t0_N t0_In_a t0_In_l t0_In_c t0_L_a t0_L_l t0_L_c t0_Lost_a t0_Lost_l t0_Lost_c v0; exact sh_postroadref08_Cost.calls CV t0_N ⟨t0_In_a, t0_In_l, t0_In_c⟩ ⟨t0_L_a, t0_L_l, t0_L_c⟩ ⟨t0_Lost_a, t0_Lost_l, t0_Lost_c⟩ v0 hcv h
    · exact h.elim
  · unfold sh_postroadref08_Cost.q at h; split at h
    · rename_i t0_N t0_In_a t0_In_l t0_In_c t0_L_a t0_L_l t0_L_c t0_Lost_a t0_Lost_l t0_Lost_c v0; obtain ⟨r, h1, h2⟩ := h; exact ⟨_, h2, fun w' e => sh_postroadref08_Cost.calls CV t0_N ⟨t0_In_a, t0_In_l, t0_In_c⟩ ⟨t0_L_a, t0_L_l, t0_L_c⟩ ⟨t0_Lost_a, t0_Lost_l, t0_Lost_c⟩ v0 hcv (h1 w' e)⟩
    · exact h.elim
def sh_postroadref09_Next.plan : Plan := (.seq .o (.seq .o (.seq .o (.seq (.seq .o (.block (.loop [.slot 4 (.int .i64), .slot 5 (.int .i64)] [] (.seq (.seq .o (.cond .o .o)) (.join [.slot 4 (.int .i64)] [] (.block (.seq (.draw [] [.pure, .pure, .pure, .loc, .pure, .pure, .pure, .quiet, .quiet, .loc, .pure, .quiet, .pure, .pure] [0, 1, 2, 3, 4, 5, 6, 7, 8, 9, 10, 11, 12, 13]) (.cond .o .o))) .o))))) (.seq .o .o)))))
theorem sh_postroadref09_Next.is (CV : CVT) (t0_N : Int) (t0_In : SV) (t0_L : SV) (t0_Lost : SV) (w : World) (R : Value → World → Prop) : sh_postroadref09_Next t0_N t0_In t0_L t0_Lost (fun r0 w' => R (.int .i64 r0) w') w = denF (cx_postroadref08_Cost.with CV) Try.f67 sh_postroadref09_Next.plan [.v (.agg #[(.int .i64 t0_N), (.slice t0_In.a t0_In.len t0_In.cap), (.slice t0_L.a t0_L.len t0_L.cap), (.slice t0_Lost.a t0_Lost.len t0_Lost.cap)])] w R := by kernel_rfl
theorem sh_postroadref09_Next.calls (CV : CVT) (t0_N : Int) (t0_In : SV) (t0_L : SV) (t0_Lost : SV) (hcv : CVOk Try.prog CV) {w : World} {R : Ending → World → Prop} (h : sh_postroadref09_Next t0_N t0_In t0_L t0_Lost (fun r0 w' => R (.returned (.int .i64 r0)) w') w) : Calls Try.prog 67 #[(.agg #[(.int .i64 t0_N), (.slice t0_In.a t0_In.len t0_In.cap), (.slice t0_L.a t0_L.len t0_L.cap), (.slice t0_Lost.a t0_Lost.len t0_Lost.cap)])] w R :=
  calls_is (cx := cx_postroadref08_Cost.with CV) mixed_Try (cx_postroadref08_Cost.ok.with CV) hcv Try.func67 sh_postroadref09_Next.plan (xs := [.v (.agg #[(.int .i64 t0_N), (.slice t0_In.a t0_In.len t0_In.cap), (.slice t0_L.a t0_L.len t0_L.cap), (.slice t0_Lost.a t0_Lost.len t0_Lost.cap)])]) ((args_cons _ args_nil)) (by kernel_rfl) (sh_postroadref09_Next.is CV t0_N t0_In t0_L t0_Lost w (fun v w' => R (.returned v) w')) h
def sh_postroadref09_Next.o : CVT → List X → (Value → World → Prop) → World → Prop
  | CV, [.v (.agg ⟨[.int .i64 t0_N, .slice t0_In_a t0_In_l t0_In_c, .slice t0_L_a t0_L_l t0_L_c, .slice t0_Lost_a t0_Lost_l t0_Lost_c]⟩)], K, w => sh_postroadref09_Next t0_N ⟨t0_In_a, t0_In_l, t0_In_c⟩ ⟨t0_L_a, t0_L_l, t0_L_c⟩ ⟨t0_Lost_a, t0_Lost_l, t0_Lost_c⟩ (fun r0 w' => K (.int .i64 r0) w') w
  | _, _, _, _ => False
def sh_postroadref09_Next.q : CVT → List X → World → (Value → Prop) → Prop
  | CV, [.v (.agg ⟨[.int .i64 t0_N, .slice t0_In_a t0_In_l t0_In_c, .slice t0_L_a t0_L_l t0_L_c, .slice t0_Lost_a t0_Lost_l t0_Lost_c]⟩)], w, K => Quiet (Int) (fun r => (.int .i64 r)) (fun K1 w' => sh_postroadref09_Next t0_N ⟨t0_In_a, t0_In_l, t0_In_c⟩ ⟨t0_L_a, t0_L_l, t0_L_c⟩ ⟨t0_Lost_a, t0_Lost_l, t0_Lost_c⟩ (fun r0 w'' => K1 r0 w'') w') w (fun r => K (.int .i64 r))
  | _, _, _, _ => False
noncomputable def cx_postroadref09_Next : Cx := Cx.add Try.prog cx_postroadref08_Cost 67 sh_postroadref09_Next.o sh_postroadref09_Next.q
theorem cx_postroadref09_Next.ok : CxOk cx_postroadref09_Next := by
  refine CxOk.add cx_postroadref08_Cost.ok rfl (fun CV hcv xs K w hx h => ?_) (fun CV hcv xs K w hx h => ?_)
  · unfold sh_postroadref09_Next.o at h; split at h
    · rename_i t0_N t0_In_a t0_In_l t0_In_c t0_L_a t0_L_l t0_L_c t0_Lost_a t0_Lost_l t0_Lost_c; exact sh_postroadref09_Next.calls CV t0_N ⟨t0_In_a, t0_In_l, t0_In_c⟩ ⟨t0_L_a, t0_L_l, t0_L_c⟩ ⟨t0_Lost_a, t0_Lost_l, t0_Lost_c⟩ hcv h
    · exact h.elim
  · unfold sh_postroadref09_Next.q at h; split at h
    · rename_i t0_N t0_In_a t0_In_l t0_In_c t0_L_a t0_L_l t0_L_c t0_Lost_a t0_Lost_l t0_Lost_c; obtain ⟨r, h1, h2⟩ := h; exact ⟨_, h2, fun w' e => sh_postroadref09_Next.calls CV t0_N ⟨t0_In_a, t0_In_l, t0_In_c⟩ ⟨t0_L_a, t0_L_l, t0_L_c⟩ ⟨t0_Lost_a, t0_Lost_l, t0_Lost_c⟩ hcv (h1 w' e)⟩
    · exact h.elim
def sh_postroadref08_Near.plan : Plan := (.seq .o (.seq (.seq .o (.cond (.seq .o .o) .o)) (.seq .o (.join [] [] (.seq .o (.block (.loop [.slot 12 (.int .i64)] [] (.seq (.seq .o (.cond .o .o)) (.seq (.block .o) .o))))) (.seq .o (.join [] [] (.seq .o (.block (.loop [.slot 13 .bool] [] (.seq (.seq .o (.cond .o .o)) (.block (.seq .o (.seq .o (.block (.loop [.slot 13 .bool, .slot 14 (.int .i64)] [] (.seq (.seq .o (.cond .o .o)) (.join [.slot 13 .bool] [] (.block (.seq .o (.seq (.draw [] [.pure, .loc, .pure, .pure, .pure, .pure, .loc, .pure, .pure, .pure, .pure, .pure, .pure, .loc, .pure, .quiet, .pure, .pure, .pure, .pure, .pure, .loc, .pure, .quiet, .pure, .pure, .pure, .pure, .loc, .pure, .quiet, .pure, .pure, .loc, .pure, .pure, .pure, .loc, .pure, .quiet, .pure, .pure, .pure] [0, 1, 2, 3, 4, 5, 6, 7, 8, 9, 10, 11, 12, 13, 14, 15, 16, 17, 18, 19, 20, 21, 22, 23, 24, 25, 26, 27, 28, 29, 30, 31, 32, 33, 34, 35, 36, 37, 38, 39, 40, 41, 42]) (.cond (.seq (.draw [] [.pure, .pure, .loc, .pure, .pure, .loc, .pure, .quiet, .pure, .pure, .loc, .pure, .pure, .big] [0, 1, 2, 3, 4, 5, 6, 7, 8, 9, 10, 11, 12, 13]) .o) .o)))) .o))))))))))) (.seq .o .o)))))))
theorem sh_postroadref08_Near.is (CV : CVT) (t0_N : Int) (t0_In : SV) (t0_L : SV) (t0_Lost : SV) (u0 : Int) (v0 : Int) (without0 : Int) (most0 : Int) (w : World) (R : Value → World → Prop) : sh_postroadref08_Near t0_N t0_In t0_L t0_Lost u0 v0 without0 most0 (fun r0 w' => R (.bool r0) w') w = denF (cx_postroadref09_Next.with CV) Try.f90 sh_postroadref08_Near.plan [.v (.agg #[(.int .i64 t0_N), (.slice t0_In.a t0_In.len t0_In.cap), (.slice t0_L.a t0_L.len t0_L.cap), (.slice t0_Lost.a t0_Lost.len t0_Lost.cap)]), .v (.int .i64 u0), .v (.int .i64 v0), .v (.int .i64 without0), .v (.int .i64 most0)] w R := by kernel_rfl
theorem sh_postroadref08_Near.calls (CV : CVT) (t0_N : Int) (t0_In : SV) (t0_L : SV) (t0_Lost : SV) (u0 : Int) (v0 : Int) (without0 : Int) (most0 : Int) (hcv : CVOk Try.prog CV) {w : World} {R : Ending → World → Prop} (h : sh_postroadref08_Near t0_N t0_In t0_L t0_Lost u0 v0 without0 most0 (fun r0 w' => R (.returned (.bool r0)) w') w) : Calls Try.prog 90 #[(.agg #[(.int .i64 t0_N), (.slice t0_In.a t0_In.len t0_In.cap), (.slice t0_L.a t0_L.len t0_L.cap), (.slice t0_Lost.a t0_Lost.len t0_Lost.cap)]), (.int .i64 u0), (.int .i64 v0), (.int .i64 without0), (.int .i64 most0)] w R :=
  calls_is (cx := cx_postroadref09_Next.with CV) mixed_Try (cx_postroadref09_Next.ok.with CV) hcv Try.func90 sh_postroadref08_Near.plan (xs := [.v (.agg #[(.int .i64 t0_N), (.slice t0_In.a t0_In.len t0_In.cap), (.slice t0_L.a t0_L.len t0_L.cap), (.slice t0_Lost.a t0_Lost.len t0_Lost.cap)]), .v (.int .i64 u0), .v (.int .i64 v0), .v (.int .i64 without0), .v (.int .i64 most0)]) ((args_cons _ (args_cons _ (args_cons _ (args_cons _ (args_cons _ args_nil)))))) (by kernel_rfl) (sh_postroadref08_Near.is CV t0_N t0_In t0_L t0_Lost u0 v0 without0 most0 w (fun v w' => R (.returned v) w')) h
def sh_postroadref08_Near.o : CVT → List X → (Value → World → Prop) → World → Prop
  | CV, [.v (.agg ⟨[.int .i64 t0_N, .slice t0_In_a t0_In_l t0_In_c, .slice t0_L_a t0_L_l t0_L_c, .slice t0_Lost_a t0_Lost_l t0_Lost_c]⟩), .v (.int .i64 u0), .v (.int .i64 v0), .v (.int .i64 without0), .v (.int .i64 most0)], K, w => sh_postroadref08_Near t0_N ⟨t0_In_a, t0_In_l, t0_In_c⟩ ⟨t0_L_a, t0_L_l, t0_L_c⟩ ⟨t0_Lost_a, t0_Lost_l, t0_Lost_c⟩ u0 v0 without0 most0 (fun r0 w' => K (.bool r0) w') w
  | _, _, _, _ => False
def sh_postroadref08_Near.q : CVT → List X → World → (Value → Prop) → Prop
  | CV, [.v (.agg ⟨[.int .i64 t0_N, .slice t0_In_a t0_In_l t0_In_c, .slice t0_L_a t0_L_l t0_L_c, .slice t0_Lost_a t0_Lost_l t0_Lost_c]⟩), .v (.int .i64 u0), .v (.int .i64 v0), .v (.int .i64 without0), .v (.int .i64 most0)], w, K => Quiet (Bool) (fun r => (.bool r)) (fun K1 w' => sh_postroadref08_Near t0_N ⟨t0_In_a, t0_In_l, t0_In_c⟩ ⟨t0_L_a, t0_L_l, t0_L_c⟩ ⟨t0_Lost_a, t0_Lost_l, t0_Lost_c⟩ u0 v0 without0 most0 (fun r0 w'' => K1 r0 w'') w') w (fun r => K (.bool r))
  | _, _, _, _ => False
noncomputable def cx_postroadref08_Near : Cx := Cx.add Try.prog cx_postroadref09_Next 90 sh_postroadref08_Near.o sh_postroadref08_Near.q
theorem cx_postroadref08_Near.ok : CxOk cx_postroadref08_Near := by
  refine CxOk.add cx_postroadref09_Next.ok rfl (fun CV hcv xs K w hx h => ?_) (fun CV hcv xs K w hx h => ?_)
  · unfold sh_postroadref08_Near.o at h; split at h
    · rename_i t0_N t0_In_a t0_In_l t0_In_c t0_L_a t0_L_l t0_L_c t0_Lost_a t0_Lost_l t0_Lost_c u0 v0 without0 most0; exact sh_postroadref08_Near.calls CV t0_N ⟨t0_In_a, t0_In_l, t0_In_c⟩ ⟨t0_L_a, t0_L_l, t0_L_c⟩ ⟨t0_Lost_a, t0_Lost_l, t0_Lost_c⟩ u0 v0 without0 most0 hcv h
    · exact h.elim
  · unfold sh_postroadref08_Near.q at h; split at h
    · rename_i t0_N t0_In_a t0_In_l t0_In_c t0_L_a t0_L_l t0_L_c t0_Lost_a t0_Lost_l t0_Lost_c u0 v0 without0 most0; obtain ⟨r, h1, h2⟩ := h; exact ⟨_, h2, fun w' e => sh_postroadref08_Near.calls CV t0_N ⟨t0_In_a, t0_In_l, t0_In_c⟩ ⟨t0_L_a, t0_L_l, t0_L_c⟩ ⟨t0_Lost_a, t0_Lost_l, t0_Lost_c⟩ u0 v0 without0 most0 hcv (h1 w' e)⟩
    · exact h.elim
def sh_postroadref09_Needed.plan : Plan := (.seq .o (.seq .o (.seq .o (.seq .o (.seq (.seq .o (.block (.loop [.slot 7 .slice, .slot 8 (.int .i64)] [] (.seq (.seq .o (.cond .o .o)) (.join [.slot 7 .slice] [] (.block (.seq (.draw [] [.loc, .pure, .pure, .pure, .quiet, .pure, .quiet, .pure, .pure, .pure, .new, .big, .pure] [0, 1, 2, 3, 4, 5, 6, 7, 8, 9, 10, 11, 12]) (.seq .o (.block (.loop [.slot 7 .slice, .slot 11 (.int .i64)] [] (.seq (.seq .o (.cond .o .o)) (.join [.slot 7 .slice] [] (.block (.seq (.draw [] [.loc, .pure, .pure, .pure, .pure, .quiet, .quiet, .pure, .pure, .pure, .new, .big, .pure] [0, 1, 2, 3, 4, 5, 6, 7, 8, 9, 10, 11, 12]) (.seq (.draw [] [.pure, .pure, .pure, .quiet, .pure, .pure, .pure, .quiet, .pure, .pure, .loc, .pure, .pure, .pure, .quiet, .pure, .pure, .pure, .quiet, .pure, .pure, .loc, .pure, .loc, .pure, .big, .pure, .pure] [0, 1, 2, 3, 4, 5, 6, 7, 8, 9, 10, 11, 12, 13, 14, 15, 16, 17, 18, 19, 20, 21, 22, 23, 24, 25, 26, 27]) (.cond (.draw [] [.pure, .pure, .pure, .pure, .quiet, .pure, .pure, .pure, .quiet, .pure, .loc, .pure, .loc, .pure, .pure, .pure, .pure, .new, .big, .pure] [0, 1, 2, 3, 4, 5, 6, 7, 8, 9, 10, 11, 12, 13, 14, 15, 16, 17, 18, 19]) .o)))) .o))))))) .o))))) (.seq .o .o))))))
theorem sh_postroadref09_Needed.is (CV : CVT) (t0_N : Int) (t0_In : SV) (t0_L : SV) (t0_Lost : SV) (v0 : Int) (w : World) (R : Value → World → Prop) : sh_postroadref09_Needed t0_N t0_In t0_L t0_Lost v0 (fun r0 w' => R (.slice r0.a r0.len r0.cap) w') w = denF (cx_postroadref08_Near.with CV) Try.f68 sh_postroadref09_Needed.plan [.v (.agg #[(.int .i64 t0_N), (.slice t0_In.a t0_In.len t0_In.cap), (.slice t0_L.a t0_L.len t0_L.cap), (.slice t0_Lost.a t0_Lost.len t0_Lost.cap)]), .v (.int .i64 v0)] w R := by kernel_rfl
theorem sh_postroadref09_Needed.calls (CV : CVT) (t0_N : Int) (t0_In : SV) (t0_L : SV) (t0_Lost : SV) (v0 : Int) (hcv : CVOk Try.prog CV) {w : World} {R : Ending → World → Prop} (h : sh_postroadref09_Needed t0_N t0_In t0_L t0_Lost v0 (fun r0 w' => R (.returned (.slice r0.a r0.len r0.cap)) w') w) : Calls Try.prog 68 #[(.agg #[(.int .i64 t0_N), (.slice t0_In.a t0_In.len t0_In.cap), (.slice t0_L.a t0_L.len t0_L.cap), (.slice t0_Lost.a t0_Lost.len t0_Lost.cap)]), (.int .i64 v0)] w R :=
  calls_is (cx := cx_postroadref08_Near.with CV) mixed_Try (cx_postroadref08_Near.ok.with CV) hcv Try.func68 sh_postroadref09_Needed.plan (xs := [.v (.agg #[(.int .i64 t0_N), (.slice t0_In.a t0_In.len t0_In.cap), (.slice t0_L.a t0_L.len t0_L.cap), (.slice t0_Lost.a t0_Lost.len t0_Lost.cap)]), .v (.int .i64 v0)]) ((args_cons _ (args_cons _ args_nil))) (by kernel_rfl) (sh_postroadref09_Needed.is CV t0_N t0_In t0_L t0_Lost v0 w (fun v w' => R (.returned v) w')) h
def sh_postroadref09_Needed.o : CVT → List X → (Value → World → Prop) → World → Prop
  | CV, [.v (.agg ⟨[.int .i64 t0_N, .slice t0_In_a t0_In_l t0_In_c, .slice t0_L_a t0_L_l t0_L_c, .slice t0_Lost_a t0_Lost_l t0_Lost_c]⟩), .v (.int .i64 v0)], K, w => sh_postroadref09_Needed t0_N ⟨t0_In_a, t0_In_l, t0_In_c⟩ ⟨t0_L_a, t0_L_l, t0_L_c⟩ ⟨t0_Lost_a, t0_Lost_l, t0_Lost_c⟩ v0 (fun r0 w' => K (.slice r0.a r0.len r0.cap) w') w
  | _, _, _, _ => False
def sh_postroadref09_Needed.q : CVT → List X → World → (Value → Prop) → Prop
  | CV, [.v (.agg ⟨[.int .i64 t0_N, .slice t0_In_a t0_In_l t0_In_c, .slice t0_L_a t0_L_l t0_L_c, .slice t0_Lost_a t0_Lost_l t0_Lost_c]⟩), .v (.int .i64 v0)], w, K => Quiet (SV) (fun r => (.slice r.a r.len r.cap)) (fun K1 w' => sh_postroadref09_Needed t0_N ⟨t0_In_a, t0_In_l, t0_In_c⟩ ⟨t0_L_a, t0_L_l, t0_L_c⟩ ⟨t0_Lost_a, t0_Lost_l, t0_Lost_c⟩ v0 (fun r0 w'' => K1 r0 w'') w') w (fun r => K (.slice r.a r.len r.cap))
  | _, _, _, _ => False
noncomputable def cx_postroadref09_Needed : Cx := Cx.add Try.prog cx_postroadref08_Near 68 sh_postroadref09_Needed.o sh_postroadref09_Needed.q
theorem cx_postroadref09_Needed.ok : CxOk cx_postroadref09_Needed := by
  refine CxOk.add cx_postroadref08_Near.ok rfl (fun CV hcv xs K w hx h => ?_) (fun CV hcv xs K w hx h => ?_)
  · unfold sh_postroadref09_Needed.o at h; split at h
    · rename_i t0_N t0_In_a t0_In_l t0_In_c t0_L_a t0_L_l t0_L_c t0_Lost_a t0_Lost_l t0_Lost_c v0; exact sh_postroadref09_Needed.calls CV t0_N ⟨t0_In_a, t0_In_l, t0_In_c⟩ ⟨t0_L_a, t0_L_l, t0_L_c⟩ ⟨t0_Lost_a, t0_Lost_l, t0_Lost_c⟩ v0 hcv h
    · exact h.elim
  · unfold sh_postroadref09_Needed.q at h; split at h
    · rename_i t0_N t0_In_a t0_In_l t0_In_c t0_L_a t0_L_l t0_L_c t0_Lost_a t0_Lost_l t0_Lost_c v0; obtain ⟨r, h1, h2⟩ := h; exact ⟨_, h2, fun w' e => sh_postroadref09_Needed.calls CV t0_N ⟨t0_In_a, t0_In_l, t0_In_c⟩ ⟨t0_L_a, t0_L_l, t0_L_c⟩ ⟨t0_Lost_a, t0_Lost_l, t0_Lost_c⟩ v0 hcv (h1 w' e)⟩
    · exact h.elim
def sh_postroadref08_Put.plan : Plan := (.seq .o (.seq .o (.join [.box 10 [(.int .i64), .slice, .slice, .slice]] [] (.seq .o (.cond (.seq .o .o) .o)) (.seq .o (.join [.slot 14 .slice] [] (.seq .o (.block (.loop [.slot 14 .slice, .slot 15 (.int .i64)] [] (.seq (.seq .o (.cond .o .o)) (.join [.slot 14 .slice] [] (.block (.seq .o (.cond .o .o))) .o))))) (.seq .o (.seq .o (.seq .o .o))))))))
theorem sh_postroadref08_Put.is (CV : CVT) (t0_N : Int) (t0_In : SV) (t0_L : SV) (t0_Lost : SV) (u0 : Int) (v0 : Int) (w_0 : Int) (mid0 : Int) (w : World) (R : Value → World → Prop) : sh_postroadref08_Put t0_N t0_In t0_L t0_Lost u0 v0 w_0 mid0 (fun r0 r1 r2 r3 r4 w' => R (.tuple #[(.agg #[(.int .i64 r0), (.slice r1.a r1.len r1.cap), (.slice r2.a r2.len r2.cap), (.slice r3.a r3.len r3.cap)]), (.bool r4)]) w') w = denF (cx_postroadref09_Needed.with CV) Try.f69 sh_postroadref08_Put.plan [.v (.agg #[(.int .i64 t0_N), (.slice t0_In.a t0_In.len t0_In.cap), (.slice t0_L.a t0_L.len t0_L.cap), (.slice t0_Lost.a t0_Lost.len t0_Lost.cap)]), .v (.int .i64 u0), .v (.int .i64 v0), .v (.int .i64 w_0), .v (.int .i64 mid0)] w R := by kernel_rfl
theorem sh_postroadref08_Put.calls (CV : CVT) (t0_N : Int) (t0_In : SV) (t0_L : SV) (t0_Lost : SV) (u0 : Int) (v0 : Int) (w_0 : Int) (mid0 : Int) (hcv : CVOk Try.prog CV) {w : World} {R : Ending → World → Prop} (h : sh_postroadref08_Put t0_N t0_In t0_L t0_Lost u0 v0 w_0 mid0 (fun r0 r1 r2 r3 r4 w' => R (.returned (.tuple #[(.agg #[(.int .i64 r0), (.slice r1.a r1.len r1.cap), (.slice r2.a r2.len r2.cap), (.slice r3.a r3.len r3.cap)]), (.bool r4)])) w') w) : Calls Try.prog 69 #[(.agg #[(.int .i64 t0_N), (.slice t0_In.a t0_In.len t0_In.cap), (.slice t0_L.a t0_L.len t0_L.cap), (.slice t0_Lost.a t0_Lost.len t0_Lost.cap)]), (.int .i64 u0), (.int .i64 v0), (.int .i64 w_0), (.int .i64 mid0)] w R :=
  calls_is (cx := cx_postroadref09_Needed.with CV) mixed_Try (cx_postroadref09_Needed.ok.with CV) hcv Try.func69 sh_postroadref08_Put.plan (xs := [.v (.agg #[(.int .i64 t0_N), (.slice t0_In.a t0_In.len t0_In.cap), (.slice t0_L.a t0_L.len t0_L.cap), (.slice t0_Lost.a t0_Lost.len t0_Lost.cap)]), .v (.int .i64 u0), .v (.int .i64 v0), .v (.int .i64 w_0), .v (.int .i64 mid0)]) ((args_cons _ (args_cons _ (args_cons _ (args_cons _ (args_cons _ args_nil)))))) (by kernel_rfl) (sh_postroadref08_Put.is CV t0_N t0_In t0_L t0_Lost u0 v0 w_0 mid0 w (fun v w' => R (.returned v) w')) h
def sh_postroadref08_Put.o : CVT → List X → (Value → World → Prop) → World → Prop
  | CV, [.v (.agg ⟨[.int .i64 t0_N, .slice t0_In_a t0_In_l t0_In_c, .slice t0_L_a t0_L_l t0_L_c, .slice t0_Lost_a t0_Lost_l t0_Lost_c]⟩), .v (.int .i64 u0), .v (.int .i64 v0), .v (.int .i64 w_0), .v (.int .i64 mid0)], K, w => sh_postroadref08_Put t0_N ⟨t0_In_a, t0_In_l, t0_In_c⟩ ⟨t0_L_a, t0_L_l, t0_L_c⟩ ⟨t0_Lost_a, t0_Lost_l, t0_Lost_c⟩ u0 v0 w_0 mid0 (fun r0 r1 r2 r3 r4 w' => K (.tuple #[(.agg #[(.int .i64 r0), (.slice r1.a r1.len r1.cap), (.slice r2.a r2.len r2.cap), (.slice r3.a r3.len r3.cap)]), (.bool r4)]) w') w
  | _, _, _, _ => False
def sh_postroadref08_Put.q : CVT → List X → World → (Value → Prop) → Prop
  | CV, [.v (.agg ⟨[.int .i64 t0_N, .slice t0_In_a t0_In_l t0_In_c, .slice t0_L_a t0_L_l t0_L_c, .slice t0_Lost_a t0_Lost_l t0_Lost_c]⟩), .v (.int .i64 u0), .v (.int .i64 v0), .v (.int .i64 w_0), .v (.int .i64 mid0)], w, K => Quiet (Int × SV × SV × SV × Bool) (fun r => (.tuple #[(.agg #[(.int .i64 r.1), (.slice r.2.1.a r.2.1.len r.2.1.cap), (.slice r.2.2.1.a r.2.2.1.len r.2.2.1.cap), (.slice r.2.2.2.1.a r.2.2.2.1.len r.2.2.2.1.cap)]), (.bool r.2.2.2.2)])) (fun K1 w' => sh_postroadref08_Put t0_N ⟨t0_In_a, t0_In_l, t0_In_c⟩ ⟨t0_L_a, t0_L_l, t0_L_c⟩ ⟨t0_Lost_a, t0_Lost_l, t0_Lost_c⟩ u0 v0 w_0 mid0 (fun r0 r1 r2 r3 r4 w'' => K1 (r0, r1, r2, r3, r4) w'') w') w (fun r => K (.tuple #[(.agg #[(.int .i64 r.1), (.slice r.2.1.a r.2.1.len r.2.1.cap), (.slice r.2.2.1.a r.2.2.1.len r.2.2.1.cap), (.slice r.2.2.2.1.a r.2.2.2.1.len r.2.2.2.1.cap)]), (.bool r.2.2.2.2)]))
  | _, _, _, _ => False
noncomputable def cx_postroadref08_Put : Cx := Cx.add Try.prog cx_postroadref09_Needed 69 sh_postroadref08_Put.o sh_postroadref08_Put.q
theorem cx_postroadref08_Put.ok : CxOk cx_postroadref08_Put := by
  refine CxOk.add cx_postroadref09_Needed.ok rfl (fun CV hcv xs K w hx h => ?_) (fun CV hcv xs K w hx h => ?_)
  · unfold sh_postroadref08_Put.o at h; split at h
    · rename_i t0_N t0_In_a t0_In_l t0_In_c t0_L_a t0_L_l t0_L_c t0_Lost_a t0_Lost_l t0_Lost_c u0 v0 w_0 mid0; exact sh_postroadref08_Put.calls CV t0_N ⟨t0_In_a, t0_In_l, t0_In_c⟩ ⟨t0_L_a, t0_L_l, t0_L_c⟩ ⟨t0_Lost_a, t0_Lost_l, t0_Lost_c⟩ u0 v0 w_0 mid0 hcv h
    · exact h.elim
  · unfold sh_postroadref08_Put.q at h; split at h
    · rename_i t0_N t0_In_a t0_In_l t0_In_c t0_L_a t0_L_l t0_L_c t0_Lost_a t0_Lost_l t0_Lost_c u0 v0 w_0 mid0; obtain ⟨r, h1, h2⟩ := h; exact ⟨_, h2, fun w' e => sh_postroadref08_Put.calls CV t0_N ⟨t0_In_a, t0_In_l, t0_In_c⟩ ⟨t0_L_a, t0_L_l, t0_L_c⟩ ⟨t0_Lost_a, t0_Lost_l, t0_Lost_c⟩ u0 v0 w_0 mid0 hcv (h1 w' e)⟩
    · exact h.elim
def sh_postroadref08_Take.plan : Plan := (.seq .o (.seq (.seq .o (.cond (.seq .o .o) .o)) (.seq .o (.join [.box 6 [(.int .i64), .slice, .slice, .slice]] [] (.seq .o (.block (.loop [.slot 7 (.int .i64), .box 6 [(.int .i64), .slice, .slice, .slice]] [] (.seq (.seq .o (.cond .o .o)) (.seq (.block (.seq .o (.seq .o (.seq .o (.seq .o (.join [.slot 8 (.int .i64)] [] (.seq .o (.cond .o .o)) (.join [.slot 9 (.int .i64)] [] (.seq .o (.cond .o .o)) (.seq .o .o)))))))) .o))))) (.join [.box 6 [(.int .i64), .slice, .slice, .slice]] [] (.seq .o (.block (.loop [.slot 14 (.int .i64), .box 6 [(.int .i64), .slice, .slice, .slice]] [] (.seq (.seq .o (.cond .o .o)) (.join [.box 6 [(.int .i64), .slice, .slice, .slice]] [] (.block (.seq .o (.cond (.draw [] [.pure, .loc, .pure, .loc, .pure, .pure, .quiet, .new, .big, .pure, .big] [0, 1, 2, 3, 4, 5, 6, 7, 8, 9, 10]) .o))) .o))))) (.seq .o .o))))))
theorem sh_postroadref08_Take.is (CV : CVT) (t0_N : Int) (t0_In : SV) (t0_L : SV) (t0_Lost : SV) (v0 : Int) (w : World) (R : Value → World → Prop) : sh_postroadref08_Take t0_N t0_In t0_L t0_Lost v0 (fun r0 r1 r2 r3 r4 w' => R (.tuple #[(.agg #[(.int .i64 r0), (.slice r1.a r1.len r1.cap), (.slice r2.a r2.len r2.cap), (.slice r3.a r3.len r3.cap)]), (.bool r4)]) w') w = denF (cx_postroadref08_Put.with CV) Try.f73 sh_postroadref08_Take.plan [.v (.agg #[(.int .i64 t0_N), (.slice t0_In.a t0_In.len t0_In.cap), (.slice t0_L.a t0_L.len t0_L.cap), (.slice t0_Lost.a t0_Lost.len t0_Lost.cap)]), .v (.int .i64 v0)] w R := by kernel_rfl
theorem sh_postroadref08_Take.calls (CV : CVT) (t0_N : Int) (t0_In : SV) (t0_L : SV) (t0_Lost : SV) (v0 : Int) (hcv : CVOk Try.prog CV) {w : World} {R : Ending → World → Prop} (h : sh_postroadref08_Take t0_N t0_In t0_L t0_Lost v0 (fun r0 r1 r2 r3 r4 w' => R (.returned (.tuple #[(.agg #[(.int .i64 r0), (.slice r1.a r1.len r1.cap), (.slice r2.a r2.len r2.cap), (.slice r3.a r3.len r3.cap)]), (.bool r4)])) w') w) : Calls Try.prog 73 #[(.agg #[(.int .i64 t0_N), (.slice t0_In.a t0_In.len t0_In.cap), (.slice t0_L.a t0_L.len t0_L.cap), (.slice t0_Lost.a t0_Lost.len t0_Lost.cap)]), (.int .i64 v0)] w R :=
  calls_is (cx := cx_postroadref08_Put.with CV) mixed_Try (cx_postroadref08_Put.ok.with CV) hcv Try.func73 sh_postroadref08_Take.plan (xs := [.v (.agg #[(.int .i64 t0_N), (.slice t0_In.a t0_In.len t0_In.cap), (.slice t0_L.a t0_L.len t0_L.cap), (.slice t0_Lost.a t0_Lost.len t0_Lost.cap)]), .v (.int .i64 v0)]) ((args_cons _ (args_cons _ args_nil))) (by kernel_rfl) (sh_postroadref08_Take.is CV t0_N t0_In t0_L t0_Lost v0 w (fun v w' => R (.returned v) w')) h
def sh_postroadref08_Take.o : CVT → List X → (Value → World → Prop) → World → Prop
  | CV, [.v (.agg ⟨[.int .i64 t0_N, .slice t0_In_a t0_In_l t0_In_c, .slice t0_L_a t0_L_l t0_L_c, .slice t0_Lost_a t0_Lost_l t0_Lost_c]⟩), .v (.int .i64 v0)], K, w => sh_postroadref08_Take t0_N ⟨t0_In_a, t0_In_l, t0_In_c⟩ ⟨t0_L_a, t0_L_l, t0_L_c⟩ ⟨t0_Lost_a, t0_Lost_l, t0_Lost_c⟩ v0 (fun r0 r1 r2 r3 r4 w' => K (.tuple #[(.agg #[(.int .i64 r0), (.slice r1.a r1.len r1.cap), (.slice r2.a r2.len r2.cap), (.slice r3.a r3.len r3.cap)]), (.bool r4)]) w') w
  | _, _, _, _ => False
def sh_postroadref08_Take.q : CVT → List X → World → (Value → Prop) → Prop
  | CV, [.v (.agg ⟨[.int .i64 t0_N, .slice t0_In_a t0_In_l t0_In_c, .slice t0_L_a t0_L_l t0_L_c, .slice t0_Lost_a t0_Lost_l t0_Lost_c]⟩), .v (.int .i64 v0)], w, K => Quiet (Int × SV × SV × SV × Bool) (fun r => (.tuple #[(.agg #[(.int .i64 r.1), (.slice r.2.1.a r.2.1.len r.2.1.cap), (.slice r.2.2.1.a r.2.2.1.len r.2.2.1.cap), (.slice r.2.2.2.1.a r.2.2.2.1.len r.2.2.2.1.cap)]), (.bool r.2.2.2.2)])) (fun K1 w' => sh_postroadref08_Take t0_N ⟨t0_In_a, t0_In_l, t0_In_c⟩ ⟨t0_L_a, t0_L_l, t0_L_c⟩ ⟨t0_Lost_a, t0_Lost_l, t0_Lost_c⟩ v0 (fun r0 r1 r2 r3 r4 w'' => K1 (r0, r1, r2, r3, r4) w'') w') w (fun r => K (.tuple #[(.agg #[(.int .i64 r.1), (.slice r.2.1.a r.2.1.len r.2.1.cap), (.slice r.2.2.1.a r.2.2.1.len r.2.2.1.cap), (.slice r.2.2.2.1.a r.2.2.2.1.len r.2.2.2.1.cap)]), (.bool r.2.2.2.2)]))
  | _, _, _, _ => False
noncomputable def cx_postroadref08_Take : Cx := Cx.add Try.prog cx_postroadref08_Put 73 sh_postroadref08_Take.o sh_postroadref08_Take.q
theorem cx_postroadref08_Take.ok : CxOk cx_postroadref08_Take := by
  refine CxOk.add cx_postroadref08_Put.ok rfl (fun CV hcv xs K w hx h => ?_) (fun CV hcv xs K w hx h => ?_)
  · unfold sh_postroadref08_Take.o at h; split at h
    · rename_i t0_N t0_In_a t0_In_l t0_In_c t0_L_a t0_L_l t0_L_c t0_Lost_a t0_Lost_l t0_Lost_c v0; exact sh_postroadref08_Take.calls CV t0_N ⟨t0_In_a, t0_In_l, t0_In_c⟩ ⟨t0_L_a, t0_L_l, t0_L_c⟩ ⟨t0_Lost_a, t0_Lost_l, t0_Lost_c⟩ v0 hcv h
    · exact h.elim
  · unfold sh_postroadref08_Take.q at h; split at h
    · rename_i t0_N t0_In_a t0_In_l t0_In_c t0_L_a t0_L_l t0_L_c t0_Lost_a t0_Lost_l t0_Lost_c v0; obtain ⟨r, h1, h2⟩ := h; exact ⟨_, h2, fun w' e => sh_postroadref08_Take.calls CV t0_N ⟨t0_In_a, t0_In_l, t0_In_c⟩ ⟨t0_L_a, t0_L_l, t0_L_c⟩ ⟨t0_Lost_a, t0_Lost_l, t0_Lost_c⟩ v0 hcv (h1 w' e)⟩
    · exact h.elim
def sh_postroadref09_Build.plan : Plan := (.seq .o (.seq .o (.seq .o (.join [.box 4 [.slice, .slice]] [] (.seq .o (.block (.loop [.slot 5 (.int .i64), .box 4 [.slice, .slice]] [] (.seq (.seq .o (.cond .o .o)) (.seq (.block .o) .o))))) (.join [.box 4 [.slice, .slice]] [3] (.seq .o (.block (.loop [.slot 6 (.int .i64), .box 3 [(.int .i64), .slice, .slice, .slice], .box 4 [.slice, .slice]] [] (.seq (.seq .o (.cond .o .o)) (.join [.box 3 [(.int .i64), .slice, .slice, .slice], .box 4 [.slice, .slice]] [] (.block (.seq .o (.seq .o (.seq .o (.join [.box 3 [(.int .i64), .slice, .slice, .slice]] [] (.seq .o (.block (.loop [.slot 9 (.int .i64), .box 3 [(.int .i64), .slice, .slice, .slice]] [] (.seq (.seq .o (.cond .o .o)) (.seq (.block (.seq (.draw [] [.loc, .pure, .pure, .pure, .pure, .quiet, .pure, .pure, .pure, .pure, .quiet, .pure, .pure, .pure, .pure, .pure, .quiet, .pure, .pure, .pure, .pure, .pure, .quiet, .bigz, .pure, .pure, .pure, .alc, .big, .pure] [0, 1, 2, 3, 4, 5, 6, 7, 8, 9, 10, 11, 12, 13, 14, 15, 16, 17, 18, 19, 20, 21, 22, 23, 24, 25, 26, 27, 28, 29]) .o)) .o))))) (.seq .o (.join [.box 4 [.slice, .slice]] [] (.seq .o (.block (.loop [.slot 13 (.int .i64), .box 4 [.slice, .slice]] [] (.seq (.seq .o (.cond .o .o)) (.seq (.block (.seq (.draw [] [.loc, .pure, .pure, .pure, .pure, .quiet, .quiet, .pure, .pure, .pure, .new, .big, .pure] [0, 1, 2, 3, 4, 5, 6, 7, 8, 9, 10, 11, 12]) (.draw [] [.pure, .loc, .pure, .pure, .pure, .pure, .quiet, .loc, .pure, .new, .big, .pure, .big] [0, 1, 2, 3, 4, 5, 6, 7, 8, 9, 10, 11, 12]))) .o))))) (.seq .o (.join [.box 4 [.slice, .slice]] [] (.seq .o (.block (.loop [.slot 17 (.int .i64), .box 4 [.slice, .slice]] [] (.seq (.seq .o (.cond .o .o)) (.seq (.block (.seq (.draw [] [.loc, .pure, .pure, .pure, .quiet, .pure, .quiet, .pure, .pure, .pure, .new, .big, .pure] [0, 1, 2, 3, 4, 5, 6, 7, 8, 9, 10, 11, 12]) (.draw [] [.pure, .loc, .pure, .pure, .pure, .quiet, .pure, .loc, .pure, .new, .big, .pure, .big] [0, 1, 2, 3, 4, 5, 6, 7, 8, 9, 10, 11, 12]))) .o))))) (.seq .o .o)))))))))) .o))))) (.seq .o .o))))))
theorem sh_postroadref09_Build.is (CV : CVT) (g0_M_N : Int) (g0_M_Arcs : SV) (g0_Kept : SV) (w : World) (R : Value → World → Prop) : sh_postroadref09_Build g0_M_N g0_M_Arcs g0_Kept (fun r0 r1 w' => R (.agg #[(.slice r0.a r0.len r0.cap), (.slice r1.a r1.len r1.cap)]) w') w = denF (cx_postroadref08_Take.with CV) Try.f40 sh_postroadref09_Build.plan [.v (.agg #[(.int .i64 g0_M_N), (.slice g0_M_Arcs.a g0_M_Arcs.len g0_M_Arcs.cap), (.slice g0_Kept.a g0_Kept.len g0_Kept.cap)])] w R := by kernel_rfl
theorem sh_postroadref09_Build.calls (CV : CVT) (g0_M_N : Int) (g0_M_Arcs : SV) (g0_Kept : SV) (hcv : CVOk Try.prog CV) {w : World} {R : Ending → World → Prop} (h : sh_postroadref09_Build g0_M_N g0_M_Arcs g0_Kept (fun r0 r1 w' => R (.returned (.agg #[(.slice r0.a r0.len r0.cap), (.slice r1.a r1.len r1.cap)])) w') w) : Calls Try.prog 40 #[(.agg #[(.int .i64 g0_M_N), (.slice g0_M_Arcs.a g0_M_Arcs.len g0_M_Arcs.cap), (.slice g0_Kept.a g0_Kept.len g0_Kept.cap)])] w R :=
  calls_is (cx := cx_postroadref08_Take.with CV) mixed_Try (cx_postroadref08_Take.ok.with CV) hcv Try.func40 sh_postroadref09_Build.plan (xs := [.v (.agg #[(.int .i64 g0_M_N), (.slice g0_M_Arcs.a g0_M_Arcs.len g0_M_Arcs.cap), (.slice g0_Kept.a g0_Kept.len g0_Kept.cap)])]) ((args_cons _ args_nil)) (by kernel_rfl) (sh_postroadref09_Build.is CV g0_M_N g0_M_Arcs g0_Kept w (fun v w' => R (.returned v) w')) h
def sh_postroadref09_Build.o : CVT → List X → (Value → World → Prop) → World → Prop
  | CV, [.v (.agg ⟨[.int .i64 g0_M_N, .slice g0_M_Arcs_a g0_M_Arcs_l g0_M_Arcs_c, .slice g0_Kept_a g0_Kept_l g0_Kept_c]⟩)], K, w => sh_postroadref09_Build g0_M_N ⟨g0_M_Arcs_a, g0_M_Arcs_l, g0_M_Arcs_c⟩ ⟨g0_Kept_a, g0_Kept_l, g0_Kept_c⟩ (fun r0 r1 w' => K (.agg #[(.slice r0.a r0.len r0.cap), (.slice r1.a r1.len r1.cap)]) w') w
  | _, _, _, _ => False
def sh_postroadref09_Build.q : CVT → List X → World → (Value → Prop) → Prop
  | CV, [.v (.agg ⟨[.int .i64 g0_M_N, .slice g0_M_Arcs_a g0_M_Arcs_l g0_M_Arcs_c, .slice g0_Kept_a g0_Kept_l g0_Kept_c]⟩)], w, K => Quiet (SV × SV) (fun r => (.agg #[(.slice r.1.a r.1.len r.1.cap), (.slice r.2.a r.2.len r.2.cap)])) (fun K1 w' => sh_postroadref09_Build g0_M_N ⟨g0_M_Arcs_a, g0_M_Arcs_l, g0_M_Arcs_c⟩ ⟨g0_Kept_a, g0_Kept_l, g0_Kept_c⟩ (fun r0 r1 w'' => K1 (r0, r1) w'') w') w (fun r => K (.agg #[(.slice r.1.a r.1.len r.1.cap), (.slice r.2.a r.2.len r.2.cap)]))
  | _, _, _, _ => False
noncomputable def cx_postroadref09_Build : Cx := Cx.add Try.prog cx_postroadref08_Take 40 sh_postroadref09_Build.o sh_postroadref09_Build.q
theorem cx_postroadref09_Build.ok : CxOk cx_postroadref09_Build := by
  refine CxOk.add cx_postroadref08_Take.ok rfl (fun CV hcv xs K w hx h => ?_) (fun CV hcv xs K w hx h => ?_)
  · unfold sh_postroadref09_Build.o at h; split at h
    · rename_i g0_M_N g0_M_Arcs_a g0_M_Arcs_l g0_M_Arcs_c g0_Kept_a g0_Kept_l g0_Kept_c; exact sh_postroadref09_Build.calls CV g0_M_N ⟨g0_M_Arcs_a, g0_M_Arcs_l, g0_M_Arcs_c⟩ ⟨g0_Kept_a, g0_Kept_l, g0_Kept_c⟩ hcv h
    · exact h.elim
  · unfold sh_postroadref09_Build.q at h; split at h
    · rename_i g0_M_N g0_M_Arcs_a g0_M_Arcs_l g0_M_Arcs_c g0_Kept_a g0_Kept_l g0_Kept_c; obtain ⟨r, h1, h2⟩ := h; exact ⟨_, h2, fun w' e => sh_postroadref09_Build.calls CV g0_M_N ⟨g0_M_Arcs_a, g0_M_Arcs_l, g0_M_Arcs_c⟩ ⟨g0_Kept_a, g0_Kept_l, g0_Kept_c⟩ hcv (h1 w' e)⟩
    · exact h.elim
def sh_postroadref09_Of.plan : Plan := (.seq .o (.seq .o (.seq .o .o)))
theorem sh_postroadref09_Of.is (CV : CVT) (m0_N : Int) (m0_Arcs : SV) (w : World) (R : Value → World → Prop) : sh_postroadref09_Of m0_N m0_Arcs (fun r0 r1 w' => R (.agg #[(.slice r0.a r0.len r0.cap), (.slice r1.a r1.len r1.cap)]) w') w = denF (cx_postroadref09_Build.with CV) Try.f19 sh_postroadref09_Of.plan [.v (.agg #[(.int .i64 m0_N), (.slice m0_Arcs.a m0_Arcs.len m0_Arcs.cap)])] w R := by kernel_rfl
theorem sh_postroadref09_Of.calls (CV : CVT) (m0_N : Int) (m0_Arcs : SV) (hcv : CVOk Try.prog CV) {w : World} {R : Ending → World → Prop} (h : sh_postroadref09_Of m0_N m0_Arcs (fun r0 r1 w' => R (.returned (.agg #[(.slice r0.a r0.len r0.cap), (.slice r1.a r1.len r1.cap)])) w') w) : Calls Try.prog 19 #[(.agg #[(.int .i64 m0_N), (.slice m0_Arcs.a m0_Arcs.len m0_Arcs.cap)])] w R :=
  calls_is (cx := cx_postroadref09_Build.with CV) mixed_Try (cx_postroadref09_Build.ok.with CV) hcv Try.func19 sh_postroadref09_Of.plan (xs := [.v (.agg #[(.int .i64 m0_N), (.slice m0_Arcs.a m0_Arcs.len m0_Arcs.cap)])]) ((args_cons _ args_nil)) (by kernel_rfl) (sh_postroadref09_Of.is CV m0_N m0_Arcs w (fun v w' => R (.returned v) w')) h
def sh_postroadref09_Of.o : CVT → List X → (Value → World → Prop) → World → Prop
  | CV, [.v (.agg ⟨[.int .i64 m0_N, .slice m0_Arcs_a m0_Arcs_l m0_Arcs_c]⟩)], K, w => sh_postroadref09_Of m0_N ⟨m0_Arcs_a, m0_Arcs_l, m0_Arcs_c⟩ (fun r0 r1 w' => K (.agg #[(.slice r0.a r0.len r0.cap), (.slice r1.a r1.len r1.cap)]) w') w
  | _, _, _, _ => False
def sh_postroadref09_Of.q : CVT → List X → World → (Value → Prop) → Prop
  | CV, [.v (.agg ⟨[.int .i64 m0_N, .slice m0_Arcs_a m0_Arcs_l m0_Arcs_c]⟩)], w, K => Quiet (SV × SV) (fun r => (.agg #[(.slice r.1.a r.1.len r.1.cap), (.slice r.2.a r.2.len r.2.cap)])) (fun K1 w' => sh_postroadref09_Of m0_N ⟨m0_Arcs_a, m0_Arcs_l, m0_Arcs_c⟩ (fun r0 r1 w'' => K1 (r0, r1) w'') w') w (fun r => K (.agg #[(.slice r.1.a r.1.len r.1.cap), (.slice r.2.a r.2.len r.2.cap)]))
  | _, _, _, _ => False
noncomputable def cx_postroadref09_Of : Cx := Cx.add Try.prog cx_postroadref09_Build 19 sh_postroadref09_Of.o sh_postroadref09_Of.q
theorem cx_postroadref09_Of.ok : CxOk cx_postroadref09_Of := by
  refine CxOk.add cx_postroadref09_Build.ok rfl (fun CV hcv xs K w hx h => ?_) (fun CV hcv xs K w hx h => ?_)
  · unfold sh_postroadref09_Of.o at h; split at h
    · rename_i m0_N m0_Arcs_a m0_Arcs_l m0_Arcs_c; exact sh_postroadref09_Of.calls CV m0_N ⟨m0_Arcs_a, m0_Arcs_l, m0_Arcs_c⟩ hcv h
    · exact h.elim
  · unfold sh_postroadref09_Of.q at h; split at h
    · rename_i m0_N m0_Arcs_a m0_Arcs_l m0_Arcs_c; obtain ⟨r, h1, h2⟩ := h; exact ⟨_, h2, fun w' e => sh_postroadref09_Of.calls CV m0_N ⟨m0_Arcs_a, m0_Arcs_l, m0_Arcs_c⟩ hcv (h1 w' e)⟩
    · exact h.elim
def sh_postroadref07_Walk.plan : Plan := (.seq .o (.seq (.seq .o (.cond (.seq .o .o) .o)) (.seq .o (.join [.slot 1 (.int .i64), .slot 9 (.int .i64)] [] (.seq .o (.block (.loop [.slot 1 (.int .i64), .slot 9 (.int .i64), .slot 10 (.int .i64)] [] (.seq (.seq .o (.cond .o .o)) (.seq (.block (.seq .o (.seq (.seq .o (.cond (.seq .o .o) .o)) (.seq .o .o)))) .o))))) (.seq .o .o)))))
theorem sh_postroadref07_Walk.is (CV : CVT) (m0_N : Int) (m0_Arcs : SV) (s0 : Int) (arcs0 : SV) (w : World) (R : Value → World → Prop) : sh_postroadref07_Walk m0_N m0_Arcs s0 arcs0 (fun r0 r1 r2 w' => R (.tuple #[(.int .i64 r0), (.int .i64 r1), (.bool r2)]) w') w = denF (cx_postroadref09_Of.with CV) Try.f20 sh_postroadref07_Walk.plan [.v (.agg #[(.int .i64 m0_N), (.slice m0_Arcs.a m0_Arcs.len m0_Arcs.cap)]), .v (.int .i64 s0), .v (.slice arcs0.a arcs0.len arcs0.cap)] w R := by kernel_rfl
theorem sh_postroadref07_Walk.calls (CV : CVT) (m0_N : Int) (m0_Arcs : SV) (s0 : Int) (arcs0 : SV) (hcv : CVOk Try.prog CV) {w : World} {R : Ending → World → Prop} (h : sh_postroadref07_Walk m0_N m0_Arcs s0 arcs0 (fun r0 r1 r2 w' => R (.returned (.tuple #[(.int .i64 r0), (.int .i64 r1), (.bool r2)])) w') w) : Calls Try.prog 20 #[(.agg #[(.int .i64 m0_N), (.slice m0_Arcs.a m0_Arcs.len m0_Arcs.cap)]), (.int .i64 s0), (.slice arcs0.a arcs0.len arcs0.cap)] w R :=
  calls_is (cx := cx_postroadref09_Of.with CV) mixed_Try (cx_postroadref09_Of.ok.with CV) hcv Try.func20 sh_postroadref07_Walk.plan (xs := [.v (.agg #[(.int .i64 m0_N), (.slice m0_Arcs.a m0_Arcs.len m0_Arcs.cap)]), .v (.int .i64 s0), .v (.slice arcs0.a arcs0.len arcs0.cap)]) ((args_cons _ (args_cons _ (args_cons _ args_nil)))) (by kernel_rfl) (sh_postroadref07_Walk.is CV m0_N m0_Arcs s0 arcs0 w (fun v w' => R (.returned v) w')) h
def sh_postroadref07_Walk.o : CVT → List X → (Value → World → Prop) → World → Prop
  | CV, [.v (.agg ⟨[.int .i64 m0_N, .slice m0_Arcs_a m0_Arcs_l m0_Arcs_c]⟩), .v (.int .i64 s0), .v (.slice arcs0_a arcs0_l arcs0_c)], K, w => sh_postroadref07_Walk m0_N ⟨m0_Arcs_a, m0_Arcs_l, m0_Arcs_c⟩ s0 ⟨arcs0_a, arcs0_l, arcs0_c⟩ (fun r0 r1 r2 w' => K (.tuple #[(.int .i64 r0), (.int .i64 r1), (.bool r2)]) w') w
  | _, _, _, _ => False
def sh_postroadref07_Walk.q : CVT → List X → World → (Value → Prop) → Prop
  | CV, [.v (.agg ⟨[.int .i64 m0_N, .slice m0_Arcs_a m0_Arcs_l m0_Arcs_c]⟩), .v (.int .i64 s0), .v (.slice arcs0_a arcs0_l arcs0_c)], w, K => Quiet (Int × Int × Bool) (fun r => (.tuple #[(.int .i64 r.1), (.int .i64 r.2.1), (.bool r.2.2)])) (fun K1 w' => sh_postroadref07_Walk m0_N ⟨m0_Arcs_a, m0_Arcs_l, m0_Arcs_c⟩ s0 ⟨arcs0_a, arcs0_l, arcs0_c⟩ (fun r0 r1 r2 w'' => K1 (r0, r1, r2) w'') w') w (fun r => K (.tuple #[(.int .i64 r.1), (.int .i64 r.2.1), (.bool r.2.2)]))
  | _, _, _, _ => False
noncomputable def cx_postroadref07_Walk : Cx := Cx.add Try.prog cx_postroadref09_Of 20 sh_postroadref07_Walk.o sh_postroadref07_Walk.q
theorem cx_postroadref07_Walk.ok : CxOk cx_postroadref07_Walk := by
  refine CxOk.add cx_postroadref09_Of.ok rfl (fun CV hcv xs K w hx h => ?_) (fun CV hcv xs K w hx h => ?_)
  · unfold sh_postroadref07_Walk.o at h; split at h
    · rename_i m0_N m0_Arcs_a m0_Arcs_l m0_Arcs_c s0 arcs0_a arcs0_l arcs0_c; exact sh_postroadref07_Walk.calls CV m0_N ⟨m0_Arcs_a, m0_Arcs_l, m0_Arcs_c⟩ s0 ⟨arcs0_a, arcs0_l, arcs0_c⟩ hcv h
    · exact h.elim
  · unfold sh_postroadref07_Walk.q at h; split at h
    · rename_i m0_N m0_Arcs_a m0_Arcs_l m0_Arcs_c s0 arcs0_a arcs0_l arcs0_c; obtain ⟨r, h1, h2⟩ := h; exact ⟨_, h2, fun w' e => sh_postroadref07_Walk.calls CV m0_N ⟨m0_Arcs_a, m0_Arcs_l, m0_Arcs_c⟩ s0 ⟨arcs0_a, arcs0_l, arcs0_c⟩ hcv (h1 w' e)⟩
    · exact h.elim
def sh_postroadlaw13_UnpackWays.plan : Plan := (.seq .o (.seq .o (.seq .o (.seq .o (.join [] [] (.seq .o (.block (.loop [.slot 8 (.int .i64)] [] (.seq (.seq .o (.cond .o .o)) (.seq (.block (.seq .o (.seq .o (.seq .o (.seq .o (.seq .o (.cond (.seq .o .o) .o))))))) .o))))) (.seq .o .o))))))
theorem sh_postroadlaw13_UnpackWays.is (CV : CVT) (n0 : Int) (arcs0 : SV) (w : World) (R : Value → World → Prop) : sh_postroadlaw13_UnpackWays n0 arcs0 (fun r0 w' => R (.bool r0) w') w = denF (cx_postroadref07_Walk.with CV) Try.f4 sh_postroadlaw13_UnpackWays.plan [.v (.int .i64 n0), .v (.slice arcs0.a arcs0.len arcs0.cap)] w R := by kernel_rfl
theorem sh_postroadlaw13_UnpackWays.calls (CV : CVT) (n0 : Int) (arcs0 : SV) (hcv : CVOk Try.prog CV) {w : World} {R : Ending → World → Prop} (h : sh_postroadlaw13_UnpackWays n0 arcs0 (fun r0 w' => R (.returned (.bool r0)) w') w) : Calls Try.prog 4 #[(.int .i64 n0), (.slice arcs0.a arcs0.len arcs0.cap)] w R :=
  calls_is (cx := cx_postroadref07_Walk.with CV) mixed_Try (cx_postroadref07_Walk.ok.with CV) hcv Try.func4 sh_postroadlaw13_UnpackWays.plan (xs := [.v (.int .i64 n0), .v (.slice arcs0.a arcs0.len arcs0.cap)]) ((args_cons _ (args_cons _ args_nil))) (by kernel_rfl) (sh_postroadlaw13_UnpackWays.is CV n0 arcs0 w (fun v w' => R (.returned v) w')) h
def sh_postroadlaw13_UnpackWays.o : CVT → List X → (Value → World → Prop) → World → Prop
  | CV, [.v (.int .i64 n0), .v (.slice arcs0_a arcs0_l arcs0_c)], K, w => sh_postroadlaw13_UnpackWays n0 ⟨arcs0_a, arcs0_l, arcs0_c⟩ (fun r0 w' => K (.bool r0) w') w
  | _, _, _, _ => False
def sh_postroadlaw13_UnpackWays.q : CVT → List X → World → (Value → Prop) → Prop
  | CV, [.v (.int .i64 n0), .v (.slice arcs0_a arcs0_l arcs0_c)], w, K => Quiet (Bool) (fun r => (.bool r)) (fun K1 w' => sh_postroadlaw13_UnpackWays n0 ⟨arcs0_a, arcs0_l, arcs0_c⟩ (fun r0 w'' => K1 r0 w'') w') w (fun r => K (.bool r))
  | _, _, _, _ => False
noncomputable def cx_postroadlaw13_UnpackWays : Cx := Cx.add Try.prog cx_postroadref07_Walk 4 sh_postroadlaw13_UnpackWays.o sh_postroadlaw13_UnpackWays.q
theorem cx_postroadlaw13_UnpackWays.ok : CxOk cx_postroadlaw13_UnpackWays := by
  refine CxOk.add cx_postroadref07_Walk.ok rfl (fun CV hcv xs K w hx h => ?_) (fun CV hcv xs K w hx h => ?_)
  · unfold sh_postroadlaw13_UnpackWays.o at h; split at h
    · rename_i n0 arcs0_a arcs0_l arcs0_c; exact sh_postroadlaw13_UnpackWays.calls CV n0 ⟨arcs0_a, arcs0_l, arcs0_c⟩ hcv h
    · exact h.elim
  · unfold sh_postroadlaw13_UnpackWays.q at h; split at h
    · rename_i n0 arcs0_a arcs0_l arcs0_c; obtain ⟨r, h1, h2⟩ := h; exact ⟨_, h2, fun w' e => sh_postroadlaw13_UnpackWays.calls CV n0 ⟨arcs0_a, arcs0_l, arcs0_c⟩ hcv (h1 w' e)⟩
    · exact h.elim
def sh_postroadlaw13_UnpackHalves.plan : Plan := (.seq .o (.seq (.seq .o (.cond (.seq .o .o) .o)) (.seq .o (.join [] [] (.seq .o (.block (.loop [.slot 4 (.int .i64)] [] (.seq (.seq .o (.cond .o .o)) (.join [] [] (.block (.seq .o (.seq .o (.seq (.seq .o (.cond (.seq (.seq .o (.cond (.seq .o .o) .o)) .o) .o)) (.seq .o (.seq .o (.seq .o (.cond (.seq .o .o) .o)))))))) .o))))) (.seq .o .o)))))
theorem sh_postroadlaw13_UnpackHalves.is (CV : CVT) (h0_Rank : SV) (h0_Ways : SV) (w : World) (R : Value → World → Prop) : sh_postroadlaw13_UnpackHalves h0_Rank h0_Ways (fun r0 w' => R (.bool r0) w') w = denF (cx_postroadlaw13_UnpackWays.with CV) Try.f5 sh_postroadlaw13_UnpackHalves.plan [.v (.agg #[(.slice h0_Rank.a h0_Rank.len h0_Rank.cap), (.slice h0_Ways.a h0_Ways.len h0_Ways.cap)])] w R := by kernel_rfl
theorem sh_postroadlaw13_UnpackHalves.calls (CV : CVT) (h0_Rank : SV) (h0_Ways : SV) (hcv : CVOk Try.prog CV) {w : World} {R : Ending → World → Prop} (h : sh_postroadlaw13_UnpackHalves h0_Rank h0_Ways (fun r0 w' => R (.returned (.bool r0)) w') w) : Calls Try.prog 5 #[(.agg #[(.slice h0_Rank.a h0_Rank.len h0_Rank.cap), (.slice h0_Ways.a h0_Ways.len h0_Ways.cap)])] w R :=
  calls_is (cx := cx_postroadlaw13_UnpackWays.with CV) mixed_Try (cx_postroadlaw13_UnpackWays.ok.with CV) hcv Try.func5 sh_postroadlaw13_UnpackHalves.plan (xs := [.v (.agg #[(.slice h0_Rank.a h0_Rank.len h0_Rank.cap), (.slice h0_Ways.a h0_Ways.len h0_Ways.cap)])]) ((args_cons _ args_nil)) (by kernel_rfl) (sh_postroadlaw13_UnpackHalves.is CV h0_Rank h0_Ways w (fun v w' => R (.returned v) w')) h
def sh_postroadlaw13_UnpackHalves.o : CVT → List X → (Value → World → Prop) → World → Prop
  | CV, [.v (.agg ⟨[.slice h0_Rank_a h0_Rank_l h0_Rank_c, .slice h0_Ways_a h0_Ways_l h0_Ways_c]⟩)], K, w => sh_postroadlaw13_UnpackHalves ⟨h0_Rank_a, h0_Rank_l, h0_Rank_c⟩ ⟨h0_Ways_a, h0_Ways_l, h0_Ways_c⟩ (fun r0 w' => K (.bool r0) w') w
  | _, _, _, _ => False
def sh_postroadlaw13_UnpackHalves.q : CVT → List X → World → (Value → Prop) → Prop
  | CV, [.v (.agg ⟨[.slice h0_Rank_a h0_Rank_l h0_Rank_c, .slice h0_Ways_a h0_Ways_l h0_Ways_c]⟩)], w, K => Quiet (Bool) (fun r => (.bool r)) (fun K1 w' => sh_postroadlaw13_UnpackHalves ⟨h0_Rank_a, h0_Rank_l, h0_Rank_c⟩ ⟨h0_Ways_a, h0_Ways_l, h0_Ways_c⟩ (fun r0 w'' => K1 r0 w'') w') w (fun r => K (.bool r))
  | _, _, _, _ => False
noncomputable def cx_postroadlaw13_UnpackHalves : Cx := Cx.add Try.prog cx_postroadlaw13_UnpackWays 5 sh_postroadlaw13_UnpackHalves.o sh_postroadlaw13_UnpackHalves.q
theorem cx_postroadlaw13_UnpackHalves.ok : CxOk cx_postroadlaw13_UnpackHalves := by
  refine CxOk.add cx_postroadlaw13_UnpackWays.ok rfl (fun CV hcv xs K w hx h => ?_) (fun CV hcv xs K w hx h => ?_)
  · unfold sh_postroadlaw13_UnpackHalves.o at h; split at h
    · rename_i h0_Rank_a h0_Rank_l h0_Rank_c h0_Ways_a h0_Ways_l h0_Ways_c; exact sh_postroadlaw13_UnpackHalves.calls CV ⟨h0_Rank_a, h0_Rank_l, h0_Rank_c⟩ ⟨h0_Ways_a, h0_Ways_l, h0_Ways_c⟩ hcv h
    · exact h.elim
  · unfold sh_postroadlaw13_UnpackHalves.q at h; split at h
    · rename_i h0_Rank_a h0_Rank_l h0_Rank_c h0_Ways_a h0_Ways_l h0_Ways_c; obtain ⟨r, h1, h2⟩ := h; exact ⟨_, h2, fun w' e => sh_postroadlaw13_UnpackHalves.calls CV ⟨h0_Rank_a, h0_Rank_l, h0_Rank_c⟩ ⟨h0_Ways_a, h0_Ways_l, h0_Ways_c⟩ hcv (h1 w' e)⟩
    · exact h.elim
def sh_hier_Hier_N.plan : Plan := (.seq .o (.seq (.seq .o (.cond (.seq .o .o) .o)) (.seq .o .o)))
theorem sh_hier_Hier_N.is (CV : CVT) (h0 : Option Addr) (w : World) (R : Value → World → Prop) : sh_hier_Hier_N h0 (fun r0 w' => R (.int .i64 r0) w') w = denF (cx_postroadlaw13_UnpackHalves.with CV) Try.f50 sh_hier_Hier_N.plan [.v (.pointer h0)] w R := by kernel_rfl
theorem sh_hier_Hier_N.calls (CV : CVT) (h0 : Option Addr) (hcv : CVOk Try.prog CV) {w : World} {R : Ending → World → Prop} (h : sh_hier_Hier_N h0 (fun r0 w' => R (.returned (.int .i64 r0)) w') w) : Calls Try.prog 50 #[(.pointer h0)] w R :=
  calls_is (cx := cx_postroadlaw13_UnpackHalves.with CV) mixed_Try (cx_postroadlaw13_UnpackHalves.ok.with CV) hcv Try.func50 sh_hier_Hier_N.plan (xs := [.v (.pointer h0)]) ((args_cons _ args_nil)) (by kernel_rfl) (sh_hier_Hier_N.is CV h0 w (fun v w' => R (.returned v) w')) h
def sh_hier_Hier_N.o : CVT → List X → (Value → World → Prop) → World → Prop
  | CV, [.v (.pointer h0)], K, w => sh_hier_Hier_N h0 (fun r0 w' => K (.int .i64 r0) w') w
  | _, _, _, _ => False
def sh_hier_Hier_N.q : CVT → List X → World → (Value → Prop) → Prop
  | CV, [.v (.pointer h0)], w, K => Quiet (Int) (fun r => (.int .i64 r)) (fun K1 w' => sh_hier_Hier_N h0 (fun r0 w'' => K1 r0 w'') w') w (fun r => K (.int .i64 r))
  | _, _, _, _ => False
noncomputable def cx_hier_Hier_N : Cx := Cx.add Try.prog cx_postroadlaw13_UnpackHalves 50 sh_hier_Hier_N.o sh_hier_Hier_N.q
theorem cx_hier_Hier_N.ok : CxOk cx_hier_Hier_N := by
  refine CxOk.add cx_postroadlaw13_UnpackHalves.ok rfl (fun CV hcv xs K w hx h => ?_) (fun CV hcv xs K w hx h => ?_)
  · unfold sh_hier_Hier_N.o at h; split at h
    · rename_i h0; exact sh_hier_Hier_N.calls CV h0 hcv h
    · exact h.elim
  · unfold sh_hier_Hier_N.q at h; split at h
    · rename_i h0; obtain ⟨r, h1, h2⟩ := h; exact ⟨_, h2, fun w' e => sh_hier_Hier_N.calls CV h0 hcv (h1 w' e)⟩
    · exact h.elim
def sh_hier_Hier_Rank.plan : Plan := (.seq .o (.seq (.seq .o (.cond (.seq .o .o) .o)) (.seq .o .o)))
theorem sh_hier_Hier_Rank.is (CV : CVT) (h0 : Option Addr) (v0 : Int) (w : World) (R : Value → World → Prop) : sh_hier_Hier_Rank h0 v0 (fun r0 w' => R (.int .i64 r0) w') w = denF (cx_hier_Hier_N.with CV) Try.f25 sh_hier_Hier_Rank.plan [.v (.pointer h0), .v (.int .i64 v0)] w R := by kernel_rfl
theorem sh_hier_Hier_Rank.calls (CV : CVT) (h0 : Option Addr) (v0 : Int) (hcv : CVOk Try.prog CV) {w : World} {R : Ending → World → Prop} (h : sh_hier_Hier_Rank h0 v0 (fun r0 w' => R (.returned (.int .i64 r0)) w') w) : Calls Try.prog 25 #[(.pointer h0), (.int .i64 v0)] w R :=
  calls_is (cx := cx_hier_Hier_N.with CV) mixed_Try (cx_hier_Hier_N.ok.with CV) hcv Try.func25 sh_hier_Hier_Rank.plan (xs := [.v (.pointer h0), .v (.int .i64 v0)]) ((args_cons _ (args_cons _ args_nil))) (by kernel_rfl) (sh_hier_Hier_Rank.is CV h0 v0 w (fun v w' => R (.returned v) w')) h
def sh_hier_Hier_Rank.o : CVT → List X → (Value → World → Prop) → World → Prop
  | CV, [.v (.pointer h0), .v (.int .i64 v0)], K, w => sh_hier_Hier_Rank h0 v0 (fun r0 w' => K (.int .i64 r0) w') w
  | _, _, _, _ => False
def sh_hier_Hier_Rank.q : CVT → List X → World → (Value → Prop) → Prop
  | CV, [.v (.pointer h0), .v (.int .i64 v0)], w, K => Quiet (Int) (fun r => (.int .i64 r)) (fun K1 w' => sh_hier_Hier_Rank h0 v0 (fun r0 w'' => K1 r0 w'') w') w (fun r => K (.int .i64 r))
  | _, _, _, _ => False
noncomputable def cx_hier_Hier_Rank : Cx := Cx.add Try.prog cx_hier_Hier_N 25 sh_hier_Hier_Rank.o sh_hier_Hier_Rank.q
theorem cx_hier_Hier_Rank.ok : CxOk cx_hier_Hier_Rank := by
  refine CxOk.add cx_hier_Hier_N.ok rfl (fun CV hcv xs K w hx h => ?_) (fun CV hcv xs K w hx h => ?_)
  · unfold sh_hier_Hier_Rank.o at h; split at h
    · rename_i h0 v0; exact sh_hier_Hier_Rank.calls CV h0 v0 hcv h
    · exact h.elim
  · unfold sh_hier_Hier_Rank.q at h; split at h
    · rename_i h0 v0; obtain ⟨r, h1, h2⟩ := h; exact ⟨_, h2, fun w' e => sh_hier_Hier_Rank.calls CV h0 v0 hcv (h1 w' e)⟩
    · exact h.elim
def sh_heap_New.plan : Plan := (.seq .o (.seq (.seq .o (.cond (.seq .o .o) .o)) (.seq .o .o)))
theorem sh_heap_New.is (CV : CVT) (n0 : Int) (w : World) (R : Value → World → Prop) : sh_heap_New n0 (fun r0 w' => R (.pointer r0) w') w = denF (cx_hier_Hier_Rank.with CV) Try.f94 sh_heap_New.plan [.v (.int .i64 n0)] w R := by kernel_rfl
theorem sh_heap_New.calls (CV : CVT) (n0 : Int) (hcv : CVOk Try.prog CV) {w : World} {R : Ending → World → Prop} (h : sh_heap_New n0 (fun r0 w' => R (.returned (.pointer r0)) w') w) : Calls Try.prog 94 #[(.int .i64 n0)] w R :=
  calls_is (cx := cx_hier_Hier_Rank.with CV) mixed_Try (cx_hier_Hier_Rank.ok.with CV) hcv Try.func94 sh_heap_New.plan (xs := [.v (.int .i64 n0)]) ((args_cons _ args_nil)) (by kernel_rfl) (sh_heap_New.is CV n0 w (fun v w' => R (.returned v) w')) h
def sh_heap_New.o : CVT → List X → (Value → World → Prop) → World → Prop
  | CV, [.v (.int .i64 n0)], K, w => sh_heap_New n0 (fun r0 w' => K (.pointer r0) w') w
  | _, _, _, _ => False
def sh_heap_New.q : CVT → List X → World → (Value → Prop) → Prop
  | CV, [.v (.int .i64 n0)], w, K => Quiet ((Option Addr)) (fun r => (.pointer r)) (fun K1 w' => sh_heap_New n0 (fun r0 w'' => K1 r0 w'') w') w (fun r => K (.pointer r))
  | _, _, _, _ => False
noncomputable def cx_heap_New : Cx := Cx.add Try.prog cx_hier_Hier_Rank 94 sh_heap_New.o sh_heap_New.q
theorem cx_heap_New.ok : CxOk cx_heap_New := by
  refine CxOk.add cx_hier_Hier_Rank.ok rfl (fun CV hcv xs K w hx h => ?_) (fun CV hcv xs K w hx h => ?_)
  · unfold sh_heap_New.o at h; split at h
    · rename_i n0; exact sh_heap_New.calls CV n0 hcv h
    · exact h.elim
  · unfold sh_heap_New.q at h; split at h
    · rename_i n0; obtain ⟨r, h1, h2⟩ := h; exact ⟨_, h2, fun w' e => sh_heap_New.calls CV n0 hcv (h1 w' e)⟩
    · exact h.elim
def sh_heap_Heap_may.plan : Plan := (.seq .o (.seq .o .o))
theorem sh_heap_Heap_may.is (CV : CVT) (h0 : Option Addr) (id0 : Int) (w : World) (R : Value → World → Prop) : sh_heap_Heap_may h0 id0 (fun r0 w' => R (.bool r0) w') w = denF (cx_heap_New.with CV) Try.f101 sh_heap_Heap_may.plan [.v (.pointer h0), .v (.int .i64 id0)] w R := by kernel_rfl
theorem sh_heap_Heap_may.calls (CV : CVT) (h0 : Option Addr) (id0 : Int) (hcv : CVOk Try.prog CV) {w : World} {R : Ending → World → Prop} (h : sh_heap_Heap_may h0 id0 (fun r0 w' => R (.returned (.bool r0)) w') w) : Calls Try.prog 101 #[(.pointer h0), (.int .i64 id0)] w R :=
  calls_is (cx := cx_heap_New.with CV) mixed_Try (cx_heap_New.ok.with CV) hcv Try.func101 sh_heap_Heap_may.plan (xs := [.v (.pointer h0), .v (.int .i64 id0)]) ((args_cons _ (args_cons _ args_nil))) (by kernel_rfl) (sh_heap_Heap_may.is CV h0 id0 w (fun v w' => R (.returned v) w')) h
def sh_heap_Heap_may.o : CVT → List X → (Value → World → Prop) → World → Prop
  | CV, [.v (.pointer h0), .v (.int .i64 id0)], K, w => sh_heap_Heap_may h0 id0 (fun r0 w' => K (.bool r0) w') w
  | _, _, _, _ => False
def sh_heap_Heap_may.q : CVT → List X → World → (Value → Prop) → Prop
  | CV, [.v (.pointer h0), .v (.int .i64 id0)], w, K => Quiet (Bool) (fun r => (.bool r)) (fun K1 w' => sh_heap_Heap_may h0 id0 (fun r0 w'' => K1 r0 w'') w') w (fun r => K (.bool r))
  | _, _, _, _ => False
noncomputable def cx_heap_Heap_may : Cx := Cx.add Try.prog cx_heap_New 101 sh_heap_Heap_may.o sh_heap_Heap_may.q
theorem cx_heap_Heap_may.ok : CxOk cx_heap_Heap_may := by
  refine CxOk.add cx_heap_New.ok rfl (fun CV hcv xs K w hx h => ?_) (fun CV hcv xs K w hx h => ?_)
  · unfold sh_heap_Heap_may.o at h; split at h
    · rename_i h0 id0; exact sh_heap_Heap_may.calls CV h0 id0 hcv h
    · exact h.elim
  · unfold sh_heap_Heap_may.q at h; split at h
    · rename_i h0 id0; obtain ⟨r, h1, h2⟩ := h; exact ⟨_, h2, fun w' e => sh_heap_Heap_may.calls CV h0 id0 hcv (h1 w' e)⟩
    · exact h.elim
def sh_heap_queue_lay.plan : Plan := (.seq .o (.seq (.draw [] [.pure, .pure, .pure, .quiet, .pure, .loc, .pure, .big] [0, 1, 2, 3, 4, 5, 6, 7]) (.draw [] [.pure, .pure, .pure, .quiet, .pure, .loc, .pure, .pure, .pure, .big] [0, 1, 2, 3, 4, 5, 6, 7, 8, 9])))
theorem sh_heap_queue_lay.is (CV : CVT) (q0 : Option Addr) (i0 : Int) (e0_id : Int) (e0_key : Int) (w : World) (R : Value → World → Prop) : sh_heap_queue_lay q0 i0 e0_id e0_key (fun w' => R (.tuple #[]) w') w = denF (cx_heap_Heap_may.with CV) Try.f106 sh_heap_queue_lay.plan [.v (.pointer q0), .v (.int .i64 i0), .v (.agg #[(.int .i64 e0_id), (.int .i64 e0_key)])] w R := by kernel_rfl
theorem sh_heap_queue_lay.calls (CV : CVT) (q0 : Option Addr) (i0 : Int) (e0_id : Int) (e0_key : Int) (hcv : CVOk Try.prog CV) {w : World} {R : Ending → World → Prop} (h : sh_heap_queue_lay q0 i0 e0_id e0_key (fun w' => R (.returned (.tuple #[])) w') w) : Calls Try.prog 106 #[(.pointer q0), (.int .i64 i0), (.agg #[(.int .i64 e0_id), (.int .i64 e0_key)])] w R :=
  calls_is (cx := cx_heap_Heap_may.with CV) mixed_Try (cx_heap_Heap_may.ok.with CV) hcv Try.func106 sh_heap_queue_lay.plan (xs := [.v (.pointer q0), .v (.int .i64 i0), .v (.agg #[(.int .i64 e0_id), (.int .i64 e0_key)])]) ((args_cons _ (args_cons _ (args_cons _ args_nil)))) (by kernel_rfl) (sh_heap_queue_lay.is CV q0 i0 e0_id e0_key w (fun v w' => R (.returned v) w')) h
def sh_heap_queue_lay.o : CVT → List X → (Value → World → Prop) → World → Prop
  | CV, [.v (.pointer q0), .v (.int .i64 i0), .v (.agg ⟨[.int .i64 e0_id, .int .i64 e0_key]⟩)], K, w => sh_heap_queue_lay q0 i0 e0_id e0_key (fun w' => K (.tuple #[]) w') w
  | _, _, _, _ => False
def sh_heap_queue_lay.q : CVT → List X → World → (Value → Prop) → Prop
  | CV, [.v (.pointer q0), .v (.int .i64 i0), .v (.agg ⟨[.int .i64 e0_id, .int .i64 e0_key]⟩)], w, K => Quiet (Unit) (fun r => (.tuple #[])) (fun K1 w' => sh_heap_queue_lay q0 i0 e0_id e0_key (fun w'' => K1 () w'') w') w (fun r => K (.tuple #[]))
  | _, _, _, _ => False
noncomputable def cx_heap_queue_lay : Cx := Cx.add Try.prog cx_heap_Heap_may 106 sh_heap_queue_lay.o sh_heap_queue_lay.q
theorem cx_heap_queue_lay.ok : CxOk cx_heap_queue_lay := by
  refine CxOk.add cx_heap_Heap_may.ok rfl (fun CV hcv xs K w hx h => ?_) (fun CV hcv xs K w hx h => ?_)
  · unfold sh_heap_queue_lay.o at h; split at h
    · rename_i q0 i0 e0_id e0_key; exact sh_heap_queue_lay.calls CV q0 i0 e0_id e0_key hcv h
    · exact h.elim
  · unfold sh_heap_queue_lay.q at h; split at h
    · rename_i q0 i0 e0_id e0_key; obtain ⟨r, h1, h2⟩ := h; exact ⟨_, h2, fun w' e => sh_heap_queue_lay.calls CV q0 i0 e0_id e0_key hcv (h1 w' e)⟩
    · exact h.elim
def sh_cmp_isNaN_int.plan : Plan := (.seq .o (.seq .o .o))
theorem sh_cmp_isNaN_int.is (CV : CVT) (x0 : Int) (w : World) (R : Value → World → Prop) : sh_cmp_isNaN_int x0 (fun r0 w' => R (.bool r0) w') w = denF (cx_heap_queue_lay.with CV) Try.f113 sh_cmp_isNaN_int.plan [.v (.int .i64 x0)] w R := by kernel_rfl
theorem sh_cmp_isNaN_int.calls (CV : CVT) (x0 : Int) (hcv : CVOk Try.prog CV) {w : World} {R : Ending → World → Prop} (h : sh_cmp_isNaN_int x0 (fun r0 w' => R (.returned (.bool r0)) w') w) : Calls Try.prog 113 #[(.int .i64 x0)] w R :=
  calls_is (cx := cx_heap_queue_lay.with CV) mixed_Try (cx_heap_queue_lay.ok.with CV) hcv Try.func113 sh_cmp_isNaN_int.plan (xs := [.v (.int .i64 x0)]) ((args_cons _ args_nil)) (by kernel_rfl) (sh_cmp_isNaN_int.is CV x0 w (fun v w' => R (.returned v) w')) h
def sh_cmp_isNaN_int.o : CVT → List X → (Value → World → Prop) → World → Prop
  | CV, [.v (.int .i64 x0)], K, w => sh_cmp_isNaN_int x0 (fun r0 w' => K (.bool r0) w') w
  | _, _, _, _ => False
def sh_cmp_isNaN_int.q : CVT → List X → World → (Value → Prop) → Prop
  | CV, [.v (.int .i64 x0)], w, K => Quiet (Bool) (fun r => (.bool r)) (fun K1 w' => sh_cmp_isNaN_int x0 (fun r0 w'' => K1 r0 w'') w') w (fun r => K (.bool r))
  | _, _, _, _ => False
noncomputable def cx_cmp_isNaN_int : Cx := Cx.add Try.prog cx_heap_queue_lay 113 sh_cmp_isNaN_int.o sh_cmp_isNaN_int.q
theorem cx_cmp_isNaN_int.ok : CxOk cx_cmp_isNaN_int := by
  refine CxOk.add cx_heap_queue_lay.ok rfl (fun CV hcv xs K w hx h => ?_) (fun CV hcv xs K w hx h => ?_)
  · unfold sh_cmp_isNaN_int.o at h; split at h
    · rename_i x0; exact sh_cmp_isNaN_int.calls CV x0 hcv h
    · exact h.elim
  · unfold sh_cmp_isNaN_int.q at h; split at h
    · rename_i x0; obtain ⟨r, h1, h2⟩ := h; exact ⟨_, h2, fun w' e => sh_cmp_isNaN_int.calls CV x0 hcv (h1 w' e)⟩
    · exact h.elim
def sh_cmp_Compare_int.plan : Plan := (.seq .o (.seq .o (.seq .o (.seq (.seq .o (.cond (.seq (.seq .o (.cond (.seq .o .o) .o)) (.seq .o .o)) .o)) (.seq (.seq .o (.cond (.seq .o .o) .o)) (.seq (.seq .o (.cond (.seq .o .o) .o)) (.seq (.seq .o (.cond (.seq .o .o) .o)) (.seq .o .o))))))))
theorem sh_cmp_Compare_int.is (CV : CVT) (x0 : Int) (y0 : Int) (w : World) (R : Value → World → Prop) : sh_cmp_Compare_int x0 y0 (fun r0 w' => R (.int .i64 r0) w') w = denF (cx_cmp_isNaN_int.with CV) Try.f112 sh_cmp_Compare_int.plan [.v (.int .i64 x0), .v (.int .i64 y0)] w R := by kernel_rfl
theorem sh_cmp_Compare_int.calls (CV : CVT) (x0 : Int) (y0 : Int) (hcv : CVOk Try.prog CV) {w : World} {R : Ending → World → Prop} (h : sh_cmp_Compare_int x0 y0 (fun r0 w' => R (.returned (.int .i64 r0)) w') w) : Calls Try.prog 112 #[(.int .i64 x0), (.int .i64 y0)] w R :=
  calls_is (cx := cx_cmp_isNaN_int.with CV) mixed_Try (cx_cmp_isNaN_int.ok.with CV) hcv Try.func112 sh_cmp_Compare_int.plan (xs := [.v (.int .i64 x0), .v (.int .i64 y0)]) ((args_cons _ (args_cons _ args_nil))) (by kernel_rfl) (sh_cmp_Compare_int.is CV x0 y0 w (fun v w' => R (.returned v) w')) h
def sh_cmp_Compare_int.o : CVT → List X → (Value → World → Prop) → World → Prop
  | CV, [.v (.int .i64 x0), .v (.int .i64 y0)], K, w => sh_cmp_Compare_int x0 y0 (fun r0 w' => K (.int .i64 r0) w') w
  | _, _, _, _ => False
def sh_cmp_Compare_int.q : CVT → List X → World → (Value → Prop) → Prop
  | CV, [.v (.int .i64 x0), .v (.int .i64 y0)], w, K => Quiet (Int) (fun r => (.int .i64 r)) (fun K1 w' => sh_cmp_Compare_int x0 y0 (fun r0 w'' => K1 r0 w'') w') w (fun r => K (.int .i64 r))
  | _, _, _, _ => False
noncomputable def cx_cmp_Compare_int : Cx := Cx.add Try.prog cx_cmp_isNaN_int 112 sh_cmp_Compare_int.o sh_cmp_Compare_int.q
theorem cx_cmp_Compare_int.ok : CxOk cx_cmp_Compare_int := by
  refine CxOk.add cx_cmp_isNaN_int.ok rfl (fun CV hcv xs K w hx h => ?_) (fun CV hcv xs K w hx h => ?_)
  · unfold sh_cmp_Compare_int.o at h; split at h
    · rename_i x0 y0; exact sh_cmp_Compare_int.calls CV x0 y0 hcv h
    · exact h.elim
  · unfold sh_cmp_Compare_int.q at h; split at h
    · rename_i x0 y0; obtain ⟨r, h1, h2⟩ := h; exact ⟨_, h2, fun w' e => sh_cmp_Compare_int.calls CV x0 y0 hcv (h1 w' e)⟩
    · exact h.elim
def sh_cmp_Or_int.plan : Plan := (.seq .o (.seq .o (.seq (.seq .o (.block (.loop [.slot 8 (.int .i64)] [] (.seq .o (.seq (.cond .o .o) (.seq (.block (.seq .o (.seq .o (.cond (.seq .o .o) .o)))) .o)))))) (.seq .o .o))))
theorem sh_cmp_Or_int.is (CV : CVT) (vals0 : SV) (w : World) (R : Value → World → Prop) : sh_cmp_Or_int vals0 (fun r0 w' => R (.int .i64 r0) w') w = denF (cx_cmp_Compare_int.with CV) Try.f111 sh_cmp_Or_int.plan [.v (.slice vals0.a vals0.len vals0.cap)] w R := by kernel_rfl
theorem sh_cmp_Or_int.calls (CV : CVT) (vals0 : SV) (hcv : CVOk Try.prog CV) {w : World} {R : Ending → World → Prop} (h : sh_cmp_Or_int vals0 (fun r0 w' => R (.returned (.int .i64 r0)) w') w) : Calls Try.prog 111 #[(.slice vals0.a vals0.len vals0.cap)] w R :=
  calls_is (cx := cx_cmp_Compare_int.with CV) mixed_Try (cx_cmp_Compare_int.ok.with CV) hcv Try.func111 sh_cmp_Or_int.plan (xs := [.v (.slice vals0.a vals0.len vals0.cap)]) ((args_cons _ args_nil)) (by kernel_rfl) (sh_cmp_Or_int.is CV vals0 w (fun v w' => R (.returned v) w')) h
def sh_cmp_Or_int.o : CVT → List X → (Value → World → Prop) → World → Prop
  | CV, [.v (.slice vals0_a vals0_l vals0_c)], K, w => sh_cmp_Or_int ⟨vals0_a, vals0_l, vals0_c⟩ (fun r0 w' => K (.int .i64 r0) w') w
  | _, _, _, _ => False
def sh_cmp_Or_int.q : CVT → List X → World → (Value → Prop) → Prop
  | CV, [.v (.slice vals0_a vals0_l vals0_c)], w, K => Quiet (Int) (fun r => (.int .i64 r)) (fun K1 w' => sh_cmp_Or_int ⟨vals0_a, vals0_l, vals0_c⟩ (fun r0 w'' => K1 r0 w'') w') w (fun r => K (.int .i64 r))
  | _, _, _, _ => False
noncomputable def cx_cmp_Or_int : Cx := Cx.add Try.prog cx_cmp_Compare_int 111 sh_cmp_Or_int.o sh_cmp_Or_int.q
theorem cx_cmp_Or_int.ok : CxOk cx_cmp_Or_int := by
  refine CxOk.add cx_cmp_Compare_int.ok rfl (fun CV hcv xs K w hx h => ?_) (fun CV hcv xs K w hx h => ?_)
  · unfold sh_cmp_Or_int.o at h; split at h
    · rename_i vals0_a vals0_l vals0_c; exact sh_cmp_Or_int.calls CV ⟨vals0_a, vals0_l, vals0_c⟩ hcv h
    · exact h.elim
  · unfold sh_cmp_Or_int.q at h; split at h
    · rename_i vals0_a vals0_l vals0_c; obtain ⟨r, h1, h2⟩ := h; exact ⟨_, h2, fun w' e => sh_cmp_Or_int.calls CV ⟨vals0_a, vals0_l, vals0_c⟩ hcv (h1 w' e)⟩
    · exact h.elim
def sh_heap_entry_before.plan : Plan := (.seq .o (.seq (.draw [] [.pure, .loc, .pure, .loc, .quiet, .pure, .loc, .pure, .loc, .quiet, .new, .quiet, .pure, .pure] [0, 1, 2, 3, 4, 5, 6, 7, 8, 9, 10, 11, 12, 13]) .o))
theorem sh_heap_entry_before.is (CV : CVT) (e0_id : Int) (e0_key : Int) (f0_id : Int) (f0_key : Int) (w : World) (R : Value → World → Prop) : sh_heap_entry_before e0_id e0_key f0_id f0_key (fun r0 w' => R (.bool r0) w') w = denF (cx_cmp_Or_int.with CV) Try.f110 sh_heap_entry_before.plan [.v (.agg #[(.int .i64 e0_id), (.int .i64 e0_key)]), .v (.agg #[(.int .i64 f0_id), (.int .i64 f0_key)])] w R := by kernel_rfl
theorem sh_heap_entry_before.calls (CV : CVT) (e0_id : Int) (e0_key : Int) (f0_id : Int) (f0_key : Int) (hcv : CVOk Try.prog CV) {w : World} {R : Ending → World → Prop} (h : sh_heap_entry_before e0_id e0_key f0_id f0_key (fun r0 w' => R (.returned (.bool r0)) w') w) : Calls Try.prog 110 #[(.agg #[(.int .i64 e0_id), (.int .i64 e0_key)]), (.agg #[(.int .i64 f0_id), (.int .i64 f0_key)])] w R :=
  calls_is (cx := cx_cmp_Or_int.with CV) mixed_Try (cx_cmp_Or_int.ok.with CV) hcv Try.func110 sh_heap_entry_before.plan (xs := [.v (.agg #[(.int .i64 e0_id), (.int .i64 e0_key)]), .v (.agg #[(.int .i64 f0_id), (.int .i64 f0_key)])]) ((args_cons _ (args_cons _ args_nil))) (by kernel_rfl) (sh_heap_entry_before.is CV e0_id e0_key f0_id f0_key w (fun v w' => R (.returned v) w')) h
def sh_heap_entry_before.o : CVT → List X → (Value → World → Prop) → World → Prop
  | CV, [.v (.agg ⟨[.int .i64 e0_id, .int .i64 e0_key]⟩), .v (.agg ⟨[.int .i64 f0_id, .int .i64 f0_key]⟩)], K, w => sh_heap_entry_before e0_id e0_key f0_id f0_key (fun r0 w' => K (.bool r0) w') w
  | _, _, _, _ => False
def sh_heap_entry_before.q : CVT → List X → World → (Value → Prop) → Prop
  | CV, [.v (.agg ⟨[.int .i64 e0_id, .int .i64 e0_key]⟩), .v (.agg ⟨[.int .i64 f0_id, .int .i64 f0_key]⟩)], w, K => Quiet (Bool) (fun r => (.bool r)) (fun K1 w' => sh_heap_entry_before e0_id e0_key f0_id f0_key (fun r0 w'' => K1 r0 w'') w') w (fun r => K (.bool r))
  | _, _, _, _ => False
noncomputable def cx_heap_entry_before : Cx := Cx.add Try.prog cx_cmp_Or_int 110 sh_heap_entry_before.o sh_heap_entry_before.q
theorem cx_heap_entry_before.ok : CxOk cx_heap_entry_before := by
  refine CxOk.add cx_cmp_Or_int.ok rfl (fun CV hcv xs K w hx h => ?_) (fun CV hcv xs K w hx h => ?_)
  · unfold sh_heap_entry_before.o at h; split at h
    · rename_i e0_id e0_key f0_id f0_key; exact sh_heap_entry_before.calls CV e0_id e0_key f0_id f0_key hcv h
    · exact h.elim
  · unfold sh_heap_entry_before.q at h; split at h
    · rename_i e0_id e0_key f0_id f0_key; obtain ⟨r, h1, h2⟩ := h; exact ⟨_, h2, fun w' e => sh_heap_entry_before.calls CV e0_id e0_key f0_id f0_key hcv (h1 w' e)⟩
    · exact h.elim
def sh_heap_queue_sink.plan : Plan := (.scope (.seq .o (.seq .o (.join [.slot 1 (.int .i64)] [] (.block (.loop [.slot 1 (.int .i64)] [] (.block (.seq .o (.join [.slot 5 (.int .i64)] [] (.seq (.draw [] [.pure, .pure, .pure, .pure, .pure, .quiet, .pure, .pure, .pure, .pure, .pure, .pure, .quiet, .pure, .pure, .pure, .quiet, .pure, .pure, .pure, .quiet, .pure, .pure, .quiet, .quiet, .pure] [0, 1, 2, 3, 4, 5, 6, 7, 8, 9, 10, 11, 12, 13, 14, 15, 16, 17, 18, 19, 20, 21, 22, 23, 24, 25]) (.cond .o .o)) (.seq (.seq (.draw [] [.pure, .pure, .pure, .pure, .quiet, .pure, .pure, .pure, .loc, .pure, .pure, .pure, .quiet, .pure, .pure, .quiet, .quiet, .pure] [0, 1, 2, 3, 4, 5, 6, 7, 8, 9, 10, 11, 12, 13, 14, 15, 16, 17]) (.cond .o .o)) (.seq .o .o))))))) .o))))
theorem sh_heap_queue_sink.is (CV : CVT) (q0 : Option Addr) (i0 : Int) (w : World) (R : Value → World → Prop) : sh_heap_queue_sink q0 i0 (fun w' => R (.tuple #[]) w') w = denF (cx_heap_entry_before.with CV) Try.f107 sh_heap_queue_sink.plan [.v (.pointer q0), .v (.int .i64 i0)] w R := by kernel_rfl
theorem sh_heap_queue_sink.calls (CV : CVT) (q0 : Option Addr) (i0 : Int) (hcv : CVOk Try.prog CV) {w : World} {R : Ending → World → Prop} (h : sh_heap_queue_sink q0 i0 (fun w' => R (.returned (.tuple #[])) w') w) : Calls Try.prog 107 #[(.pointer q0), (.int .i64 i0)] w R :=
  calls_is (cx := cx_heap_entry_before.with CV) mixed_Try (cx_heap_entry_before.ok.with CV) hcv Try.func107 sh_heap_queue_sink.plan (xs := [.v (.pointer q0), .v (.int .i64 i0)]) ((args_cons _ (args_cons _ args_nil))) (by kernel_rfl) (sh_heap_queue_sink.is CV q0 i0 w (fun v w' => R (.returned v) w')) h
def sh_heap_queue_sink.o : CVT → List X → (Value → World → Prop) → World → Prop
  | CV, [.v (.pointer q0), .v (.int .i64 i0)], K, w => sh_heap_queue_sink q0 i0 (fun w' => K (.tuple #[]) w') w
  | _, _, _, _ => False
def sh_heap_queue_sink.q : CVT → List X → World → (Value → Prop) → Prop
  | CV, [.v (.pointer q0), .v (.int .i64 i0)], w, K => Quiet (Unit) (fun r => (.tuple #[])) (fun K1 w' => sh_heap_queue_sink q0 i0 (fun w'' => K1 () w'') w') w (fun r => K (.tuple #[]))
  | _, _, _, _ => False
noncomputable def cx_heap_queue_sink : Cx := Cx.add Try.prog cx_heap_entry_before 107 sh_heap_queue_sink.o sh_heap_queue_sink.q
theorem cx_heap_queue_sink.ok : CxOk cx_heap_queue_sink := by
  refine CxOk.add cx_heap_entry_before.ok rfl (fun CV hcv xs K w hx h => ?_) (fun CV hcv xs K w hx h => ?_)
  · unfold sh_heap_queue_sink.o at h; split at h
    · rename_i q0 i0; exact sh_heap_queue_sink.calls CV q0 i0 hcv h
    · exact h.elim
  · unfold sh_heap_queue_sink.q at h; split at h
    · rename_i q0 i0; obtain ⟨r, h1, h2⟩ := h; exact ⟨_, h2, fun w' e => sh_heap_queue_sink.calls CV q0 i0 hcv (h1 w' e)⟩
    · exact h.elim
def sh_heap_queue_rise.plan : Plan := (.seq .o (.join [.slot 1 (.int .i64)] [] (.block (.loop [.slot 1 (.int .i64)] [] (.seq (.seq (.draw [] [.pure, .pure, .pure, .loc, .pure, .pure, .pure, .quiet, .pure, .pure, .pure, .pure, .quiet, .quiet, .pure] [0, 1, 2, 3, 4, 5, 6, 7, 8, 9, 10, 11, 12, 13, 14]) (.cond .o .o)) (.block (.seq .o .o))))) .o))
theorem sh_heap_queue_rise.is (CV : CVT) (q0 : Option Addr) (i0 : Int) (w : World) (R : Value → World → Prop) : sh_heap_queue_rise q0 i0 (fun w' => R (.tuple #[]) w') w = denF (cx_heap_queue_sink.with CV) Try.f108 sh_heap_queue_rise.plan [.v (.pointer q0), .v (.int .i64 i0)] w R := by kernel_rfl
theorem sh_heap_queue_rise.calls (CV : CVT) (q0 : Option Addr) (i0 : Int) (hcv : CVOk Try.prog CV) {w : World} {R : Ending → World → Prop} (h : sh_heap_queue_rise q0 i0 (fun w' => R (.returned (.tuple #[])) w') w) : Calls Try.prog 108 #[(.pointer q0), (.int .i64 i0)] w R :=
  calls_is (cx := cx_heap_queue_sink.with CV) mixed_Try (cx_heap_queue_sink.ok.with CV) hcv Try.func108 sh_heap_queue_rise.plan (xs := [.v (.pointer q0), .v (.int .i64 i0)]) ((args_cons _ (args_cons _ args_nil))) (by kernel_rfl) (sh_heap_queue_rise.is CV q0 i0 w (fun v w' => R (.returned v) w')) h
def sh_heap_queue_rise.o : CVT → List X → (Value → World → Prop) → World → Prop
  | CV, [.v (.pointer q0), .v (.int .i64 i0)], K, w => sh_heap_queue_rise q0 i0 (fun w' => K (.tuple #[]) w') w
  | _, _, _, _ => False
def sh_heap_queue_rise.q : CVT → List X → World → (Value → Prop) → Prop
  | CV, [.v (.pointer q0), .v (.int .i64 i0)], w, K => Quiet (Unit) (fun r => (.tuple #[])) (fun K1 w' => sh_heap_queue_rise q0 i0 (fun w'' => K1 () w'') w') w (fun r => K (.tuple #[]))
  | _, _, _, _ => False
noncomputable def cx_heap_queue_rise : Cx := Cx.add Try.prog cx_heap_queue_sink 108 sh_heap_queue_rise.o sh_heap_queue_rise.q
theorem cx_heap_queue_rise.ok : CxOk cx_heap_queue_rise := by
  refine CxOk.add cx_heap_queue_sink.ok rfl (fun CV hcv xs K w hx h => ?_) (fun CV hcv xs K w hx h => ?_)
  · unfold sh_heap_queue_rise.o at h; split at h
    · rename_i q0 i0; exact sh_heap_queue_rise.calls CV q0 i0 hcv h
    · exact h.elim
  · unfold sh_heap_queue_rise.q at h; split at h
    · rename_i q0 i0; obtain ⟨r, h1, h2⟩ := h; exact ⟨_, h2, fun w' e => sh_heap_queue_rise.calls CV q0 i0 hcv (h1 w' e)⟩
    · exact h.elim
def sh_heap_queue_put.plan : Plan := (.seq .o (.join [.slot 6 (.int .i64)] [] (.seq .o (.cond (.seq .o .o) .o)) (.seq .o (.seq .o .o))))
theorem sh_heap_queue_put.is (CV : CVT) (q0 : Option Addr) (id0 : Int) (key0 : Int) (w : World) (R : Value → World → Prop) : sh_heap_queue_put q0 id0 key0 (fun w' => R (.tuple #[]) w') w = denF (cx_heap_queue_rise.with CV) Try.f102 sh_heap_queue_put.plan [.v (.pointer q0), .v (.int .i64 id0), .v (.int .i64 key0)] w R := by kernel_rfl
theorem sh_heap_queue_put.calls (CV : CVT) (q0 : Option Addr) (id0 : Int) (key0 : Int) (hcv : CVOk Try.prog CV) {w : World} {R : Ending → World → Prop} (h : sh_heap_queue_put q0 id0 key0 (fun w' => R (.returned (.tuple #[])) w') w) : Calls Try.prog 102 #[(.pointer q0), (.int .i64 id0), (.int .i64 key0)] w R :=
  calls_is (cx := cx_heap_queue_rise.with CV) mixed_Try (cx_heap_queue_rise.ok.with CV) hcv Try.func102 sh_heap_queue_put.plan (xs := [.v (.pointer q0), .v (.int .i64 id0), .v (.int .i64 key0)]) ((args_cons _ (args_cons _ (args_cons _ args_nil)))) (by kernel_rfl) (sh_heap_queue_put.is CV q0 id0 key0 w (fun v w' => R (.returned v) w')) h
def sh_heap_queue_put.o : CVT → List X → (Value → World → Prop) → World → Prop
  | CV, [.v (.pointer q0), .v (.int .i64 id0), .v (.int .i64 key0)], K, w => sh_heap_queue_put q0 id0 key0 (fun w' => K (.tuple #[]) w') w
  | _, _, _, _ => False
def sh_heap_queue_put.q : CVT → List X → World → (Value → Prop) → Prop
  | CV, [.v (.pointer q0), .v (.int .i64 id0), .v (.int .i64 key0)], w, K => Quiet (Unit) (fun r => (.tuple #[])) (fun K1 w' => sh_heap_queue_put q0 id0 key0 (fun w'' => K1 () w'') w') w (fun r => K (.tuple #[]))
  | _, _, _, _ => False
noncomputable def cx_heap_queue_put : Cx := Cx.add Try.prog cx_heap_queue_rise 102 sh_heap_queue_put.o sh_heap_queue_put.q
theorem cx_heap_queue_put.ok : CxOk cx_heap_queue_put := by
  refine CxOk.add cx_heap_queue_rise.ok rfl (fun CV hcv xs K w hx h => ?_) (fun CV hcv xs K w hx h => ?_)
  · unfold sh_heap_queue_put.o at h; split at h
    · rename_i q0 id0 key0; exact sh_heap_queue_put.calls CV q0 id0 key0 hcv h
    · exact h.elim
  · unfold sh_heap_queue_put.q at h; split at h
    · rename_i q0 id0 key0; obtain ⟨r, h1, h2⟩ := h; exact ⟨_, h2, fun w' e => sh_heap_queue_put.calls CV q0 id0 key0 hcv (h1 w' e)⟩
    · exact h.elim
def sh_heap_Heap_Set.plan : Plan := (.seq .o (.seq (.seq .o (.cond (.seq .o .o) .o)) (.seq .o (.seq .o .o))))
theorem sh_heap_Heap_Set.is (CV : CVT) (h0 : Option Addr) (id0 : Int) (key0 : Int) (w : World) (R : Value → World → Prop) : sh_heap_Heap_Set h0 id0 key0 (fun r0 w' => R (.bool r0) w') w = denF (cx_heap_queue_put.with CV) Try.f95 sh_heap_Heap_Set.plan [.v (.pointer h0), .v (.int .i64 id0), .v (.int .i64 key0)] w R := by kernel_rfl
theorem sh_heap_Heap_Set.calls (CV : CVT) (h0 : Option Addr) (id0 : Int) (key0 : Int) (hcv : CVOk Try.prog CV) {w : World} {R : Ending → World → Prop} (h : sh_heap_Heap_Set h0 id0 key0 (fun r0 w' => R (.returned (.bool r0)) w') w) : Calls Try.prog 95 #[(.pointer h0), (.int .i64 id0), (.int .i64 key0)] w R :=
  calls_is (cx := cx_heap_queue_put.with CV) mixed_Try (cx_heap_queue_put.ok.with CV) hcv Try.func95 sh_heap_Heap_Set.plan (xs := [.v (.pointer h0), .v (.int .i64 id0), .v (.int .i64 key0)]) ((args_cons _ (args_cons _ (args_cons _ args_nil)))) (by kernel_rfl) (sh_heap_Heap_Set.is CV h0 id0 key0 w (fun v w' => R (.returned v) w')) h
def sh_heap_Heap_Set.o : CVT → List X → (Value → World → Prop) → World → Prop
  | CV, [.v (.pointer h0), .v (.int .i64 id0), .v (.int .i64 key0)], K, w => sh_heap_Heap_Set h0 id0 key0 (fun r0 w' => K (.bool r0) w') w
  | _, _, _, _ => False
def sh_heap_Heap_Set.q : CVT → List X → World → (Value → Prop) → Prop
  | CV, [.v (.pointer h0), .v (.int .i64 id0), .v (.int .i64 key0)], w, K => Quiet (Bool) (fun r => (.bool r)) (fun K1 w' => sh_heap_Heap_Set h0 id0 key0 (fun r0 w'' => K1 r0 w'') w') w (fun r => K (.bool r))
  | _, _, _, _ => False
noncomputable def cx_heap_Heap_Set : Cx := Cx.add Try.prog cx_heap_queue_put 95 sh_heap_Heap_Set.o sh_heap_Heap_Set.q
theorem cx_heap_Heap_Set.ok : CxOk cx_heap_Heap_Set := by
  refine CxOk.add cx_heap_queue_put.ok rfl (fun CV hcv xs K w hx h => ?_) (fun CV hcv xs K w hx h => ?_)
  · unfold sh_heap_Heap_Set.o at h; split at h
    · rename_i h0 id0 key0; exact sh_heap_Heap_Set.calls CV h0 id0 key0 hcv h
    · exact h.elim
  · unfold sh_heap_Heap_Set.q at h; split at h
    · rename_i h0 id0 key0; obtain ⟨r, h1, h2⟩ := h; exact ⟨_, h2, fun w' e => sh_heap_Heap_Set.calls CV h0 id0 key0 hcv (h1 w' e)⟩
    · exact h.elim
def sh_heap_Heap_Len.plan : Plan := (.seq .o (.seq (.seq .o (.cond (.seq .o .o) .o)) (.seq .o .o)))
theorem sh_heap_Heap_Len.is (CV : CVT) (h0 : Option Addr) (w : World) (R : Value → World → Prop) : sh_heap_Heap_Len h0 (fun r0 w' => R (.int .i64 r0) w') w = denF (cx_heap_Heap_Set.with CV) Try.f109 sh_heap_Heap_Len.plan [.v (.pointer h0)] w R := by kernel_rfl
theorem sh_heap_Heap_Len.calls (CV : CVT) (h0 : Option Addr) (hcv : CVOk Try.prog CV) {w : World} {R : Ending → World → Prop} (h : sh_heap_Heap_Len h0 (fun r0 w' => R (.returned (.int .i64 r0)) w') w) : Calls Try.prog 109 #[(.pointer h0)] w R :=
  calls_is (cx := cx_heap_Heap_Set.with CV) mixed_Try (cx_heap_Heap_Set.ok.with CV) hcv Try.func109 sh_heap_Heap_Len.plan (xs := [.v (.pointer h0)]) ((args_cons _ args_nil)) (by kernel_rfl) (sh_heap_Heap_Len.is CV h0 w (fun v w' => R (.returned v) w')) h
def sh_heap_Heap_Len.o : CVT → List X → (Value → World → Prop) → World → Prop
  | CV, [.v (.pointer h0)], K, w => sh_heap_Heap_Len h0 (fun r0 w' => K (.int .i64 r0) w') w
  | _, _, _, _ => False
def sh_heap_Heap_Len.q : CVT → List X → World → (Value → Prop) → Prop
  | CV, [.v (.pointer h0)], w, K => Quiet (Int) (fun r => (.int .i64 r)) (fun K1 w' => sh_heap_Heap_Len h0 (fun r0 w'' => K1 r0 w'') w') w (fun r => K (.int .i64 r))
  | _, _, _, _ => False
noncomputable def cx_heap_Heap_Len : Cx := Cx.add Try.prog cx_heap_Heap_Set 109 sh_heap_Heap_Len.o sh_heap_Heap_Len.q
theorem cx_heap_Heap_Len.ok : CxOk cx_heap_Heap_Len := by
  refine CxOk.add cx_heap_Heap_Set.ok rfl (fun CV hcv xs K w hx h => ?_) (fun CV hcv xs K w hx h => ?_)
  · unfold sh_heap_Heap_Len.o at h; split at h
    · rename_i h0; exact sh_heap_Heap_Len.calls CV h0 hcv h
    · exact h.elim
  · unfold sh_heap_Heap_Len.q at h; split at h
    · rename_i h0; obtain ⟨r, h1, h2⟩ := h; exact ⟨_, h2, fun w' e => sh_heap_Heap_Len.calls CV h0 hcv (h1 w' e)⟩
    · exact h.elim
def sh_heap_Heap_First.plan : Plan := (.seq .o (.seq (.seq .o (.cond (.seq .o .o) .o)) (.seq (.draw [] [.pure, .pure, .pure, .pure, .quiet, .pure, .pure, .quiet, .pure, .pure, .pure, .pure, .quiet, .pure, .pure, .quiet, .pure, .pure, .pure] [0, 1, 2, 3, 4, 5, 6, 7, 8, 9, 10, 11, 12, 13, 14, 15, 16, 17, 18]) .o)))
theorem sh_heap_Heap_First.is (CV : CVT) (h0 : Option Addr) (w : World) (R : Value → World → Prop) : sh_heap_Heap_First h0 (fun r0 r1 r2 w' => R (.tuple #[(.int .i64 r0), (.int .i64 r1), (.bool r2)]) w') w = denF (cx_heap_Heap_Len.with CV) Try.f103 sh_heap_Heap_First.plan [.v (.pointer h0)] w R := by kernel_rfl
theorem sh_heap_Heap_First.calls (CV : CVT) (h0 : Option Addr) (hcv : CVOk Try.prog CV) {w : World} {R : Ending → World → Prop} (h : sh_heap_Heap_First h0 (fun r0 r1 r2 w' => R (.returned (.tuple #[(.int .i64 r0), (.int .i64 r1), (.bool r2)])) w') w) : Calls Try.prog 103 #[(.pointer h0)] w R :=
  calls_is (cx := cx_heap_Heap_Len.with CV) mixed_Try (cx_heap_Heap_Len.ok.with CV) hcv Try.func103 sh_heap_Heap_First.plan (xs := [.v (.pointer h0)]) ((args_cons _ args_nil)) (by kernel_rfl) (sh_heap_Heap_First.is CV h0 w (fun v w' => R (.returned v) w')) h
def sh_heap_Heap_First.o : CVT → List X → (Value → World → Prop) → World → Prop
  | CV, [.v (.pointer h0)], K, w => sh_heap_Heap_First h0 (fun r0 r1 r2 w' => K (.tuple #[(.int .i64 r0), (.int .i64 r1), (.bool r2)]) w') w
  | _, _, _, _ => False
def sh_heap_Heap_First.q : CVT → List X → World → (Value → Prop) → Prop
  | CV, [.v (.pointer h0)], w, K => Quiet (Int × Int × Bool) (fun r => (.tuple #[(.int .i64 r.1), (.int .i64 r.2.1), (.bool r.2.2)])) (fun K1 w' => sh_heap_Heap_First h0 (fun r0 r1 r2 w'' => K1 (r0, r1, r2) w'') w') w (fun r => K (.tuple #[(.int .i64 r.1), (.int .i64 r.2.1), (.bool r.2.2)]))
  | _, _, _, _ => False
noncomputable def cx_heap_Heap_First : Cx := Cx.add Try.prog cx_heap_Heap_Len 103 sh_heap_Heap_First.o sh_heap_Heap_First.q
theorem cx_heap_Heap_First.ok : CxOk cx_heap_Heap_First := by
  refine CxOk.add cx_heap_Heap_Len.ok rfl (fun CV hcv xs K w hx h => ?_) (fun CV hcv xs K w hx h => ?_)
  · unfold sh_heap_Heap_First.o at h; split at h
    · rename_i h0; exact sh_heap_Heap_First.calls CV h0 hcv h
    · exact h.elim
  · unfold sh_heap_Heap_First.q at h; split at h
    · rename_i h0; obtain ⟨r, h1, h2⟩ := h; exact ⟨_, h2, fun w' e => sh_heap_Heap_First.calls CV h0 hcv (h1 w' e)⟩
    · exact h.elim
def sh_heap_queue_drop.plan : Plan := (.seq (.draw [] [.pure, .pure, .pure, .quiet, .pure, .pure, .quiet, .pure, .pure, .pure, .pure, .quiet, .pure, .pure, .pure, .pure] [0, 1, 2, 3, 4, 5, 6, 7, 8, 9, 10, 11, 12, 13, 14, 15]) (.seq .o (.seq (.draw [] [.pure, .pure, .pure, .pure, .quiet, .pure, .pure, .pure, .pure, .quiet, .pure, .pure, .pure, .pure, .big, .pure, .big] [0, 1, 2, 3, 4, 5, 6, 7, 8, 9, 10, 11, 12, 13, 14, 15, 16]) (.seq (.seq .o (.cond .o .o)) (.seq .o (.seq .o (.draw [] [.pure, .pure, .pure, .pure, .quiet, .pure, .loc, .pure, .quiet, .pure, .big] [0, 1, 2, 3, 4, 5, 6, 7, 8, 9, 10])))))))
theorem sh_heap_queue_drop.is (CV : CVT) (q0 : Option Addr) (id0 : Int) (w : World) (R : Value → World → Prop) : sh_heap_queue_drop q0 id0 (fun w' => R (.tuple #[]) w') w = denF (cx_heap_Heap_First.with CV) Try.f104 sh_heap_queue_drop.plan [.v (.pointer q0), .v (.int .i64 id0)] w R := by kernel_rfl
theorem sh_heap_queue_drop.calls (CV : CVT) (q0 : Option Addr) (id0 : Int) (hcv : CVOk Try.prog CV) {w : World} {R : Ending → World → Prop} (h : sh_heap_queue_drop q0 id0 (fun w' => R (.returned (.tuple #[])) w') w) : Calls Try.prog 104 #[(.pointer q0), (.int .i64 id0)] w R :=
  calls_is (cx := cx_heap_Heap_First.with CV) mixed_Try (cx_heap_Heap_First.ok.with CV) hcv Try.func104 sh_heap_queue_drop.plan (xs := [.v (.pointer q0), .v (.int .i64 id0)]) ((args_cons _ (args_cons _ args_nil))) (by kernel_rfl) (sh_heap_queue_drop.is CV q0 id0 w (fun v w' => R (.returned v) w')) h
def sh_heap_queue_drop.o : CVT → List X → (Value → World → Prop) → World → Prop
  | CV, [.v (.pointer q0), .v (.int .i64 id0)], K, w => sh_heap_queue_drop q0 id0 (fun w' => K (.tuple #[]) w') w
  | _, _, _, _ => False
def sh_heap_queue_drop.q : CVT → List X → World → (Value → Prop) → Prop
  | CV, [.v (.pointer q0), .v (.int .i64 id0)], w, K => Quiet (Unit) (fun r => (.tuple #[])) (fun K1 w' => sh_heap_queue_drop q0 id0 (fun w'' => K1 () w'') w') w (fun r => K (.tuple #[]))
  | _, _, _, _ => False
noncomputable def cx_heap_queue_drop : Cx := Cx.add Try.prog cx_heap_Heap_First 104 sh_heap_queue_drop.o sh_heap_queue_drop.q
theorem cx_heap_queue_drop.ok : CxOk cx_heap_queue_drop := by
  refine CxOk.add cx_heap_Heap_First.ok rfl (fun CV hcv xs K w hx h => ?_) (fun CV hcv xs K w hx h => ?_)
  · unfold sh_heap_queue_drop.o at h; split at h
    · rename_i q0 id0; exact sh_heap_queue_drop.calls CV q0 id0 hcv h
    · exact h.elim
  · unfold sh_heap_queue_drop.q at h; split at h
    · rename_i q0 id0; obtain ⟨r, h1, h2⟩ := h; exact ⟨_, h2, fun w' e => sh_heap_queue_drop.calls CV q0 id0 hcv (h1 w' e)⟩
    · exact h.elim
def sh_heap_Heap_Pop.plan : Plan := (.seq .o (.seq .o (.join [] [] (.seq .o (.cond .o .o)) (.seq .o .o))))
theorem sh_heap_Heap_Pop.is (CV : CVT) (h0 : Option Addr) (w : World) (R : Value → World → Prop) : sh_heap_Heap_Pop h0 (fun r0 r1 r2 w' => R (.tuple #[(.int .i64 r0), (.int .i64 r1), (.bool r2)]) w') w = denF (cx_heap_queue_drop.with CV) Try.f96 sh_heap_Heap_Pop.plan [.v (.pointer h0)] w R := by kernel_rfl
theorem sh_heap_Heap_Pop.calls (CV : CVT) (h0 : Option Addr) (hcv : CVOk Try.prog CV) {w : World} {R : Ending → World → Prop} (h : sh_heap_Heap_Pop h0 (fun r0 r1 r2 w' => R (.returned (.tuple #[(.int .i64 r0), (.int .i64 r1), (.bool r2)])) w') w) : Calls Try.prog 96 #[(.pointer h0)] w R :=
  calls_is (cx := cx_heap_queue_drop.with CV) mixed_Try (cx_heap_queue_drop.ok.with CV) hcv Try.func96 sh_heap_Heap_Pop.plan (xs := [.v (.pointer h0)]) ((args_cons _ args_nil)) (by kernel_rfl) (sh_heap_Heap_Pop.is CV h0 w (fun v w' => R (.returned v) w')) h
def sh_heap_Heap_Pop.o : CVT → List X → (Value → World → Prop) → World → Prop
  | CV, [.v (.pointer h0)], K, w => sh_heap_Heap_Pop h0 (fun r0 r1 r2 w' => K (.tuple #[(.int .i64 r0), (.int .i64 r1), (.bool r2)]) w') w
  | _, _, _, _ => False
def sh_heap_Heap_Pop.q : CVT → List X → World → (Value → Prop) → Prop
  | CV, [.v (.pointer h0)], w, K => Quiet (Int × Int × Bool) (fun r => (.tuple #[(.int .i64 r.1), (.int .i64 r.2.1), (.bool r.2.2)])) (fun K1 w' => sh_heap_Heap_Pop h0 (fun r0 r1 r2 w'' => K1 (r0, r1, r2) w'') w') w (fun r => K (.tuple #[(.int .i64 r.1), (.int .i64 r.2.1), (.bool r.2.2)]))
  | _, _, _, _ => False
noncomputable def cx_heap_Heap_Pop : Cx := Cx.add Try.prog cx_heap_queue_drop 96 sh_heap_Heap_Pop.o sh_heap_Heap_Pop.q
theorem cx_heap_Heap_Pop.ok : CxOk cx_heap_Heap_Pop := by
  refine CxOk.add cx_heap_queue_drop.ok rfl (fun CV hcv xs K w hx h => ?_) (fun CV hcv xs K w hx h => ?_)
  · unfold sh_heap_Heap_Pop.o at h; split at h
    · rename_i h0; exact sh_heap_Heap_Pop.calls CV h0 hcv h
    · exact h.elim
  · unfold sh_heap_Heap_Pop.q at h; split at h
    · rename_i h0; obtain ⟨r, h1, h2⟩ := h; exact ⟨_, h2, fun w' e => sh_heap_Heap_Pop.calls CV h0 hcv (h1 w' e)⟩
    · exact h.elim
def sh_heap_Heap_Key.plan : Plan := (.seq .o (.seq (.seq .o (.cond (.seq .o .o) .o)) (.seq (.draw [] [.pure, .pure, .pure, .pure, .quiet, .pure, .pure, .pure, .pure, .quiet, .pure, .pure, .quiet, .pure, .pure, .pure, .quiet, .pure, .pure] [0, 1, 2, 3, 4, 5, 6, 7, 8, 9, 10, 11, 12, 13, 14, 15, 16, 17, 18]) .o)))
theorem sh_heap_Heap_Key.is (CV : CVT) (h0 : Option Addr) (id0 : Int) (w : World) (R : Value → World → Prop) : sh_heap_Heap_Key h0 id0 (fun r0 r1 w' => R (.tuple #[(.int .i64 r0), (.bool r1)]) w') w = denF (cx_heap_Heap_Pop.with CV) Try.f97 sh_heap_Heap_Key.plan [.v (.pointer h0), .v (.int .i64 id0)] w R := by kernel_rfl
theorem sh_heap_Heap_Key.calls (CV : CVT) (h0 : Option Addr) (id0 : Int) (hcv : CVOk Try.prog CV) {w : World} {R : Ending → World → Prop} (h : sh_heap_Heap_Key h0 id0 (fun r0 r1 w' => R (.returned (.tuple #[(.int .i64 r0), (.bool r1)])) w') w) : Calls Try.prog 97 #[(.pointer h0), (.int .i64 id0)] w R :=
  calls_is (cx := cx_heap_Heap_Pop.with CV) mixed_Try (cx_heap_Heap_Pop.ok.with CV) hcv Try.func97 sh_heap_Heap_Key.plan (xs := [.v (.pointer h0), .v (.int .i64 id0)]) ((args_cons _ (args_cons _ args_nil))) (by kernel_rfl) (sh_heap_Heap_Key.is CV h0 id0 w (fun v w' => R (.returned v) w')) h
def sh_heap_Heap_Key.o : CVT → List X → (Value → World → Prop) → World → Prop
  | CV, [.v (.pointer h0), .v (.int .i64 id0)], K, w => sh_heap_Heap_Key h0 id0 (fun r0 r1 w' => K (.tuple #[(.int .i64 r0), (.bool r1)]) w') w
  | _, _, _, _ => False
def sh_heap_Heap_Key.q : CVT → List X → World → (Value → Prop) → Prop
  | CV, [.v (.pointer h0), .v (.int .i64 id0)], w, K => Quiet (Int × Bool) (fun r => (.tuple #[(.int .i64 r.1), (.bool r.2)])) (fun K1 w' => sh_heap_Heap_Key h0 id0 (fun r0 r1 w'' => K1 (r0, r1) w'') w') w (fun r => K (.tuple #[(.int .i64 r.1), (.bool r.2)]))
  | _, _, _, _ => False
noncomputable def cx_heap_Heap_Key : Cx := Cx.add Try.prog cx_heap_Heap_Pop 97 sh_heap_Heap_Key.o sh_heap_Heap_Key.q
theorem cx_heap_Heap_Key.ok : CxOk cx_heap_Heap_Key := by
  refine CxOk.add cx_heap_Heap_Pop.ok rfl (fun CV hcv xs K w hx h => ?_) (fun CV hcv xs K w hx h => ?_)
  · unfold sh_heap_Heap_Key.o at h; split at h
    · rename_i h0 id0; exact sh_heap_Heap_Key.calls CV h0 id0 hcv h
    · exact h.elim
  · unfold sh_heap_Heap_Key.q at h; split at h
    · rename_i h0 id0; obtain ⟨r, h1, h2⟩ := h; exact ⟨_, h2, fun w' e => sh_heap_Heap_Key.calls CV h0 id0 hcv (h1 w' e)⟩
    · exact h.elim
def sh_space_climb.plan : Plan := (.seq .o (.scope (.seq .o (.seq (.seq .o (.cond (.seq .o .o) .o)) (.seq .o (.seq .o (.seq .o (.seq (.block (.loop [] [] (.block (.seq .o (.seq (.seq .o (.cond .o .o)) (.seq .o (.seq (.seq .o (.cond .o .o)) (.seq .o (.block (.loop [.slot 53 (.int .i64)] [] (.seq .o (.seq (.cond .o .o) (.seq (.block (.seq .o (.seq .o (.seq .o (.seq .o (.cond .o .o)))))) .o))))))))))))) (.seq .o .o)))))))))
theorem sh_space_climb.is (CV : CVT) (h0 : Option Addr) (v0 : Int) (top0 : Int) (up0 : Value) (w : World) (R : Value → World → Prop) : sh_space_climb CV h0 v0 top0 up0 (fun r0 w' => R (.map r0) w') w = denF (cx_heap_Heap_Key.with CV) Try.f75 sh_space_climb.plan [.v (.pointer h0), .v (.int .i64 v0), .v (.int .i64 top0), .v up0] w R := by kernel_rfl
theorem sh_space_climb.calls (CV : CVT) (h0 : Option Addr) (v0 : Int) (top0 : Int) (up0 : Value) (hcv : CVOk Try.prog CV) {w : World} {R : Ending → World → Prop} (h : sh_space_climb CV h0 v0 top0 up0 (fun r0 w' => R (.returned (.map r0)) w') w) : Calls Try.prog 75 #[(.pointer h0), (.int .i64 v0), (.int .i64 top0), up0] w R :=
  calls_is (cx := cx_heap_Heap_Key.with CV) mixed_Try (cx_heap_Heap_Key.ok.with CV) hcv Try.func75 sh_space_climb.plan (xs := [.v (.pointer h0), .v (.int .i64 v0), .v (.int .i64 top0), .v up0]) ((args_cons _ (args_cons _ (args_cons _ (args_cons _ args_nil))))) (by kernel_rfl) (sh_space_climb.is CV h0 v0 top0 up0 w (fun v w' => R (.returned v) w')) h
def sh_space_climb.o : CVT → List X → (Value → World → Prop) → World → Prop
  | CV, [.v (.pointer h0), .v (.int .i64 v0), .v (.int .i64 top0), .v (up0)], K, w => sh_space_climb CV h0 v0 top0 up0 (fun r0 w' => K (.map r0) w') w
  | _, _, _, _ => False
def sh_space_climb.q : CVT → List X → World → (Value → Prop) → Prop
  | CV, [.v (.pointer h0), .v (.int .i64 v0), .v (.int .i64 top0), .v (up0)], w, K => Quiet ((Option Nat)) (fun r => (.map r)) (fun K1 w' => sh_space_climb CV h0 v0 top0 up0 (fun r0 w'' => K1 r0 w'') w') w (fun r => K (.map r))
  | _, _, _, _ => False
noncomputable def cx_space_climb : Cx := Cx.add Try.prog cx_heap_Heap_Key 75 sh_space_climb.o sh_space_climb.q
theorem cx_space_climb.ok : CxOk cx_space_climb := by
  refine CxOk.add cx_heap_Heap_Key.ok rfl (fun CV hcv xs K w hx h => ?_) (fun CV hcv xs K w hx h => ?_)
  · unfold sh_space_climb.o at h; split at h
    · rename_i h0 v0 top0 up0; exact sh_space_climb.calls CV h0 v0 top0 up0 hcv h
    · exact h.elim
  · unfold sh_space_climb.q at h; split at h
    · rename_i h0 v0 top0 up0; obtain ⟨r, h1, h2⟩ := h; exact ⟨_, h2, fun w' e => sh_space_climb.calls CV h0 v0 top0 up0 hcv (h1 w' e)⟩
    · exact h.elim
def sh_hier_Hier_Up.plan : Plan := (.seq .o (.seq (.seq .o (.cond (.seq .o .o) .o)) (.seq .o .o)))
theorem sh_hier_Hier_Up.is (CV : CVT) (h0 : Option Addr) (v0 : Int) (w : World) (R : Value → World → Prop) : sh_hier_Hier_Up h0 v0 (fun r0 w' => R (.slice r0.a r0.len r0.cap) w') w = denF (cx_space_climb.with CV) Try.f76 sh_hier_Hier_Up.plan [.v (.pointer h0), .v (.int .i64 v0)] w R := by kernel_rfl
theorem sh_hier_Hier_Up.calls (CV : CVT) (h0 : Option Addr) (v0 : Int) (hcv : CVOk Try.prog CV) {w : World} {R : Ending → World → Prop} (h : sh_hier_Hier_Up h0 v0 (fun r0 w' => R (.returned (.slice r0.a r0.len r0.cap)) w') w) : Calls Try.prog 76 #[(.pointer h0), (.int .i64 v0)] w R :=
  calls_is (cx := cx_space_climb.with CV) mixed_Try (cx_space_climb.ok.with CV) hcv Try.func76 sh_hier_Hier_Up.plan (xs := [.v (.pointer h0), .v (.int .i64 v0)]) ((args_cons _ (args_cons _ args_nil))) (by kernel_rfl) (sh_hier_Hier_Up.is CV h0 v0 w (fun v w' => R (.returned v) w')) h
def sh_hier_Hier_Up.o : CVT → List X → (Value → World → Prop) → World → Prop
  | CV, [.v (.pointer h0), .v (.int .i64 v0)], K, w => sh_hier_Hier_Up h0 v0 (fun r0 w' => K (.slice r0.a r0.len r0.cap) w') w
  | _, _, _, _ => False
def sh_hier_Hier_Up.q : CVT → List X → World → (Value → Prop) → Prop
  | CV, [.v (.pointer h0), .v (.int .i64 v0)], w, K => Quiet (SV) (fun r => (.slice r.a r.len r.cap)) (fun K1 w' => sh_hier_Hier_Up h0 v0 (fun r0 w'' => K1 r0 w'') w') w (fun r => K (.slice r.a r.len r.cap))
  | _, _, _, _ => False
noncomputable def cx_hier_Hier_Up : Cx := Cx.add Try.prog cx_space_climb 76 sh_hier_Hier_Up.o sh_hier_Hier_Up.q
theorem cx_hier_Hier_Up.ok : CxOk cx_hier_Hier_Up := by
  refine CxOk.add cx_space_climb.ok rfl (fun CV hcv xs K w hx h => ?_) (fun CV hcv xs K w hx h => ?_)
  · unfold sh_hier_Hier_Up.o at h; split at h
    · rename_i h0 v0; exact sh_hier_Hier_Up.calls CV h0 v0 hcv h
    · exact h.elim
  · unfold sh_hier_Hier_Up.q at h; split at h
    · rename_i h0 v0; obtain ⟨r, h1, h2⟩ := h; exact ⟨_, h2, fun w' e => sh_hier_Hier_Up.calls CV h0 v0 hcv (h1 w' e)⟩
    · exact h.elim
def sh_space_rows_c1.plan : Plan := (.seq .o (.seq .o (.seq (.draw [5] [.pure, .pure, .pure, .pure, .pure, .quiet, .quiet, .pure, .quiet, .big, .pure, .lst, .pure] [0, 1, 2, 3, 4, 5, 6, 7, 8, 9, 10, 11, 12]) .o)))
theorem sh_space_rows_c1.is (CV : CVT) (v0 : Int) (free1 : Addr) (free2 : Addr) (free3 : Addr) (w : World) (R : Value → World → Prop) : sh_space_rows_c1 CV v0 free1 free2 free3 (fun r0 r1 r2 w' => R (.tuple #[(.agg #[(.int .i64 r0), (.int .i64 r1)]), (.bool r2)]) w') w = denF (cx_hier_Hier_Up.with CV) Try.f93 sh_space_rows_c1.plan [.v (.int .i64 v0), .v (.pointer (some free1)), .v (.pointer (some free2)), .v (.pointer (some free3))] w R := by kernel_rfl
theorem sh_space_rows_c1.calls (CV : CVT) (v0 : Int) (free1 : Addr) (free2 : Addr) (free3 : Addr) (hcv : CVOk Try.prog CV) {w : World} {R : Ending → World → Prop} (h : sh_space_rows_c1 CV v0 free1 free2 free3 (fun r0 r1 r2 w' => R (.returned (.tuple #[(.agg #[(.int .i64 r0), (.int .i64 r1)]), (.bool r2)])) w') w) : Calls Try.prog 93 #[(.int .i64 v0), (.pointer (some free1)), (.pointer (some free2)), (.pointer (some free3))] w R :=
  calls_is (cx := cx_hier_Hier_Up.with CV) mixed_Try (cx_hier_Hier_Up.ok.with CV) hcv Try.func93 sh_space_rows_c1.plan (xs := [.v (.int .i64 v0), .v (.pointer (some free1)), .v (.pointer (some free2)), .v (.pointer (some free3))]) ((args_cons _ (args_cons _ (args_cons _ (args_cons _ args_nil))))) (by kernel_rfl) (sh_space_rows_c1.is CV v0 free1 free2 free3 w (fun v w' => R (.returned v) w')) h
def sh_space_rows_c1.o : CVT → List X → (Value → World → Prop) → World → Prop
  | CV, [.v (.int .i64 v0), .v (.pointer (some free1)), .v (.pointer (some free2)), .v (.pointer (some free3))], K, w => sh_space_rows_c1 CV v0 free1 free2 free3 (fun r0 r1 r2 w' => K (.tuple #[(.agg #[(.int .i64 r0), (.int .i64 r1)]), (.bool r2)]) w') w
  | _, _, _, _ => False
def sh_space_rows_c1.q : CVT → List X → World → (Value → Prop) → Prop
  | CV, [.v (.int .i64 v0), .v (.pointer (some free1)), .v (.pointer (some free2)), .v (.pointer (some free3))], w, K => Quiet (Int × Int × Bool) (fun r => (.tuple #[(.agg #[(.int .i64 r.1), (.int .i64 r.2.1)]), (.bool r.2.2)])) (fun K1 w' => sh_space_rows_c1 CV v0 free1 free2 free3 (fun r0 r1 r2 w'' => K1 (r0, r1, r2) w'') w') w (fun r => K (.tuple #[(.agg #[(.int .i64 r.1), (.int .i64 r.2.1)]), (.bool r.2.2)]))
  | _, _, _, _ => False
noncomputable def cx_space_rows_c1 : Cx := Cx.add Try.prog cx_hier_Hier_Up 93 sh_space_rows_c1.o sh_space_rows_c1.q
theorem cx_space_rows_c1.ok : CxOk cx_space_rows_c1 := by
  refine CxOk.add cx_hier_Hier_Up.ok rfl (fun CV hcv xs K w hx h => ?_) (fun CV hcv xs K w hx h => ?_)
  · unfold sh_space_rows_c1.o at h; split at h
    · rename_i v0 free1 free2 free3; exact sh_space_rows_c1.calls CV v0 free1 free2 free3 hcv h
    · exact h.elim
  · unfold sh_space_rows_c1.q at h; split at h
    · rename_i v0 free1 free2 free3; obtain ⟨r, h1, h2⟩ := h; exact ⟨_, h2, fun w' e => sh_space_rows_c1.calls CV v0 free1 free2 free3 hcv (h1 w' e)⟩
    · exact h.elim
def sh_space_gather_Reach.plan : Plan := (.seq .o (.seq .o (.seq (.seq .o (.block (.loop [.slot 5 .slice, .slot 10 (.int .i64)] [] (.seq .o (.seq (.cond .o .o) (.seq (.block (.seq .o (.seq .o (.seq .o (.cond .o .o))))) .o)))))) (.seq .o .o))))
theorem sh_space_gather_Reach.is (CV : CVT) (n0 : Int) (one0 : Value) (w : World) (R : Value → World → Prop) : sh_space_gather_Reach CV n0 one0 (fun r0 w' => R (.slice r0.a r0.len r0.cap) w') w = denF (cx_space_rows_c1.with CV) Try.f92 sh_space_gather_Reach.plan [.v (.int .i64 n0), .v one0] w R := by kernel_rfl
theorem sh_space_gather_Reach.calls (CV : CVT) (n0 : Int) (one0 : Value) (hcv : CVOk Try.prog CV) {w : World} {R : Ending → World → Prop} (h : sh_space_gather_Reach CV n0 one0 (fun r0 w' => R (.returned (.slice r0.a r0.len r0.cap)) w') w) : Calls Try.prog 92 #[(.int .i64 n0), one0] w R :=
  calls_is (cx := cx_space_rows_c1.with CV) mixed_Try (cx_space_rows_c1.ok.with CV) hcv Try.func92 sh_space_gather_Reach.plan (xs := [.v (.int .i64 n0), .v one0]) ((args_cons _ (args_cons _ args_nil))) (by kernel_rfl) (sh_space_gather_Reach.is CV n0 one0 w (fun v w' => R (.returned v) w')) h
def sh_space_gather_Reach.o : CVT → List X → (Value → World → Prop) → World → Prop
  | CV, [.v (.int .i64 n0), .v (one0)], K, w => sh_space_gather_Reach CV n0 one0 (fun r0 w' => K (.slice r0.a r0.len r0.cap) w') w
  | _, _, _, _ => False
def sh_space_gather_Reach.q : CVT → List X → World → (Value → Prop) → Prop
  | CV, [.v (.int .i64 n0), .v (one0)], w, K => Quiet (SV) (fun r => (.slice r.a r.len r.cap)) (fun K1 w' => sh_space_gather_Reach CV n0 one0 (fun r0 w'' => K1 r0 w'') w') w (fun r => K (.slice r.a r.len r.cap))
  | _, _, _, _ => False
noncomputable def cx_space_gather_Reach : Cx := Cx.add Try.prog cx_space_rows_c1 92 sh_space_gather_Reach.o sh_space_gather_Reach.q
theorem cx_space_gather_Reach.ok : CxOk cx_space_gather_Reach := by
  refine CxOk.add cx_space_rows_c1.ok rfl (fun CV hcv xs K w hx h => ?_) (fun CV hcv xs K w hx h => ?_)
  · unfold sh_space_gather_Reach.o at h; split at h
    · rename_i n0 one0; exact sh_space_gather_Reach.calls CV n0 one0 hcv h
    · exact h.elim
  · unfold sh_space_gather_Reach.q at h; split at h
    · rename_i n0 one0; obtain ⟨r, h1, h2⟩ := h; exact ⟨_, h2, fun w' e => sh_space_gather_Reach.calls CV n0 one0 hcv (h1 w' e)⟩
    · exact h.elim
def sh_space_rows.plan : Plan := (.seq .o (.seq .o .o))
theorem sh_space_rows.is (CV : CVT) (h0 : Option Addr) (m0 : Option Nat) (may0 : Value) (w : World) (R : Value → World → Prop) : sh_space_rows CV h0 m0 may0 (fun r0 w' => R (.slice r0.a r0.len r0.cap) w') w = denF (cx_space_gather_Reach.with CV) Try.f74 sh_space_rows.plan [.v (.pointer h0), .v (.map m0), .v may0] w R := by kernel_rfl
theorem sh_space_rows.calls (CV : CVT) (h0 : Option Addr) (m0 : Option Nat) (may0 : Value) (hcv : CVOk Try.prog CV) {w : World} {R : Ending → World → Prop} (h : sh_space_rows CV h0 m0 may0 (fun r0 w' => R (.returned (.slice r0.a r0.len r0.cap)) w') w) : Calls Try.prog 74 #[(.pointer h0), (.map m0), may0] w R :=
  calls_is (cx := cx_space_gather_Reach.with CV) mixed_Try (cx_space_gather_Reach.ok.with CV) hcv Try.func74 sh_space_rows.plan (xs := [.v (.pointer h0), .v (.map m0), .v may0]) ((args_cons _ (args_cons _ (args_cons _ args_nil)))) (by kernel_rfl) (sh_space_rows.is CV h0 m0 may0 w (fun v w' => R (.returned v) w')) h
def sh_space_rows.o : CVT → List X → (Value → World → Prop) → World → Prop
  | CV, [.v (.pointer h0), .v (.map m0), .v (may0)], K, w => sh_space_rows CV h0 m0 may0 (fun r0 w' => K (.slice r0.a r0.len r0.cap) w') w
  | _, _, _, _ => False
def sh_space_rows.q : CVT → List X → World → (Value → Prop) → Prop
  | CV, [.v (.pointer h0), .v (.map m0), .v (may0)], w, K => Quiet (SV) (fun r => (.slice r.a r.len r.cap)) (fun K1 w' => sh_space_rows CV h0 m0 may0 (fun r0 w'' => K1 r0 w'') w') w (fun r => K (.slice r.a r.len r.cap))
  | _, _, _, _ => False
noncomputable def cx_space_rows : Cx := Cx.add Try.prog cx_space_gather_Reach 74 sh_space_rows.o sh_space_rows.q
theorem cx_space_rows.ok : CxOk cx_space_rows := by
  refine CxOk.add cx_space_gather_Reach.ok rfl (fun CV hcv xs K w hx h => ?_) (fun CV hcv xs K w hx h => ?_)
  · unfold sh_space_rows.o at h; split at h
    · rename_i h0 m0 may0; exact sh_space_rows.calls CV h0 m0 may0 hcv h
    · exact h.elim
  · unfold sh_space_rows.q at h; split at h
    · rename_i h0 m0 may0; obtain ⟨r, h1, h2⟩ := h; exact ⟨_, h2, fun w' e => sh_space_rows.calls CV h0 m0 may0 hcv (h1 w' e)⟩
    · exact h.elim
def sh_space_all.plan : Plan := (.seq .o (.seq .o .o))
theorem sh_space_all.is (CV : CVT) (arg0_0 : Int) (w : World) (R : Value → World → Prop) : sh_space_all arg0_0 (fun r0 w' => R (.bool r0) w') w = denF (cx_space_rows.with CV) Try.f77 sh_space_all.plan [.v (.int .i64 arg0_0)] w R := by kernel_rfl
theorem sh_space_all.calls (CV : CVT) (arg0_0 : Int) (hcv : CVOk Try.prog CV) {w : World} {R : Ending → World → Prop} (h : sh_space_all arg0_0 (fun r0 w' => R (.returned (.bool r0)) w') w) : Calls Try.prog 77 #[(.int .i64 arg0_0)] w R :=
  calls_is (cx := cx_space_rows.with CV) mixed_Try (cx_space_rows.ok.with CV) hcv Try.func77 sh_space_all.plan (xs := [.v (.int .i64 arg0_0)]) ((args_cons _ args_nil)) (by kernel_rfl) (sh_space_all.is CV arg0_0 w (fun v w' => R (.returned v) w')) h
def sh_space_all.o : CVT → List X → (Value → World → Prop) → World → Prop
  | CV, [.v (.int .i64 arg0_0)], K, w => sh_space_all arg0_0 (fun r0 w' => K (.bool r0) w') w
  | _, _, _, _ => False
def sh_space_all.q : CVT → List X → World → (Value → Prop) → Prop
  | CV, [.v (.int .i64 arg0_0)], w, K => Quiet (Bool) (fun r => (.bool r)) (fun K1 w' => sh_space_all arg0_0 (fun r0 w'' => K1 r0 w'') w') w (fun r => K (.bool r))
  | _, _, _, _ => False
noncomputable def cx_space_all : Cx := Cx.add Try.prog cx_space_rows 77 sh_space_all.o sh_space_all.q
theorem cx_space_all.ok : CxOk cx_space_all := by
  refine CxOk.add cx_space_rows.ok rfl (fun CV hcv xs K w hx h => ?_) (fun CV hcv xs K w hx h => ?_)
  · unfold sh_space_all.o at h; split at h
    · rename_i arg0_0; exact sh_space_all.calls CV arg0_0 hcv h
    · exact h.elim
  · unfold sh_space_all.q at h; split at h
    · rename_i arg0_0; obtain ⟨r, h1, h2⟩ := h; exact ⟨_, h2, fun w' e => sh_space_all.calls CV arg0_0 hcv (h1 w' e)⟩
    · exact h.elim
def sh_space_Forward.plan : Plan := (.seq .o (.seq .o .o))
theorem sh_space_Forward.is (CV : CVT) (h0 : Option Addr) (v0 : Int) (w : World) (R : Value → World → Prop) : sh_space_Forward CV h0 v0 (fun r0 w' => R (.slice r0.a r0.len r0.cap) w') w = denF (cx_space_all.with CV) Try.f43 sh_space_Forward.plan [.v (.pointer h0), .v (.int .i64 v0)] w R := by kernel_rfl
theorem sh_space_Forward.calls (CV : CVT) (h0 : Option Addr) (v0 : Int) (hcv : CVOk Try.prog CV) {w : World} {R : Ending → World → Prop} (h : sh_space_Forward CV h0 v0 (fun r0 w' => R (.returned (.slice r0.a r0.len r0.cap)) w') w) : Calls Try.prog 43 #[(.pointer h0), (.int .i64 v0)] w R :=
  calls_is (cx := cx_space_all.with CV) mixed_Try (cx_space_all.ok.with CV) hcv Try.func43 sh_space_Forward.plan (xs := [.v (.pointer h0), .v (.int .i64 v0)]) ((args_cons _ (args_cons _ args_nil))) (by kernel_rfl) (sh_space_Forward.is CV h0 v0 w (fun v w' => R (.returned v) w')) h
def sh_space_Forward.o : CVT → List X → (Value → World → Prop) → World → Prop
  | CV, [.v (.pointer h0), .v (.int .i64 v0)], K, w => sh_space_Forward CV h0 v0 (fun r0 w' => K (.slice r0.a r0.len r0.cap) w') w
  | _, _, _, _ => False
def sh_space_Forward.q : CVT → List X → World → (Value → Prop) → Prop
  | CV, [.v (.pointer h0), .v (.int .i64 v0)], w, K => Quiet (SV) (fun r => (.slice r.a r.len r.cap)) (fun K1 w' => sh_space_Forward CV h0 v0 (fun r0 w'' => K1 r0 w'') w') w (fun r => K (.slice r.a r.len r.cap))
  | _, _, _, _ => False
noncomputable def cx_space_Forward : Cx := Cx.add Try.prog cx_space_all 43 sh_space_Forward.o sh_space_Forward.q
theorem cx_space_Forward.ok : CxOk cx_space_Forward := by
  refine CxOk.add cx_space_all.ok rfl (fun CV hcv xs K w hx h => ?_) (fun CV hcv xs K w hx h => ?_)
  · unfold sh_space_Forward.o at h; split at h
    · rename_i h0 v0; exact sh_space_Forward.calls CV h0 v0 hcv h
    · exact h.elim
  · unfold sh_space_Forward.q at h; split at h
    · rename_i h0 v0; obtain ⟨r, h1, h2⟩ := h; exact ⟨_, h2, fun w' e => sh_space_Forward.calls CV h0 v0 hcv (h1 w' e)⟩
    · exact h.elim
def sh_space_Find.plan : Plan := (.seq .o (.seq (.seq .o (.block (.loop [.slot 9 (.int .i64)] [] (.seq .o (.seq (.cond .o .o) (.seq (.block (.seq .o (.seq .o (.cond (.seq .o .o) .o)))) .o)))))) (.seq .o .o)))
theorem sh_space_Find.is (CV : CVT) (l0 : SV) (v0 : Int) (w : World) (R : Value → World → Prop) : sh_space_Find l0 v0 (fun r0 w' => R (.int .i64 r0) w') w = denF (cx_space_Forward.with CV) Try.f44 sh_space_Find.plan [.v (.slice l0.a l0.len l0.cap), .v (.int .i64 v0)] w R := by kernel_rfl
theorem sh_space_Find.calls (CV : CVT) (l0 : SV) (v0 : Int) (hcv : CVOk Try.prog CV) {w : World} {R : Ending → World → Prop} (h : sh_space_Find l0 v0 (fun r0 w' => R (.returned (.int .i64 r0)) w') w) : Calls Try.prog 44 #[(.slice l0.a l0.len l0.cap), (.int .i64 v0)] w R :=
  calls_is (cx := cx_space_Forward.with CV) mixed_Try (cx_space_Forward.ok.with CV) hcv Try.func44 sh_space_Find.plan (xs := [.v (.slice l0.a l0.len l0.cap), .v (.int .i64 v0)]) ((args_cons _ (args_cons _ args_nil))) (by kernel_rfl) (sh_space_Find.is CV l0 v0 w (fun v w' => R (.returned v) w')) h
def sh_space_Find.o : CVT → List X → (Value → World → Prop) → World → Prop
  | CV, [.v (.slice l0_a l0_l l0_c), .v (.int .i64 v0)], K, w => sh_space_Find ⟨l0_a, l0_l, l0_c⟩ v0 (fun r0 w' => K (.int .i64 r0) w') w
  | _, _, _, _ => False
def sh_space_Find.q : CVT → List X → World → (Value → Prop) → Prop
  | CV, [.v (.slice l0_a l0_l l0_c), .v (.int .i64 v0)], w, K => Quiet (Int) (fun r => (.int .i64 r)) (fun K1 w' => sh_space_Find ⟨l0_a, l0_l, l0_c⟩ v0 (fun r0 w'' => K1 r0 w'') w') w (fun r => K (.int .i64 r))
  | _, _, _, _ => False
noncomputable def cx_space_Find : Cx := Cx.add Try.prog cx_space_Forward 44 sh_space_Find.o sh_space_Find.q
theorem cx_space_Find.ok : CxOk cx_space_Find := by
  refine CxOk.add cx_space_Forward.ok rfl (fun CV hcv xs K w hx h => ?_) (fun CV hcv xs K w hx h => ?_)
  · unfold sh_space_Find.o at h; split at h
    · rename_i l0_a l0_l l0_c v0; exact sh_space_Find.calls CV ⟨l0_a, l0_l, l0_c⟩ v0 hcv h
    · exact h.elim
  · unfold sh_space_Find.q at h; split at h
    · rename_i l0_a l0_l l0_c v0; obtain ⟨r, h1, h2⟩ := h; exact ⟨_, h2, fun w' e => sh_space_Find.calls CV ⟨l0_a, l0_l, l0_c⟩ v0 hcv (h1 w' e)⟩
    · exact h.elim
def sh_hier_Hier_Find.plan : Plan := (.seq .o (.seq (.seq .o (.cond (.seq .o .o) .o)) (.seq .o (.seq (.seq .o (.cond (.seq .o .o) .o)) (.seq .o .o)))))
theorem sh_hier_Hier_Find.is (CV : CVT) (h0 : Option Addr) (u0 : Int) (v0 : Int) (w : World) (R : Value → World → Prop) : sh_hier_Hier_Find h0 u0 v0 (fun r0 w' => R (.int .i64 r0) w') w = denF (cx_space_Find.with CV) Try.f47 sh_hier_Hier_Find.plan [.v (.pointer h0), .v (.int .i64 u0), .v (.int .i64 v0)] w R := by kernel_rfl
theorem sh_hier_Hier_Find.calls (CV : CVT) (h0 : Option Addr) (u0 : Int) (v0 : Int) (hcv : CVOk Try.prog CV) {w : World} {R : Ending → World → Prop} (h : sh_hier_Hier_Find h0 u0 v0 (fun r0 w' => R (.returned (.int .i64 r0)) w') w) : Calls Try.prog 47 #[(.pointer h0), (.int .i64 u0), (.int .i64 v0)] w R :=
  calls_is (cx := cx_space_Find.with CV) mixed_Try (cx_space_Find.ok.with CV) hcv Try.func47 sh_hier_Hier_Find.plan (xs := [.v (.pointer h0), .v (.int .i64 u0), .v (.int .i64 v0)]) ((args_cons _ (args_cons _ (args_cons _ args_nil)))) (by kernel_rfl) (sh_hier_Hier_Find.is CV h0 u0 v0 w (fun v w' => R (.returned v) w')) h
def sh_hier_Hier_Find.o : CVT → List X → (Value → World → Prop) → World → Prop
  | CV, [.v (.pointer h0), .v (.int .i64 u0), .v (.int .i64 v0)], K, w => sh_hier_Hier_Find h0 u0 v0 (fun r0 w' => K (.int .i64 r0) w') w
  | _, _, _, _ => False
def sh_hier_Hier_Find.q : CVT → List X → World → (Value → Prop) → Prop
  | CV, [.v (.pointer h0), .v (.int .i64 u0), .v (.int .i64 v0)], w, K => Quiet (Int) (fun r => (.int .i64 r)) (fun K1 w' => sh_hier_Hier_Find h0 u0 v0 (fun r0 w'' => K1 r0 w'') w') w (fun r => K (.int .i64 r))
  | _, _, _, _ => False
noncomputable def cx_hier_Hier_Find : Cx := Cx.add Try.prog cx_space_Find 47 sh_hier_Hier_Find.o sh_hier_Hier_Find.q
theorem cx_hier_Hier_Find.ok : CxOk cx_hier_Hier_Find := by
  refine CxOk.add cx_space_Find.ok rfl (fun CV hcv xs K w hx h => ?_) (fun CV hcv xs K w hx h => ?_)
  · unfold sh_hier_Hier_Find.o at h; split at h
    · rename_i h0 u0 v0; exact sh_hier_Hier_Find.calls CV h0 u0 v0 hcv h
    · exact h.elim
  · unfold sh_hier_Hier_Find.q at h; split at h
    · rename_i h0 u0 v0; obtain ⟨r, h1, h2⟩ := h; exact ⟨_, h2, fun w' e => sh_hier_Hier_Find.calls CV h0 u0 v0 hcv (h1 w' e)⟩
    · exact h.elim
def sh_unpack_chain_c1.plan : Plan := (.seq .o (.seq .o (.seq .o .o)))
theorem sh_unpack_chain_c1.is (CV : CVT) (k0 : Int) (free1 : Addr) (w : World) (R : Value → World → Prop) : sh_unpack_chain_c1 k0 free1 (fun r0 w' => R (.int .i64 r0) w') w = denF (cx_hier_Hier_Find.with CV) Try.f79 sh_unpack_chain_c1.plan [.v (.int .i64 k0), .v (.pointer (some free1))] w R := by kernel_rfl
theorem sh_unpack_chain_c1.calls (CV : CVT) (k0 : Int) (free1 : Addr) (hcv : CVOk Try.prog CV) {w : World} {R : Ending → World → Prop} (h : sh_unpack_chain_c1 k0 free1 (fun r0 w' => R (.returned (.int .i64 r0)) w') w) : Calls Try.prog 79 #[(.int .i64 k0), (.pointer (some free1))] w R :=
  calls_is (cx := cx_hier_Hier_Find.with CV) mixed_Try (cx_hier_Hier_Find.ok.with CV) hcv Try.func79 sh_unpack_chain_c1.plan (xs := [.v (.int .i64 k0), .v (.pointer (some free1))]) ((args_cons _ (args_cons _ args_nil))) (by kernel_rfl) (sh_unpack_chain_c1.is CV k0 free1 w (fun v w' => R (.returned v) w')) h
def sh_unpack_chain_c1.o : CVT → List X → (Value → World → Prop) → World → Prop
  | CV, [.v (.int .i64 k0), .v (.pointer (some free1))], K, w => sh_unpack_chain_c1 k0 free1 (fun r0 w' => K (.int .i64 r0) w') w
  | _, _, _, _ => False
def sh_unpack_chain_c1.q : CVT → List X → World → (Value → Prop) → Prop
  | CV, [.v (.int .i64 k0), .v (.pointer (some free1))], w, K => Quiet (Int) (fun r => (.int .i64 r)) (fun K1 w' => sh_unpack_chain_c1 k0 free1 (fun r0 w'' => K1 r0 w'') w') w (fun r => K (.int .i64 r))
  | _, _, _, _ => False
noncomputable def cx_unpack_chain_c1 : Cx := Cx.add Try.prog cx_hier_Hier_Find 79 sh_unpack_chain_c1.o sh_unpack_chain_c1.q
theorem cx_unpack_chain_c1.ok : CxOk cx_unpack_chain_c1 := by
  refine CxOk.add cx_hier_Hier_Find.ok rfl (fun CV hcv xs K w hx h => ?_) (fun CV hcv xs K w hx h => ?_)
  · unfold sh_unpack_chain_c1.o at h; split at h
    · rename_i k0 free1; exact sh_unpack_chain_c1.calls CV k0 free1 hcv h
    · exact h.elim
  · unfold sh_unpack_chain_c1.q at h; split at h
    · rename_i k0 free1; obtain ⟨r, h1, h2⟩ := h; exact ⟨_, h2, fun w' e => sh_unpack_chain_c1.calls CV k0 free1 hcv (h1 w' e)⟩
    · exact h.elim
def sh_unpack_chain_c2.plan : Plan := (.seq .o (.seq (.seq (.draw [] [.quiet, .pure, .quiet, .quiet, .quiet, .quiet, .pure] [0, 1, 2, 3, 4, 5, 6]) (.cond (.seq .o .o) .o)) (.seq .o .o)))
theorem sh_unpack_chain_c2.is (CV : CVT) (u0 : Int) (free1 : Addr) (free2 : Addr) (free3 : Addr) (w : World) (R : Value → World → Prop) : sh_unpack_chain_c2 CV u0 free1 free2 free3 (fun r0 w' => R (.int .i64 r0) w') w = denF (cx_unpack_chain_c1.with CV) Try.f81 sh_unpack_chain_c2.plan [.v (.int .i64 u0), .v (.pointer (some free1)), .v (.pointer (some free2)), .v (.pointer (some free3))] w R := by kernel_rfl
theorem sh_unpack_chain_c2.calls (CV : CVT) (u0 : Int) (free1 : Addr) (free2 : Addr) (free3 : Addr) (hcv : CVOk Try.prog CV) {w : World} {R : Ending → World → Prop} (h : sh_unpack_chain_c2 CV u0 free1 free2 free3 (fun r0 w' => R (.returned (.int .i64 r0)) w') w) : Calls Try.prog 81 #[(.int .i64 u0), (.pointer (some free1)), (.pointer (some free2)), (.pointer (some free3))] w R :=
  calls_is (cx := cx_unpack_chain_c1.with CV) mixed_Try (cx_unpack_chain_c1.ok.with CV) hcv Try.func81 sh_unpack_chain_c2.plan (xs := [.v (.int .i64 u0), .v (.pointer (some free1)), .v (.pointer (some free2)), .v (.pointer (some free3))]) ((args_cons _ (args_cons _ (args_cons _ (args_cons _ args_nil))))) (by kernel_rfl) (sh_unpack_chain_c2.is CV u0 free1 free2 free3 w (fun v w' => R (.returned v) w')) h
def sh_unpack_chain_c2.o : CVT → List X → (Value → World → Prop) → World → Prop
  | CV, [.v (.int .i64 u0), .v (.pointer (some free1)), .v (.pointer (some free2)), .v (.pointer (some free3))], K, w => sh_unpack_chain_c2 CV u0 free1 free2 free3 (fun r0 w' => K (.int .i64 r0) w') w
  | _, _, _, _ => False
def sh_unpack_chain_c2.q : CVT → List X → World → (Value → Prop) → Prop
  | CV, [.v (.int .i64 u0), .v (.pointer (some free1)), .v (.pointer (some free2)), .v (.pointer (some free3))], w, K => Quiet (Int) (fun r => (.int .i64 r)) (fun K1 w' => sh_unpack_chain_c2 CV u0 free1 free2 free3 (fun r0 w'' => K1 r0 w'') w') w (fun r => K (.int .i64 r))
  | _, _, _, _ => False
noncomputable def cx_unpack_chain_c2 : Cx := Cx.add Try.prog cx_unpack_chain_c1 81 sh_unpack_chain_c2.o sh_unpack_chain_c2.q
theorem cx_unpack_chain_c2.ok : CxOk cx_unpack_chain_c2 := by
  refine CxOk.add cx_unpack_chain_c1.ok rfl (fun CV hcv xs K w hx h => ?_) (fun CV hcv xs K w hx h => ?_)
  · unfold sh_unpack_chain_c2.o at h; split at h
    · rename_i u0 free1 free2 free3; exact sh_unpack_chain_c2.calls CV u0 free1 free2 free3 hcv h
    · exact h.elim
  · unfold sh_unpack_chain_c2.q at h; split at h
    · rename_i u0 free1 free2 free3; obtain ⟨r, h1, h2⟩ := h; exact ⟨_, h2, fun w' e => sh_unpack_chain_c2.calls CV u0 free1 free2 free3 hcv (h1 w' e)⟩
    · exact h.elim
def sh_unpack_before.plan : Plan := (.seq .o (.seq .o (.seq .o (.join [.slot 10 (.int .i64), .slot 11 (.int .i64)] [] (.seq .o (.block (.loop [.slot 10 (.int .i64), .slot 11 (.int .i64), .slot 21 (.int .i64)] [] (.seq .o (.seq (.cond .o .o) (.seq (.block (.seq .o (.seq .o (.seq (.draw [] [.pure, .pure, .pure, .pure, .rd, .pure, .pure, .big, .pure, .pure, .pure, .pure, .pure, .pure, .pure, .pure, .pure, .pure, .pure, .pure, .pure] [0, 1, 2, 3, 4, 5, 6, 9, 7, 8, 10, 11, 12, 13, 14, 15, 16, 17, 18, 19, 20]) (.cond (.draw [] [.pure, .pure, .loc, .pure, .pure] [0, 1, 2, 3, 4]) .o))))) .o)))))) (.seq .o .o)))))
theorem sh_unpack_before.is (CV : CVT) (reach0 : SV) (v0 : Int) (find0 : Value) (long0 : Value) (w : World) (R : Value → World → Prop) : sh_unpack_before CV reach0 v0 find0 long0 (fun r0 r1 w' => R (.tuple #[(.int .i64 r0), (.int .i64 r1)]) w') w = denF (cx_unpack_chain_c2.with CV) Try.f80 sh_unpack_before.plan [.v (.slice reach0.a reach0.len reach0.cap), .v (.int .i64 v0), .v find0, .v long0] w R := by kernel_rfl
theorem sh_unpack_before.calls (CV : CVT) (reach0 : SV) (v0 : Int) (find0 : Value) (long0 : Value) (hcv : CVOk Try.prog CV) {w : World} {R : Ending → World → Prop} (h : sh_unpack_before CV reach0 v0 find0 long0 (fun r0 r1 w' => R (.returned (.tuple #[(.int .i64 r0), (.int .i64 r1)])) w') w) : Calls Try.prog 80 #[(.slice reach0.a reach0.len reach0.cap), (.int .i64 v0), find0, long0] w R :=
  calls_is (cx := cx_unpack_chain_c2.with CV) mixed_Try (cx_unpack_chain_c2.ok.with CV) hcv Try.func80 sh_unpack_before.plan (xs := [.v (.slice reach0.a reach0.len reach0.cap), .v (.int .i64 v0), .v find0, .v long0]) ((args_cons _ (args_cons _ (args_cons _ (args_cons _ args_nil))))) (by kernel_rfl) (sh_unpack_before.is CV reach0 v0 find0 long0 w (fun v w' => R (.returned v) w')) h
def sh_unpack_before.o : CVT → List X → (Value → World → Prop) → World → Prop
  | CV, [.v (.slice reach0_a reach0_l reach0_c), .v (.int .i64 v0), .v (find0), .v (long0)], K, w => sh_unpack_before CV ⟨reach0_a, reach0_l, reach0_c⟩ v0 find0 long0 (fun r0 r1 w' => K (.tuple #[(.int .i64 r0), (.int .i64 r1)]) w') w
  | _, _, _, _ => False
def sh_unpack_before.q : CVT → List X → World → (Value → Prop) → Prop
  | CV, [.v (.slice reach0_a reach0_l reach0_c), .v (.int .i64 v0), .v (find0), .v (long0)], w, K => Quiet (Int × Int) (fun r => (.tuple #[(.int .i64 r.1), (.int .i64 r.2)])) (fun K1 w' => sh_unpack_before CV ⟨reach0_a, reach0_l, reach0_c⟩ v0 find0 long0 (fun r0 r1 w'' => K1 (r0, r1) w'') w') w (fun r => K (.tuple #[(.int .i64 r.1), (.int .i64 r.2)]))
  | _, _, _, _ => False
noncomputable def cx_unpack_before : Cx := Cx.add Try.prog cx_unpack_chain_c2 80 sh_unpack_before.o sh_unpack_before.q
theorem cx_unpack_before.ok : CxOk cx_unpack_before := by
  refine CxOk.add cx_unpack_chain_c2.ok rfl (fun CV hcv xs K w hx h => ?_) (fun CV hcv xs K w hx h => ?_)
  · unfold sh_unpack_before.o at h; split at h
    · rename_i reach0_a reach0_l reach0_c v0 find0 long0; exact sh_unpack_before.calls CV ⟨reach0_a, reach0_l, reach0_c⟩ v0 find0 long0 hcv h
    · exact h.elim
  · unfold sh_unpack_before.q at h; split at h
    · rename_i reach0_a reach0_l reach0_c v0 find0 long0; obtain ⟨r, h1, h2⟩ := h; exact ⟨_, h2, fun w' e => sh_unpack_before.calls CV ⟨reach0_a, reach0_l, reach0_c⟩ v0 find0 long0 hcv (h1 w' e)⟩
    · exact h.elim
def sh_unpack_chain.plan : Plan := (.seq .o (.scope (.seq .o (.seq .o (.seq .o (.seq (.block (.exp [7, 9] (.loop [.slot 11 .slice] [] (.seq (.seq .o (.cond .o .o)) (.block (.seq .o (.seq (.seq .o (.cond .o .o)) .o))))))) (.seq .o .o)))))))
theorem sh_unpack_chain.is (CV : CVT) (h0 : Option Addr) (reach0 : SV) (v0 : Int) (end_0 : Int) (way0 : Value) (w : World) (R : Value → World → Prop) : sh_unpack_chain CV h0 reach0 v0 end_0 way0 (fun r0 w' => R (.slice r0.a r0.len r0.cap) w') w = denF (cx_unpack_before.with CV) Try.f46 sh_unpack_chain.plan [.v (.pointer h0), .v (.slice reach0.a reach0.len reach0.cap), .v (.int .i64 v0), .v (.int .i64 end_0), .v way0] w R := by kernel_rfl
theorem sh_unpack_chain.calls (CV : CVT) (h0 : Option Addr) (reach0 : SV) (v0 : Int) (end_0 : Int) (way0 : Value) (hcv : CVOk Try.prog CV) {w : World} {R : Ending → World → Prop} (h : sh_unpack_chain CV h0 reach0 v0 end_0 way0 (fun r0 w' => R (.returned (.slice r0.a r0.len r0.cap)) w') w) : Calls Try.prog 46 #[(.pointer h0), (.slice reach0.a reach0.len reach0.cap), (.int .i64 v0), (.int .i64 end_0), way0] w R :=
  calls_is (cx := cx_unpack_before.with CV) mixed_Try (cx_unpack_before.ok.with CV) hcv Try.func46 sh_unpack_chain.plan (xs := [.v (.pointer h0), .v (.slice reach0.a reach0.len reach0.cap), .v (.int .i64 v0), .v (.int .i64 end_0), .v way0]) ((args_cons _ (args_cons _ (args_cons _ (args_cons _ (args_cons _ args_nil)))))) (by kernel_rfl) (sh_unpack_chain.is CV h0 reach0 v0 end_0 way0 w (fun v w' => R (.returned v) w')) h
def sh_unpack_chain.o : CVT → List X → (Value → World → Prop) → World → Prop
  | CV, [.v (.pointer h0), .v (.slice reach0_a reach0_l reach0_c), .v (.int .i64 v0), .v (.int .i64 end_0), .v (way0)], K, w => sh_unpack_chain CV h0 ⟨reach0_a, reach0_l, reach0_c⟩ v0 end_0 way0 (fun r0 w' => K (.slice r0.a r0.len r0.cap) w') w
  | _, _, _, _ => False
def sh_unpack_chain.q : CVT → List X → World → (Value → Prop) → Prop
  | CV, [.v (.pointer h0), .v (.slice reach0_a reach0_l reach0_c), .v (.int .i64 v0), .v (.int .i64 end_0), .v (way0)], w, K => Quiet (SV) (fun r => (.slice r.a r.len r.cap)) (fun K1 w' => sh_unpack_chain CV h0 ⟨reach0_a, reach0_l, reach0_c⟩ v0 end_0 way0 (fun r0 w'' => K1 r0 w'') w') w (fun r => K (.slice r.a r.len r.cap))
  | _, _, _, _ => False
noncomputable def cx_unpack_chain : Cx := Cx.add Try.prog cx_unpack_before 46 sh_unpack_chain.o sh_unpack_chain.q
theorem cx_unpack_chain.ok : CxOk cx_unpack_chain := by
  refine CxOk.add cx_unpack_before.ok rfl (fun CV hcv xs K w hx h => ?_) (fun CV hcv xs K w hx h => ?_)
  · unfold sh_unpack_chain.o at h; split at h
    · rename_i h0 reach0_a reach0_l reach0_c v0 end_0 way0; exact sh_unpack_chain.calls CV h0 ⟨reach0_a, reach0_l, reach0_c⟩ v0 end_0 way0 hcv h
    · exact h.elim
  · unfold sh_unpack_chain.q at h; split at h
    · rename_i h0 reach0_a reach0_l reach0_c v0 end_0 way0; obtain ⟨r, h1, h2⟩ := h; exact ⟨_, h2, fun w' e => sh_unpack_chain.calls CV h0 ⟨reach0_a, reach0_l, reach0_c⟩ v0 end_0 way0 hcv (h1 w' e)⟩
    · exact h.elim
def sh_slices_Backward_int_int__c1.plan : Plan := (.seq .o (.block (.loop [.slot 3 (.int .i64)] [] (.seq (.seq .o (.cond .o .o)) (.seq (.block (.seq .o (.cond .o .o))) .o)))))
theorem sh_slices_Backward_int_int__c1.is (CV : CVT) (v0 : Value) (E0 : List Value → (Bool → World → Prop) → World → Prop) (free1 : Addr) (w : World) (R : Value → World → Prop) : sh_slices_Backward_int_int__c1 (fun a0 a1 Ky wy => E0 [(.int .i64 a0), (.int .i64 a1)] Ky wy) free1 (fun w' => R (.tuple #[]) w') w = denF (cx_unpack_chain.with CV) Try.f78 sh_slices_Backward_int_int__c1.plan [.yl v0 E0, .v (.pointer (some free1))] w R := by kernel_rfl
theorem sh_slices_Backward_int_int__c1.calls (CV : CVT) (v0 : Value) (E0 : List Value → (Bool → World → Prop) → World → Prop) (free1 : Addr) (hx : ∀ x ∈ [.yl v0 E0, .v (.pointer (some free1))], ArgOk Try.prog x) (hcv : CVOk Try.prog CV) {w : World} {R : Ending → World → Prop} (h : sh_slices_Backward_int_int__c1 (fun a0 a1 Ky wy => E0 [(.int .i64 a0), (.int .i64 a1)] Ky wy) free1 (fun w' => R (.returned (.tuple #[])) w') w) : Calls Try.prog 78 #[v0, (.pointer (some free1))] w R :=
  calls_is (cx := cx_unpack_chain.with CV) mixed_Try (cx_unpack_chain.ok.with CV) hcv Try.func78 sh_slices_Backward_int_int__c1.plan (xs := [.yl v0 E0, .v (.pointer (some free1))]) hx (by kernel_rfl) (sh_slices_Backward_int_int__c1.is CV v0 E0 free1 w (fun v w' => R (.returned v) w')) h
def sh_slices_Backward_int_int__c1.o : CVT → List X → (Value → World → Prop) → World → Prop
  | CV, [.yl v0 E0, .v (.pointer (some free1))], K, w => sh_slices_Backward_int_int__c1 (fun a0 a1 Ky wy => E0 [(.int .i64 a0), (.int .i64 a1)] Ky wy) free1 (fun w' => K (.tuple #[]) w') w
  | _, _, _, _ => False
def sh_slices_Backward_int_int__c1.q : CVT → List X → World → (Value → Prop) → Prop := fun _ _ _ _ => False
noncomputable def cx_slices_Backward_int_int__c1 : Cx := Cx.add Try.prog cx_unpack_chain 78 sh_slices_Backward_int_int__c1.o sh_slices_Backward_int_int__c1.q
theorem cx_slices_Backward_int_int__c1.ok : CxOk cx_slices_Backward_int_int__c1 := by
  refine CxOk.add cx_unpack_chain.ok rfl (fun CV hcv xs K w hx h => ?_) (fun CV hcv xs K w hx h => ?_)
  · unfold sh_slices_Backward_int_int__c1.o at h; split at h
    · rename_i v0 E0 free1; exact sh_slices_Backward_int_int__c1.calls CV v0 E0 free1 hx hcv h
    · exact h.elim
  · unfold sh_slices_Backward_int_int__c1.q at h; exact h.elim
def sh_slices_Backward_int_int.plan : Plan := (.seq .o (.seq .o .o))
noncomputable def sh_slices_Backward_int_int.o (CV : CVT) (xs : List X) (K : Value → World → Prop) (w : World) : Prop := match Nat.ble xs.length Try.f45.ntmps with | true => denF (cx_slices_Backward_int_int__c1.with CV) Try.f45 sh_slices_Backward_int_int.plan xs w K | false => False
noncomputable def cx_slices_Backward_int_int : Cx := Cx.add Try.prog cx_slices_Backward_int_int__c1 45 sh_slices_Backward_int_int.o (fun _ _ _ _ => False)
theorem cx_slices_Backward_int_int.ok : CxOk cx_slices_Backward_int_int := by
  refine CxOk.add cx_slices_Backward_int_int__c1.ok rfl (fun CV hcv xs K w hx h => ?_) (fun CV hcv xs K w hx h => h.elim)
  unfold sh_slices_Backward_int_int.o at h; split at h
  · rename_i hb; exact calls_den (cx := cx_slices_Backward_int_int__c1.with CV) mixed_Try (cx_slices_Backward_int_int__c1.ok.with CV) hcv Try.func45 sh_slices_Backward_int_int.plan hx (Nat.le_of_ble_eq_true hb) h
  · exact h.elim
def sh_unpack_Climb.plan : Plan := (.seq .o (.seq .o (.seq (.seq .o (.cond (.seq .o .o) .o)) (.seq .o (.seq (.seq .o (.block (.rng [9] [] .o (.block .o)))) (.seq .o .o))))))
theorem sh_unpack_Climb.is (CV : CVT) (h0 : Option Addr) (s0 : Int) (m0 : Int) (w : World) (R : Value → World → Prop) : sh_unpack_Climb CV h0 s0 m0 (fun r0 r1 w' => R (.tuple #[(.slice r0.a r0.len r0.cap), (.bool r1)]) w') w = denF (cx_slices_Backward_int_int.with CV) Try.f22 sh_unpack_Climb.plan [.v (.pointer h0), .v (.int .i64 s0), .v (.int .i64 m0)] w R := by kernel_rfl
theorem sh_unpack_Climb.calls (CV : CVT) (h0 : Option Addr) (s0 : Int) (m0 : Int) (hcv : CVOk Try.prog CV) {w : World} {R : Ending → World → Prop} (h : sh_unpack_Climb CV h0 s0 m0 (fun r0 r1 w' => R (.returned (.tuple #[(.slice r0.a r0.len r0.cap), (.bool r1)])) w') w) : Calls Try.prog 22 #[(.pointer h0), (.int .i64 s0), (.int .i64 m0)] w R :=
  calls_is (cx := cx_slices_Backward_int_int.with CV) mixed_Try (cx_slices_Backward_int_int.ok.with CV) hcv Try.func22 sh_unpack_Climb.plan (xs := [.v (.pointer h0), .v (.int .i64 s0), .v (.int .i64 m0)]) ((args_cons _ (args_cons _ (args_cons _ args_nil)))) (by kernel_rfl) (sh_unpack_Climb.is CV h0 s0 m0 w (fun v w' => R (.returned v) w')) h
def sh_unpack_Climb.o : CVT → List X → (Value → World → Prop) → World → Prop
  | CV, [.v (.pointer h0), .v (.int .i64 s0), .v (.int .i64 m0)], K, w => sh_unpack_Climb CV h0 s0 m0 (fun r0 r1 w' => K (.tuple #[(.slice r0.a r0.len r0.cap), (.bool r1)]) w') w
  | _, _, _, _ => False
def sh_unpack_Climb.q : CVT → List X → World → (Value → Prop) → Prop
  | CV, [.v (.pointer h0), .v (.int .i64 s0), .v (.int .i64 m0)], w, K => Quiet (SV × Bool) (fun r => (.tuple #[(.slice r.1.a r.1.len r.1.cap), (.bool r.2)])) (fun K1 w' => sh_unpack_Climb CV h0 s0 m0 (fun r0 r1 w'' => K1 (r0, r1) w'') w') w (fun r => K (.tuple #[(.slice r.1.a r.1.len r.1.cap), (.bool r.2)]))
  | _, _, _, _ => False
noncomputable def cx_unpack_Climb : Cx := Cx.add Try.prog cx_slices_Backward_int_int 22 sh_unpack_Climb.o sh_unpack_Climb.q
theorem cx_unpack_Climb.ok : CxOk cx_unpack_Climb := by
  refine CxOk.add cx_slices_Backward_int_int.ok rfl (fun CV hcv xs K w hx h => ?_) (fun CV hcv xs K w hx h => ?_)
  · unfold sh_unpack_Climb.o at h; split at h
    · rename_i h0 s0 m0; exact sh_unpack_Climb.calls CV h0 s0 m0 hcv h
    · exact h.elim
  · unfold sh_unpack_Climb.q at h; split at h
    · rename_i h0 s0 m0; obtain ⟨r, h1, h2⟩ := h; exact ⟨_, h2, fun w' e => sh_unpack_Climb.calls CV h0 s0 m0 hcv (h1 w' e)⟩
    · exact h.elim
def sh_hier_Hier_Down.plan : Plan := (.seq .o (.seq (.seq .o (.cond (.seq .o .o) .o)) (.seq .o .o)))
theorem sh_hier_Hier_Down.is (CV : CVT) (h0 : Option Addr) (v0 : Int) (w : World) (R : Value → World → Prop) : sh_hier_Hier_Down h0 v0 (fun r0 w' => R (.slice r0.a r0.len r0.cap) w') w = denF (cx_unpack_Climb.with CV) Try.f82 sh_hier_Hier_Down.plan [.v (.pointer h0), .v (.int .i64 v0)] w R := by kernel_rfl
theorem sh_hier_Hier_Down.calls (CV : CVT) (h0 : Option Addr) (v0 : Int) (hcv : CVOk Try.prog CV) {w : World} {R : Ending → World → Prop} (h : sh_hier_Hier_Down h0 v0 (fun r0 w' => R (.returned (.slice r0.a r0.len r0.cap)) w') w) : Calls Try.prog 82 #[(.pointer h0), (.int .i64 v0)] w R :=
  calls_is (cx := cx_unpack_Climb.with CV) mixed_Try (cx_unpack_Climb.ok.with CV) hcv Try.func82 sh_hier_Hier_Down.plan (xs := [.v (.pointer h0), .v (.int .i64 v0)]) ((args_cons _ (args_cons _ args_nil))) (by kernel_rfl) (sh_hier_Hier_Down.is CV h0 v0 w (fun v w' => R (.returned v) w')) h
def sh_hier_Hier_Down.o : CVT → List X → (Value → World → Prop) → World → Prop
  | CV, [.v (.pointer h0), .v (.int .i64 v0)], K, w => sh_hier_Hier_Down h0 v0 (fun r0 w' => K (.slice r0.a r0.len r0.cap) w') w
  | _, _, _, _ => False
def sh_hier_Hier_Down.q : CVT → List X → World → (Value → Prop) → Prop
  | CV, [.v (.pointer h0), .v (.int .i64 v0)], w, K => Quiet (SV) (fun r => (.slice r.a r.len r.cap)) (fun K1 w' => sh_hier_Hier_Down h0 v0 (fun r0 w'' => K1 r0 w'') w') w (fun r => K (.slice r.a r.len r.cap))
  | _, _, _, _ => False
noncomputable def cx_hier_Hier_Down : Cx := Cx.add Try.prog cx_unpack_Climb 82 sh_hier_Hier_Down.o sh_hier_Hier_Down.q
theorem cx_hier_Hier_Down.ok : CxOk cx_hier_Hier_Down := by
  refine CxOk.add cx_unpack_Climb.ok rfl (fun CV hcv xs K w hx h => ?_) (fun CV hcv xs K w hx h => ?_)
  · unfold sh_hier_Hier_Down.o at h; split at h
    · rename_i h0 v0; exact sh_hier_Hier_Down.calls CV h0 v0 hcv h
    · exact h.elim
  · unfold sh_hier_Hier_Down.q at h; split at h
    · rename_i h0 v0; obtain ⟨r, h1, h2⟩ := h; exact ⟨_, h2, fun w' e => sh_hier_Hier_Down.calls CV h0 v0 hcv (h1 w' e)⟩
    · exact h.elim
def sh_space_Back.plan : Plan := (.seq .o (.seq .o .o))
theorem sh_space_Back.is (CV : CVT) (h0 : Option Addr) (v0 : Int) (w : World) (R : Value → World → Prop) : sh_space_Back CV h0 v0 (fun r0 w' => R (.slice r0.a r0.len r0.cap) w') w = denF (cx_hier_Hier_Down.with CV) Try.f48 sh_space_Back.plan [.v (.pointer h0), .v (.int .i64 v0)] w R := by kernel_rfl
theorem sh_space_Back.calls (CV : CVT) (h0 : Option Addr) (v0 : Int) (hcv : CVOk Try.prog CV) {w : World} {R : Ending → World → Prop} (h : sh_space_Back CV h0 v0 (fun r0 w' => R (.returned (.slice r0.a r0.len r0.cap)) w') w) : Calls Try.prog 48 #[(.pointer h0), (.int .i64 v0)] w R :=
  calls_is (cx := cx_hier_Hier_Down.with CV) mixed_Try (cx_hier_Hier_Down.ok.with CV) hcv Try.func48 sh_space_Back.plan (xs := [.v (.pointer h0), .v (.int .i64 v0)]) ((args_cons _ (args_cons _ args_nil))) (by kernel_rfl) (sh_space_Back.is CV h0 v0 w (fun v w' => R (.returned v) w')) h
def sh_space_Back.o : CVT → List X → (Value → World → Prop) → World → Prop
  | CV, [.v (.pointer h0), .v (.int .i64 v0)], K, w => sh_space_Back CV h0 v0 (fun r0 w' => K (.slice r0.a r0.len r0.cap) w') w
  | _, _, _, _ => False
def sh_space_Back.q : CVT → List X → World → (Value → Prop) → Prop
  | CV, [.v (.pointer h0), .v (.int .i64 v0)], w, K => Quiet (SV) (fun r => (.slice r.a r.len r.cap)) (fun K1 w' => sh_space_Back CV h0 v0 (fun r0 w'' => K1 r0 w'') w') w (fun r => K (.slice r.a r.len r.cap))
  | _, _, _, _ => False
noncomputable def cx_space_Back : Cx := Cx.add Try.prog cx_hier_Hier_Down 48 sh_space_Back.o sh_space_Back.q
theorem cx_space_Back.ok : CxOk cx_space_Back := by
  refine CxOk.add cx_hier_Hier_Down.ok rfl (fun CV hcv xs K w hx h => ?_) (fun CV hcv xs K w hx h => ?_)
  · unfold sh_space_Back.o at h; split at h
    · rename_i h0 v0; exact sh_space_Back.calls CV h0 v0 hcv h
    · exact h.elim
  · unfold sh_space_Back.q at h; split at h
    · rename_i h0 v0; obtain ⟨r, h1, h2⟩ := h; exact ⟨_, h2, fun w' e => sh_space_Back.calls CV h0 v0 hcv (h1 w' e)⟩
    · exact h.elim
def sh_unpack_Fall_c1.plan : Plan := (.seq .o (.seq .o .o))
theorem sh_unpack_Fall_c1.is (CV : CVT) (u0 : Int) (v0 : Int) (free2 : Addr) (w : World) (R : Value → World → Prop) : sh_unpack_Fall_c1 u0 v0 free2 (fun r0 w' => R (.int .i64 r0) w') w = denF (cx_space_Back.with CV) Try.f49 sh_unpack_Fall_c1.plan [.v (.int .i64 u0), .v (.int .i64 v0), .v (.pointer (some free2))] w R := by kernel_rfl
theorem sh_unpack_Fall_c1.calls (CV : CVT) (u0 : Int) (v0 : Int) (free2 : Addr) (hcv : CVOk Try.prog CV) {w : World} {R : Ending → World → Prop} (h : sh_unpack_Fall_c1 u0 v0 free2 (fun r0 w' => R (.returned (.int .i64 r0)) w') w) : Calls Try.prog 49 #[(.int .i64 u0), (.int .i64 v0), (.pointer (some free2))] w R :=
  calls_is (cx := cx_space_Back.with CV) mixed_Try (cx_space_Back.ok.with CV) hcv Try.func49 sh_unpack_Fall_c1.plan (xs := [.v (.int .i64 u0), .v (.int .i64 v0), .v (.pointer (some free2))]) ((args_cons _ (args_cons _ (args_cons _ args_nil)))) (by kernel_rfl) (sh_unpack_Fall_c1.is CV u0 v0 free2 w (fun v w' => R (.returned v) w')) h
def sh_unpack_Fall_c1.o : CVT → List X → (Value → World → Prop) → World → Prop
  | CV, [.v (.int .i64 u0), .v (.int .i64 v0), .v (.pointer (some free2))], K, w => sh_unpack_Fall_c1 u0 v0 free2 (fun r0 w' => K (.int .i64 r0) w') w
  | _, _, _, _ => False
def sh_unpack_Fall_c1.q : CVT → List X → World → (Value → Prop) → Prop
  | CV, [.v (.int .i64 u0), .v (.int .i64 v0), .v (.pointer (some free2))], w, K => Quiet (Int) (fun r => (.int .i64 r)) (fun K1 w' => sh_unpack_Fall_c1 u0 v0 free2 (fun r0 w'' => K1 r0 w'') w') w (fun r => K (.int .i64 r))
  | _, _, _, _ => False
noncomputable def cx_unpack_Fall_c1 : Cx := Cx.add Try.prog cx_space_Back 49 sh_unpack_Fall_c1.o sh_unpack_Fall_c1.q
theorem cx_unpack_Fall_c1.ok : CxOk cx_unpack_Fall_c1 := by
  refine CxOk.add cx_space_Back.ok rfl (fun CV hcv xs K w hx h => ?_) (fun CV hcv xs K w hx h => ?_)
  · unfold sh_unpack_Fall_c1.o at h; split at h
    · rename_i u0 v0 free2; exact sh_unpack_Fall_c1.calls CV u0 v0 free2 hcv h
    · exact h.elim
  · unfold sh_unpack_Fall_c1.q at h; split at h
    · rename_i u0 v0 free2; obtain ⟨r, h1, h2⟩ := h; exact ⟨_, h2, fun w' e => sh_unpack_Fall_c1.calls CV u0 v0 free2 hcv (h1 w' e)⟩
    · exact h.elim
end Go.Sh
