/- AllOk, SpCV, UnCVt, Open, RowK: merged into one text. -/
import Derived.Test.YtagidkbhehpeoaaP3
import Derived.Test.YtagidkbhehpeoaaP5
import Derived.Test.YtagidkbhehpeoaaP4
import Derived.Test.YtagidkbhehpeoaaP2
import Derived.ProofKit
import Derived.OpenShut
import Derived.Test.YtagidkbhehpeoaaRows
import Derived.WalkKit
import Derived.SizedLaws
/- The shallow definitions are what the code asks; printed by gen.py of these sessions. -/
set_option maxRecDepth 100000
set_option linter.unusedVariables false
namespace Go.Sh
open Go.Proofs
def sh_unpack_Fall.plan : Plan := (.seq .o (.seq .o (.seq (.seq .o (.cond (.seq .o .o) .o)) (.seq .o .o))))
theorem sh_unpack_Fall.is (CV : CVT) (h0 : Option Addr) (m0 : Int) (t0 : Int) (w : World) (R : Value → World → Prop) : sh_unpack_Fall CV h0 m0 t0 (fun r0 r1 w' => R (.tuple #[(.slice r0.a r0.len r0.cap), (.bool r1)]) w') w = denF (cx_unpack_Fall_c1.with CV) Try.f23 sh_unpack_Fall.plan [.v (.pointer h0), .v (.int .i64 m0), .v (.int .i64 t0)] w R := by kernel_rfl
theorem sh_unpack_Fall.calls (CV : CVT) (h0 : Option Addr) (m0 : Int) (t0 : Int) (hcv : CVOk Try.prog CV) {w : World} {R : Ending → World → Prop} (h : sh_unpack_Fall CV h0 m0 t0 (fun r0 r1 w' => R (.returned (.tuple #[(.slice r0.a r0.len r0.cap), (.bool r1)])) w') w) : Calls Try.prog 23 #[(.pointer h0), (.int .i64 m0), (.int .i64 t0)] w R :=
  calls_is (cx := cx_unpack_Fall_c1.with CV) mixed_Try (cx_unpack_Fall_c1.ok.with CV) hcv Try.func23 sh_unpack_Fall.plan (xs := [.v (.pointer h0), .v (.int .i64 m0), .v (.int .i64 t0)]) ((args_cons _ (args_cons _ (args_cons _ args_nil)))) (by kernel_rfl) (sh_unpack_Fall.is CV h0 m0 t0 w (fun v w' => R (.returned v) w')) h
def sh_unpack_Fall.o : CVT → List X → (Value → World → Prop) → World → Prop
  | CV, [.v (.pointer h0), .v (.int .i64 m0), .v (.int .i64 t0)], K, w => sh_unpack_Fall CV h0 m0 t0 (fun r0 r1 w' => K (.tuple #[(.slice r0.a r0.len r0.cap), (.bool r1)]) w') w
  | _, _, _, _ => False
def sh_unpack_Fall.q : CVT → List X → World → (Value → Prop) → Prop
  | CV, [.v (.pointer h0), .v (.int .i64 m0), .v (.int .i64 t0)], w, K => Quiet (SV × Bool) (fun r => (.tuple #[(.slice r.1.a r.1.len r.1.cap), (.bool r.2)])) (fun K1 w' => sh_unpack_Fall CV h0 m0 t0 (fun r0 r1 w'' => K1 (r0, r1) w'') w') w (fun r => K (.tuple #[(.slice r.1.a r.1.len r.1.cap), (.bool r.2)]))
  | _, _, _, _ => False
noncomputable def cx_unpack_Fall : Cx := Cx.add Try.prog cx_unpack_Fall_c1 23 sh_unpack_Fall.o sh_unpack_Fall.q
theorem cx_unpack_Fall.ok : CxOk cx_unpack_Fall := by
  refine CxOk.add cx_unpack_Fall_c1.ok rfl (fun CV hcv xs K w hx h => ?_) (fun CV hcv xs K w hx h => ?_)
  · unfold sh_unpack_Fall.o at h; split at h
    · rename_i h0 m0 t0; exact sh_unpack_Fall.calls CV h0 m0 t0 hcv h
    · exact h.elim
  · unfold sh_unpack_Fall.q at h; split at h
    · rename_i h0 m0 t0; obtain ⟨r, h1, h2⟩ := h; exact ⟨_, h2, fun w' e => sh_unpack_Fall.calls CV h0 m0 t0 hcv (h1 w' e)⟩
    · exact h.elim
def sh_postroadlaw13_UnpackSelf.plan : Plan := (.seq .o (.seq (.seq .o (.cond (.seq .o .o) .o)) (.seq .o (.seq .o (.seq .o (.seq .o (.seq (.seq .o (.cond (.seq .o .o) .o)) (.seq .o (.seq .o (.join [.slot 15 (.int .i64)] [] (.seq .o (.block (.loop [.slot 15 (.int .i64), .slot 16 (.int .i64)] [] (.seq (.seq .o (.cond .o .o)) (.seq (.block (.seq .o (.seq (.seq .o (.cond (.seq .o .o) .o)) .o))) .o))))) (.seq .o .o)))))))))))
theorem sh_postroadlaw13_UnpackSelf.is (CV : CVT) (h0_Rank : SV) (h0_Ways : SV) (v0 : Int) (m0 : Int) (w : World) (R : Value → World → Prop) : sh_postroadlaw13_UnpackSelf CV h0_Rank h0_Ways v0 m0 (fun r0 w' => R (.bool r0) w') w = denF (cx_unpack_Fall.with CV) Try.f6 sh_postroadlaw13_UnpackSelf.plan [.v (.agg #[(.slice h0_Rank.a h0_Rank.len h0_Rank.cap), (.slice h0_Ways.a h0_Ways.len h0_Ways.cap)]), .v (.int .i64 v0), .v (.int .i64 m0)] w R := by kernel_rfl
theorem sh_postroadlaw13_UnpackSelf.calls (CV : CVT) (h0_Rank : SV) (h0_Ways : SV) (v0 : Int) (m0 : Int) (hcv : CVOk Try.prog CV) {w : World} {R : Ending → World → Prop} (h : sh_postroadlaw13_UnpackSelf CV h0_Rank h0_Ways v0 m0 (fun r0 w' => R (.returned (.bool r0)) w') w) : Calls Try.prog 6 #[(.agg #[(.slice h0_Rank.a h0_Rank.len h0_Rank.cap), (.slice h0_Ways.a h0_Ways.len h0_Ways.cap)]), (.int .i64 v0), (.int .i64 m0)] w R :=
  calls_is (cx := cx_unpack_Fall.with CV) mixed_Try (cx_unpack_Fall.ok.with CV) hcv Try.func6 sh_postroadlaw13_UnpackSelf.plan (xs := [.v (.agg #[(.slice h0_Rank.a h0_Rank.len h0_Rank.cap), (.slice h0_Ways.a h0_Ways.len h0_Ways.cap)]), .v (.int .i64 v0), .v (.int .i64 m0)]) ((args_cons _ (args_cons _ (args_cons _ args_nil)))) (by kernel_rfl) (sh_postroadlaw13_UnpackSelf.is CV h0_Rank h0_Ways v0 m0 w (fun v w' => R (.returned v) w')) h
def sh_postroadlaw13_UnpackSelf.o : CVT → List X → (Value → World → Prop) → World → Prop
  | CV, [.v (.agg ⟨[.slice h0_Rank_a h0_Rank_l h0_Rank_c, .slice h0_Ways_a h0_Ways_l h0_Ways_c]⟩), .v (.int .i64 v0), .v (.int .i64 m0)], K, w => sh_postroadlaw13_UnpackSelf CV ⟨h0_Rank_a, h0_Rank_l, h0_Rank_c⟩ ⟨h0_Ways_a, h0_Ways_l, h0_Ways_c⟩ v0 m0 (fun r0 w' => K (.bool r0) w') w
  | _, _, _, _ => False
def sh_postroadlaw13_UnpackSelf.q : CVT → List X → World → (Value → Prop) → Prop
  | CV, [.v (.agg ⟨[.slice h0_Rank_a h0_Rank_l h0_Rank_c, .slice h0_Ways_a h0_Ways_l h0_Ways_c]⟩), .v (.int .i64 v0), .v (.int .i64 m0)], w, K => Quiet (Bool) (fun r => (.bool r)) (fun K1 w' => sh_postroadlaw13_UnpackSelf CV ⟨h0_Rank_a, h0_Rank_l, h0_Rank_c⟩ ⟨h0_Ways_a, h0_Ways_l, h0_Ways_c⟩ v0 m0 (fun r0 w'' => K1 r0 w'') w') w (fun r => K (.bool r))
  | _, _, _, _ => False
noncomputable def cx_postroadlaw13_UnpackSelf : Cx := Cx.add Try.prog cx_unpack_Fall 6 sh_postroadlaw13_UnpackSelf.o sh_postroadlaw13_UnpackSelf.q
theorem cx_postroadlaw13_UnpackSelf.ok : CxOk cx_postroadlaw13_UnpackSelf := by
  refine CxOk.add cx_unpack_Fall.ok rfl (fun CV hcv xs K w hx h => ?_) (fun CV hcv xs K w hx h => ?_)
  · unfold sh_postroadlaw13_UnpackSelf.o at h; split at h
    · rename_i h0_Rank_a h0_Rank_l h0_Rank_c h0_Ways_a h0_Ways_l h0_Ways_c v0 m0; exact sh_postroadlaw13_UnpackSelf.calls CV ⟨h0_Rank_a, h0_Rank_l, h0_Rank_c⟩ ⟨h0_Ways_a, h0_Ways_l, h0_Ways_c⟩ v0 m0 hcv h
    · exact h.elim
  · unfold sh_postroadlaw13_UnpackSelf.q at h; split at h
    · rename_i h0_Rank_a h0_Rank_l h0_Rank_c h0_Ways_a h0_Ways_l h0_Ways_c v0 m0; obtain ⟨r, h1, h2⟩ := h; exact ⟨_, h2, fun w' e => sh_postroadlaw13_UnpackSelf.calls CV ⟨h0_Rank_a, h0_Rank_l, h0_Rank_c⟩ ⟨h0_Ways_a, h0_Ways_l, h0_Ways_c⟩ v0 m0 hcv (h1 w' e)⟩
    · exact h.elim
def sh_postroadref11_Climb.plan : Plan := (.seq .o (.seq .o (.seq .o (.join [] [] (.seq .o (.block (.loop [.slot 11 (.int .i64)] [] (.seq (.seq .o (.cond .o .o)) (.seq (.block .o) .o))))) (.seq (.seq .o (.cond (.seq .o .o) .o)) (.seq .o (.seq (.seq .o (.block (.loop [.slot 12 .bool] [] (.seq (.seq .o (.cond .o .o)) (.block (.seq .o (.seq .o (.block (.loop [.slot 12 .bool, .slot 13 (.int .i64)] [] (.seq (.seq .o (.cond .o .o)) (.join [.slot 12 .bool] [] (.block (.seq .o (.seq .o (.join [.slot 14 (.int .i64), .slot 15 (.int .i64)] [] (.seq .o (.cond (.seq .o .o) .o)) (.seq (.draw [] [.pure, .pure, .pure, .quiet, .pure, .pure, .pure, .loc, .pure, .pure, .quiet, .pure, .pure, .pure, .pure, .pure, .loc, .pure, .pure, .quiet, .pure, .loc, .pure, .pure, .quiet, .pure, .pure, .pure, .pure, .pure, .pure, .quiet, .pure, .pure, .pure, .pure, .pure, .quiet, .pure, .loc, .pure, .pure, .pure, .pure, .quiet, .pure, .pure, .pure, .pure, .quiet, .pure, .pure, .pure] [0, 1, 2, 3, 4, 5, 6, 7, 8, 9, 10, 11, 12, 13, 14, 15, 16, 17, 18, 19, 20, 21, 22, 23, 24, 25, 26, 27, 28, 29, 30, 31, 32, 33, 34, 35, 36, 37, 38, 39, 40, 41, 42, 43, 44, 45, 46, 47, 48, 49, 50, 51, 52]) (.cond (.seq (.draw [] [.pure, .pure, .pure, .pure, .pure, .quiet, .pure, .loc, .pure, .pure, .pure, .pure, .quiet, .pure, .pure, .big] [0, 1, 2, 3, 4, 5, 6, 7, 8, 9, 10, 11, 12, 13, 14, 15]) .o) .o)))))) .o))))))))))) (.seq .o .o))))))))
theorem sh_postroadref11_Climb.is (CV : CVT) (h0_Rank : SV) (h0_Ways : SV) (v0 : Int) (top0 : Int) (back0 : Bool) (w : World) (R : Value → World → Prop) : sh_postroadref11_Climb h0_Rank h0_Ways v0 top0 back0 (fun r0 w' => R (.slice r0.a r0.len r0.cap) w') w = denF (cx_postroadlaw13_UnpackSelf.with CV) Try.f51 sh_postroadref11_Climb.plan [.v (.agg #[(.slice h0_Rank.a h0_Rank.len h0_Rank.cap), (.slice h0_Ways.a h0_Ways.len h0_Ways.cap)]), .v (.int .i64 v0), .v (.int .i64 top0), .v (.bool back0)] w R := by kernel_rfl
theorem sh_postroadref11_Climb.calls (CV : CVT) (h0_Rank : SV) (h0_Ways : SV) (v0 : Int) (top0 : Int) (back0 : Bool) (hcv : CVOk Try.prog CV) {w : World} {R : Ending → World → Prop} (h : sh_postroadref11_Climb h0_Rank h0_Ways v0 top0 back0 (fun r0 w' => R (.returned (.slice r0.a r0.len r0.cap)) w') w) : Calls Try.prog 51 #[(.agg #[(.slice h0_Rank.a h0_Rank.len h0_Rank.cap), (.slice h0_Ways.a h0_Ways.len h0_Ways.cap)]), (.int .i64 v0), (.int .i64 top0), (.bool back0)] w R :=
  calls_is (cx := cx_postroadlaw13_UnpackSelf.with CV) mixed_Try (cx_postroadlaw13_UnpackSelf.ok.with CV) hcv Try.func51 sh_postroadref11_Climb.plan (xs := [.v (.agg #[(.slice h0_Rank.a h0_Rank.len h0_Rank.cap), (.slice h0_Ways.a h0_Ways.len h0_Ways.cap)]), .v (.int .i64 v0), .v (.int .i64 top0), .v (.bool back0)]) ((args_cons _ (args_cons _ (args_cons _ (args_cons _ args_nil))))) (by kernel_rfl) (sh_postroadref11_Climb.is CV h0_Rank h0_Ways v0 top0 back0 w (fun v w' => R (.returned v) w')) h
def sh_postroadref11_Climb.o : CVT → List X → (Value → World → Prop) → World → Prop
  | CV, [.v (.agg ⟨[.slice h0_Rank_a h0_Rank_l h0_Rank_c, .slice h0_Ways_a h0_Ways_l h0_Ways_c]⟩), .v (.int .i64 v0), .v (.int .i64 top0), .v (.bool back0)], K, w => sh_postroadref11_Climb ⟨h0_Rank_a, h0_Rank_l, h0_Rank_c⟩ ⟨h0_Ways_a, h0_Ways_l, h0_Ways_c⟩ v0 top0 back0 (fun r0 w' => K (.slice r0.a r0.len r0.cap) w') w
  | _, _, _, _ => False
def sh_postroadref11_Climb.q : CVT → List X → World → (Value → Prop) → Prop
  | CV, [.v (.agg ⟨[.slice h0_Rank_a h0_Rank_l h0_Rank_c, .slice h0_Ways_a h0_Ways_l h0_Ways_c]⟩), .v (.int .i64 v0), .v (.int .i64 top0), .v (.bool back0)], w, K => Quiet (SV) (fun r => (.slice r.a r.len r.cap)) (fun K1 w' => sh_postroadref11_Climb ⟨h0_Rank_a, h0_Rank_l, h0_Rank_c⟩ ⟨h0_Ways_a, h0_Ways_l, h0_Ways_c⟩ v0 top0 back0 (fun r0 w'' => K1 r0 w'') w') w (fun r => K (.slice r.a r.len r.cap))
  | _, _, _, _ => False
noncomputable def cx_postroadref11_Climb : Cx := Cx.add Try.prog cx_postroadlaw13_UnpackSelf 51 sh_postroadref11_Climb.o sh_postroadref11_Climb.q
theorem cx_postroadref11_Climb.ok : CxOk cx_postroadref11_Climb := by
  refine CxOk.add cx_postroadlaw13_UnpackSelf.ok rfl (fun CV hcv xs K w hx h => ?_) (fun CV hcv xs K w hx h => ?_)
  · unfold sh_postroadref11_Climb.o at h; split at h
    · rename_i h0_Rank_a h0_Rank_l h0_Rank_c h0_Ways_a h0_Ways_l h0_Ways_c v0 top0 back0; exact sh_postroadref11_Climb.calls CV ⟨h0_Rank_a, h0_Rank_l, h0_Rank_c⟩ ⟨h0_Ways_a, h0_Ways_l, h0_Ways_c⟩ v0 top0 back0 hcv h
    · exact h.elim
  · unfold sh_postroadref11_Climb.q at h; split at h
    · rename_i h0_Rank_a h0_Rank_l h0_Rank_c h0_Ways_a h0_Ways_l h0_Ways_c v0 top0 back0; obtain ⟨r, h1, h2⟩ := h; exact ⟨_, h2, fun w' e => sh_postroadref11_Climb.calls CV ⟨h0_Rank_a, h0_Rank_l, h0_Rank_c⟩ ⟨h0_Ways_a, h0_Ways_l, h0_Ways_c⟩ v0 top0 back0 hcv (h1 w' e)⟩
    · exact h.elim
def sh_postroadref13_Climb.plan : Plan := (.seq .o (.seq .o (.seq (.seq .o (.cond (.seq .o .o) .o)) (.seq .o (.join [.slot 9 .slice] [] (.seq .o (.block (.loop [.slot 9 .slice, .slot 10 (.int .i64)] [] (.seq (.seq .o (.cond .o .o)) (.block (.seq .o (.join [.slot 11 (.int .i64)] [] (.seq .o (.block (.loop [.slot 11 (.int .i64), .slot 12 (.int .i64)] [] (.seq (.seq .o (.cond .o .o)) (.join [.slot 11 (.int .i64)] [] (.block (.seq .o (.seq (.draw [] [.pure, .loc, .pure, .pure, .pure, .pure, .loc, .pure, .loc, .pure, .quiet, .pure, .loc, .pure, .pure, .quiet, .pure, .pure, .pure, .pure, .pure, .loc, .pure, .quiet, .pure, .pure, .pure, .pure, .pure, .loc, .pure, .quiet, .pure, .pure, .loc, .pure, .pure, .pure, .pure, .quiet, .pure, .pure] [0, 1, 2, 3, 4, 5, 6, 7, 8, 9, 10, 11, 12, 13, 14, 15, 16, 17, 18, 19, 20, 21, 22, 23, 24, 25, 26, 27, 28, 29, 30, 31, 32, 33, 34, 35, 36, 37, 38, 39, 40, 41]) (.cond .o .o)))) .o))))) (.seq .o (.seq .o (.seq .o (.seq .o .o))))))))))) (.seq .o .o))))))
theorem sh_postroadref13_Climb.is (CV : CVT) (h0_Rank : SV) (h0_Ways : SV) (s0 : Int) (m0 : Int) (w : World) (R : Value → World → Prop) : sh_postroadref13_Climb h0_Rank h0_Ways s0 m0 (fun r0 r1 w' => R (.tuple #[(.slice r0.a r0.len r0.cap), (.bool r1)]) w') w = denF (cx_postroadref11_Climb.with CV) Try.f26 sh_postroadref13_Climb.plan [.v (.agg #[(.slice h0_Rank.a h0_Rank.len h0_Rank.cap), (.slice h0_Ways.a h0_Ways.len h0_Ways.cap)]), .v (.int .i64 s0), .v (.int .i64 m0)] w R := by kernel_rfl
theorem sh_postroadref13_Climb.calls (CV : CVT) (h0_Rank : SV) (h0_Ways : SV) (s0 : Int) (m0 : Int) (hcv : CVOk Try.prog CV) {w : World} {R : Ending → World → Prop} (h : sh_postroadref13_Climb h0_Rank h0_Ways s0 m0 (fun r0 r1 w' => R (.returned (.tuple #[(.slice r0.a r0.len r0.cap), (.bool r1)])) w') w) : Calls Try.prog 26 #[(.agg #[(.slice h0_Rank.a h0_Rank.len h0_Rank.cap), (.slice h0_Ways.a h0_Ways.len h0_Ways.cap)]), (.int .i64 s0), (.int .i64 m0)] w R :=
  calls_is (cx := cx_postroadref11_Climb.with CV) mixed_Try (cx_postroadref11_Climb.ok.with CV) hcv Try.func26 sh_postroadref13_Climb.plan (xs := [.v (.agg #[(.slice h0_Rank.a h0_Rank.len h0_Rank.cap), (.slice h0_Ways.a h0_Ways.len h0_Ways.cap)]), .v (.int .i64 s0), .v (.int .i64 m0)]) ((args_cons _ (args_cons _ (args_cons _ args_nil)))) (by kernel_rfl) (sh_postroadref13_Climb.is CV h0_Rank h0_Ways s0 m0 w (fun v w' => R (.returned v) w')) h
def sh_postroadref13_Climb.o : CVT → List X → (Value → World → Prop) → World → Prop
  | CV, [.v (.agg ⟨[.slice h0_Rank_a h0_Rank_l h0_Rank_c, .slice h0_Ways_a h0_Ways_l h0_Ways_c]⟩), .v (.int .i64 s0), .v (.int .i64 m0)], K, w => sh_postroadref13_Climb ⟨h0_Rank_a, h0_Rank_l, h0_Rank_c⟩ ⟨h0_Ways_a, h0_Ways_l, h0_Ways_c⟩ s0 m0 (fun r0 r1 w' => K (.tuple #[(.slice r0.a r0.len r0.cap), (.bool r1)]) w') w
  | _, _, _, _ => False
def sh_postroadref13_Climb.q : CVT → List X → World → (Value → Prop) → Prop
  | CV, [.v (.agg ⟨[.slice h0_Rank_a h0_Rank_l h0_Rank_c, .slice h0_Ways_a h0_Ways_l h0_Ways_c]⟩), .v (.int .i64 s0), .v (.int .i64 m0)], w, K => Quiet (SV × Bool) (fun r => (.tuple #[(.slice r.1.a r.1.len r.1.cap), (.bool r.2)])) (fun K1 w' => sh_postroadref13_Climb ⟨h0_Rank_a, h0_Rank_l, h0_Rank_c⟩ ⟨h0_Ways_a, h0_Ways_l, h0_Ways_c⟩ s0 m0 (fun r0 r1 w'' => K1 (r0, r1) w'') w') w (fun r => K (.tuple #[(.slice r.1.a r.1.len r.1.cap), (.bool r.2)]))
  | _, _, _, _ => False
noncomputable def cx_postroadref13_Climb : Cx := Cx.add Try.prog cx_postroadref11_Climb 26 sh_postroadref13_Climb.o sh_postroadref13_Climb.q
theorem cx_postroadref13_Climb.ok : CxOk cx_postroadref13_Climb := by
  refine CxOk.add cx_postroadref11_Climb.ok rfl (fun CV hcv xs K w hx h => ?_) (fun CV hcv xs K w hx h => ?_)
  · unfold sh_postroadref13_Climb.o at h; split at h
    · rename_i h0_Rank_a h0_Rank_l h0_Rank_c h0_Ways_a h0_Ways_l h0_Ways_c s0 m0; exact sh_postroadref13_Climb.calls CV ⟨h0_Rank_a, h0_Rank_l, h0_Rank_c⟩ ⟨h0_Ways_a, h0_Ways_l, h0_Ways_c⟩ s0 m0 hcv h
    · exact h.elim
  · unfold sh_postroadref13_Climb.q at h; split at h
    · rename_i h0_Rank_a h0_Rank_l h0_Rank_c h0_Ways_a h0_Ways_l h0_Ways_c s0 m0; obtain ⟨r, h1, h2⟩ := h; exact ⟨_, h2, fun w' e => sh_postroadref13_Climb.calls CV ⟨h0_Rank_a, h0_Rank_l, h0_Rank_c⟩ ⟨h0_Ways_a, h0_Ways_l, h0_Ways_c⟩ s0 m0 hcv (h1 w' e)⟩
    · exact h.elim
def sh_postroadref13_Fall.plan : Plan := (.seq .o (.seq .o (.seq (.seq .o (.cond (.seq .o .o) .o)) (.seq .o (.join [.slot 9 .slice] [] (.seq .o (.block (.loop [.slot 9 .slice, .slot 10 (.int .i64)] [] (.seq (.seq .o (.cond .o .o)) (.block (.seq .o (.join [.slot 11 (.int .i64)] [] (.seq .o (.block (.loop [.slot 11 (.int .i64), .slot 12 (.int .i64)] [] (.seq (.seq .o (.cond .o .o)) (.join [.slot 11 (.int .i64)] [] (.block (.seq .o (.seq (.draw [] [.pure, .loc, .pure, .pure, .pure, .pure, .loc, .pure, .loc, .pure, .quiet, .pure, .loc, .pure, .pure, .quiet, .pure, .pure, .pure, .pure, .pure, .loc, .pure, .quiet, .pure, .pure, .pure, .pure, .pure, .loc, .pure, .quiet, .pure, .pure, .loc, .pure, .pure, .pure, .pure, .quiet, .pure, .pure] [0, 1, 2, 3, 4, 5, 6, 7, 8, 9, 10, 11, 12, 13, 14, 15, 16, 17, 18, 19, 20, 21, 22, 23, 24, 25, 26, 27, 28, 29, 30, 31, 32, 33, 34, 35, 36, 37, 38, 39, 40, 41]) (.cond .o .o)))) .o))))) (.seq .o .o)))))))) (.seq .o .o))))))
theorem sh_postroadref13_Fall.is (CV : CVT) (h0_Rank : SV) (h0_Ways : SV) (m0 : Int) (t0 : Int) (w : World) (R : Value → World → Prop) : sh_postroadref13_Fall h0_Rank h0_Ways m0 t0 (fun r0 r1 w' => R (.tuple #[(.slice r0.a r0.len r0.cap), (.bool r1)]) w') w = denF (cx_postroadref13_Climb.with CV) Try.f27 sh_postroadref13_Fall.plan [.v (.agg #[(.slice h0_Rank.a h0_Rank.len h0_Rank.cap), (.slice h0_Ways.a h0_Ways.len h0_Ways.cap)]), .v (.int .i64 m0), .v (.int .i64 t0)] w R := by kernel_rfl
theorem sh_postroadref13_Fall.calls (CV : CVT) (h0_Rank : SV) (h0_Ways : SV) (m0 : Int) (t0 : Int) (hcv : CVOk Try.prog CV) {w : World} {R : Ending → World → Prop} (h : sh_postroadref13_Fall h0_Rank h0_Ways m0 t0 (fun r0 r1 w' => R (.returned (.tuple #[(.slice r0.a r0.len r0.cap), (.bool r1)])) w') w) : Calls Try.prog 27 #[(.agg #[(.slice h0_Rank.a h0_Rank.len h0_Rank.cap), (.slice h0_Ways.a h0_Ways.len h0_Ways.cap)]), (.int .i64 m0), (.int .i64 t0)] w R :=
  calls_is (cx := cx_postroadref13_Climb.with CV) mixed_Try (cx_postroadref13_Climb.ok.with CV) hcv Try.func27 sh_postroadref13_Fall.plan (xs := [.v (.agg #[(.slice h0_Rank.a h0_Rank.len h0_Rank.cap), (.slice h0_Ways.a h0_Ways.len h0_Ways.cap)]), .v (.int .i64 m0), .v (.int .i64 t0)]) ((args_cons _ (args_cons _ (args_cons _ args_nil)))) (by kernel_rfl) (sh_postroadref13_Fall.is CV h0_Rank h0_Ways m0 t0 w (fun v w' => R (.returned v) w')) h
def sh_postroadref13_Fall.o : CVT → List X → (Value → World → Prop) → World → Prop
  | CV, [.v (.agg ⟨[.slice h0_Rank_a h0_Rank_l h0_Rank_c, .slice h0_Ways_a h0_Ways_l h0_Ways_c]⟩), .v (.int .i64 m0), .v (.int .i64 t0)], K, w => sh_postroadref13_Fall ⟨h0_Rank_a, h0_Rank_l, h0_Rank_c⟩ ⟨h0_Ways_a, h0_Ways_l, h0_Ways_c⟩ m0 t0 (fun r0 r1 w' => K (.tuple #[(.slice r0.a r0.len r0.cap), (.bool r1)]) w') w
  | _, _, _, _ => False
def sh_postroadref13_Fall.q : CVT → List X → World → (Value → Prop) → Prop
  | CV, [.v (.agg ⟨[.slice h0_Rank_a h0_Rank_l h0_Rank_c, .slice h0_Ways_a h0_Ways_l h0_Ways_c]⟩), .v (.int .i64 m0), .v (.int .i64 t0)], w, K => Quiet (SV × Bool) (fun r => (.tuple #[(.slice r.1.a r.1.len r.1.cap), (.bool r.2)])) (fun K1 w' => sh_postroadref13_Fall ⟨h0_Rank_a, h0_Rank_l, h0_Rank_c⟩ ⟨h0_Ways_a, h0_Ways_l, h0_Ways_c⟩ m0 t0 (fun r0 r1 w'' => K1 (r0, r1) w'') w') w (fun r => K (.tuple #[(.slice r.1.a r.1.len r.1.cap), (.bool r.2)]))
  | _, _, _, _ => False
noncomputable def cx_postroadref13_Fall : Cx := Cx.add Try.prog cx_postroadref13_Climb 27 sh_postroadref13_Fall.o sh_postroadref13_Fall.q
theorem cx_postroadref13_Fall.ok : CxOk cx_postroadref13_Fall := by
  refine CxOk.add cx_postroadref13_Climb.ok rfl (fun CV hcv xs K w hx h => ?_) (fun CV hcv xs K w hx h => ?_)
  · unfold sh_postroadref13_Fall.o at h; split at h
    · rename_i h0_Rank_a h0_Rank_l h0_Rank_c h0_Ways_a h0_Ways_l h0_Ways_c m0 t0; exact sh_postroadref13_Fall.calls CV ⟨h0_Rank_a, h0_Rank_l, h0_Rank_c⟩ ⟨h0_Ways_a, h0_Ways_l, h0_Ways_c⟩ m0 t0 hcv h
    · exact h.elim
  · unfold sh_postroadref13_Fall.q at h; split at h
    · rename_i h0_Rank_a h0_Rank_l h0_Rank_c h0_Ways_a h0_Ways_l h0_Ways_c m0 t0; obtain ⟨r, h1, h2⟩ := h; exact ⟨_, h2, fun w' e => sh_postroadref13_Fall.calls CV ⟨h0_Rank_a, h0_Rank_l, h0_Rank_c⟩ ⟨h0_Ways_a, h0_Ways_l, h0_Ways_c⟩ m0 t0 hcv (h1 w' e)⟩
    · exact h.elim
def sh_space_common_c1.plan : Plan := (.block (.loop [] [] (.seq (.seq .o (.cond .o .o)) (.block (.seq (.draw [] [.quiet, .pure, .quiet, .rd, .pure, .rd, .new, .alc, .big, .big] [0, 1, 2, 3, 4, 5, 6, 7, 8, 9]) (.block (.seq .o (.cond .o (.seq .o (.cond .o (.seq (.seq .o (.cond .o .o)) (.draw [] [.quiet, .pure, .rd, .pure, .big, .big] [0, 1, 2, 3, 4, 5]))))))))))))
theorem sh_space_common_c1.is (CV : CVT) (v0 : Value) (E0 : List Value → (Bool → World → Prop) → World → Prop) (free1 : Addr) (free2 : Addr) (w : World) (R : Value → World → Prop) : sh_space_common_c1 (fun a0 a1 a2 a3 Ky wy => E0 [(.agg #[(.int .i64 a0), (.int .i64 a1)]), (.agg #[(.int .i64 a2), (.int .i64 a3)])] Ky wy) free1 free2 (fun w' => R (.tuple #[]) w') w = denF (cx_postroadref13_Fall.with CV) Try.f105 sh_space_common_c1.plan [.yl v0 E0, .v (.pointer (some free1)), .v (.pointer (some free2))] w R := by kernel_rfl
theorem sh_space_common_c1.calls (CV : CVT) (v0 : Value) (E0 : List Value → (Bool → World → Prop) → World → Prop) (free1 : Addr) (free2 : Addr) (hx : ∀ x ∈ [.yl v0 E0, .v (.pointer (some free1)), .v (.pointer (some free2))], ArgOk Try.prog x) (hcv : CVOk Try.prog CV) {w : World} {R : Ending → World → Prop} (h : sh_space_common_c1 (fun a0 a1 a2 a3 Ky wy => E0 [(.agg #[(.int .i64 a0), (.int .i64 a1)]), (.agg #[(.int .i64 a2), (.int .i64 a3)])] Ky wy) free1 free2 (fun w' => R (.returned (.tuple #[])) w') w) : Calls Try.prog 105 #[v0, (.pointer (some free1)), (.pointer (some free2))] w R :=
  calls_is (cx := cx_postroadref13_Fall.with CV) mixed_Try (cx_postroadref13_Fall.ok.with CV) hcv Try.func105 sh_space_common_c1.plan (xs := [.yl v0 E0, .v (.pointer (some free1)), .v (.pointer (some free2))]) hx (by kernel_rfl) (sh_space_common_c1.is CV v0 E0 free1 free2 w (fun v w' => R (.returned v) w')) h
def sh_space_common_c1.o : CVT → List X → (Value → World → Prop) → World → Prop
  | CV, [.yl v0 E0, .v (.pointer (some free1)), .v (.pointer (some free2))], K, w => sh_space_common_c1 (fun a0 a1 a2 a3 Ky wy => E0 [(.agg #[(.int .i64 a0), (.int .i64 a1)]), (.agg #[(.int .i64 a2), (.int .i64 a3)])] Ky wy) free1 free2 (fun w' => K (.tuple #[]) w') w
  | _, _, _, _ => False
def sh_space_common_c1.q : CVT → List X → World → (Value → Prop) → Prop := fun _ _ _ _ => False
noncomputable def cx_space_common_c1 : Cx := Cx.add Try.prog cx_postroadref13_Fall 105 sh_space_common_c1.o sh_space_common_c1.q
theorem cx_space_common_c1.ok : CxOk cx_space_common_c1 := by
  refine CxOk.add cx_postroadref13_Fall.ok rfl (fun CV hcv xs K w hx h => ?_) (fun CV hcv xs K w hx h => ?_)
  · unfold sh_space_common_c1.o at h; split at h
    · rename_i v0 E0 free1 free2; exact sh_space_common_c1.calls CV v0 E0 free1 free2 hx hcv h
    · exact h.elim
  · unfold sh_space_common_c1.q at h; exact h.elim
def sh_space_common.plan : Plan := (.seq .o (.seq .o .o))
noncomputable def sh_space_common.o (CV : CVT) (xs : List X) (K : Value → World → Prop) (w : World) : Prop := match Nat.ble xs.length Try.f98.ntmps with | true => denF (cx_space_common_c1.with CV) Try.f98 sh_space_common.plan xs w K | false => False
noncomputable def cx_space_common : Cx := Cx.add Try.prog cx_space_common_c1 98 sh_space_common.o (fun _ _ _ _ => False)
theorem cx_space_common.ok : CxOk cx_space_common := by
  refine CxOk.add cx_space_common_c1.ok rfl (fun CV hcv xs K w hx h => ?_) (fun CV hcv xs K w hx h => h.elim)
  unfold sh_space_common.o at h; split at h
  · rename_i hb; exact calls_den (cx := cx_space_common_c1.with CV) mixed_Try (cx_space_common_c1.ok.with CV) hcv Try.func98 sh_space_common.plan hx (Nat.le_of_ble_eq_true hb) h
  · exact h.elim
def sh_space_Meet.plan : Plan := (.seq .o (.seq .o (.seq (.seq .o (.block (.rng [6, 7] [] (.seq .o .o) (.block (.seq .o (.seq .o (.cond (.draw [] [.pure, .pure, .rd, .big, .big] [0, 1, 2, 3, 4]) .o))))))) (.seq (.draw [] [.quiet, .quiet, .pure, .pure] [0, 1, 2, 3]) .o))))
theorem sh_space_Meet.is (CV : CVT) (a0 : SV) (b0 : SV) (w : World) (R : Value → World → Prop) : sh_space_Meet a0 b0 (fun r0 r1 w' => R (.tuple #[(.int .i64 r0), (.int .i64 r1)]) w') w = denF (cx_space_common.with CV) Try.f83 sh_space_Meet.plan [.v (.slice a0.a a0.len a0.cap), .v (.slice b0.a b0.len b0.cap)] w R := by kernel_rfl
theorem sh_space_Meet.calls (CV : CVT) (a0 : SV) (b0 : SV) (hcv : CVOk Try.prog CV) {w : World} {R : Ending → World → Prop} (h : sh_space_Meet a0 b0 (fun r0 r1 w' => R (.returned (.tuple #[(.int .i64 r0), (.int .i64 r1)])) w') w) : Calls Try.prog 83 #[(.slice a0.a a0.len a0.cap), (.slice b0.a b0.len b0.cap)] w R :=
  calls_is (cx := cx_space_common.with CV) mixed_Try (cx_space_common.ok.with CV) hcv Try.func83 sh_space_Meet.plan (xs := [.v (.slice a0.a a0.len a0.cap), .v (.slice b0.a b0.len b0.cap)]) ((args_cons _ (args_cons _ args_nil))) (by kernel_rfl) (sh_space_Meet.is CV a0 b0 w (fun v w' => R (.returned v) w')) h
def sh_space_Meet.o : CVT → List X → (Value → World → Prop) → World → Prop
  | CV, [.v (.slice a0_a a0_l a0_c), .v (.slice b0_a b0_l b0_c)], K, w => sh_space_Meet ⟨a0_a, a0_l, a0_c⟩ ⟨b0_a, b0_l, b0_c⟩ (fun r0 r1 w' => K (.tuple #[(.int .i64 r0), (.int .i64 r1)]) w') w
  | _, _, _, _ => False
def sh_space_Meet.q : CVT → List X → World → (Value → Prop) → Prop
  | CV, [.v (.slice a0_a a0_l a0_c), .v (.slice b0_a b0_l b0_c)], w, K => Quiet (Int × Int) (fun r => (.tuple #[(.int .i64 r.1), (.int .i64 r.2)])) (fun K1 w' => sh_space_Meet ⟨a0_a, a0_l, a0_c⟩ ⟨b0_a, b0_l, b0_c⟩ (fun r0 r1 w'' => K1 (r0, r1) w'') w') w (fun r => K (.tuple #[(.int .i64 r.1), (.int .i64 r.2)]))
  | _, _, _, _ => False
noncomputable def cx_space_Meet : Cx := Cx.add Try.prog cx_space_common 83 sh_space_Meet.o sh_space_Meet.q
theorem cx_space_Meet.ok : CxOk cx_space_Meet := by
  refine CxOk.add cx_space_common.ok rfl (fun CV hcv xs K w hx h => ?_) (fun CV hcv xs K w hx h => ?_)
  · unfold sh_space_Meet.o at h; split at h
    · rename_i a0_a a0_l a0_c b0_a b0_l b0_c; exact sh_space_Meet.calls CV ⟨a0_a, a0_l, a0_c⟩ ⟨b0_a, b0_l, b0_c⟩ hcv h
    · exact h.elim
  · unfold sh_space_Meet.q at h; split at h
    · rename_i a0_a a0_l a0_c b0_a b0_l b0_c; obtain ⟨r, h1, h2⟩ := h; exact ⟨_, h2, fun w' e => sh_space_Meet.calls CV ⟨a0_a, a0_l, a0_c⟩ ⟨b0_a, b0_l, b0_c⟩ hcv (h1 w' e)⟩
    · exact h.elim
def sh_query_Where.plan : Plan := (.seq .o (.seq .o .o))
theorem sh_query_Where.is (CV : CVT) (h0 : Option Addr) (s0 : Int) (t0 : Int) (w : World) (R : Value → World → Prop) : sh_query_Where CV h0 s0 t0 (fun r0 r1 w' => R (.tuple #[(.int .i64 r0), (.int .i64 r1)]) w') w = denF (cx_space_Meet.with CV) Try.f52 sh_query_Where.plan [.v (.pointer h0), .v (.int .i64 s0), .v (.int .i64 t0)] w R := by kernel_rfl
theorem sh_query_Where.calls (CV : CVT) (h0 : Option Addr) (s0 : Int) (t0 : Int) (hcv : CVOk Try.prog CV) {w : World} {R : Ending → World → Prop} (h : sh_query_Where CV h0 s0 t0 (fun r0 r1 w' => R (.returned (.tuple #[(.int .i64 r0), (.int .i64 r1)])) w') w) : Calls Try.prog 52 #[(.pointer h0), (.int .i64 s0), (.int .i64 t0)] w R :=
  calls_is (cx := cx_space_Meet.with CV) mixed_Try (cx_space_Meet.ok.with CV) hcv Try.func52 sh_query_Where.plan (xs := [.v (.pointer h0), .v (.int .i64 s0), .v (.int .i64 t0)]) ((args_cons _ (args_cons _ (args_cons _ args_nil)))) (by kernel_rfl) (sh_query_Where.is CV h0 s0 t0 w (fun v w' => R (.returned v) w')) h
def sh_query_Where.o : CVT → List X → (Value → World → Prop) → World → Prop
  | CV, [.v (.pointer h0), .v (.int .i64 s0), .v (.int .i64 t0)], K, w => sh_query_Where CV h0 s0 t0 (fun r0 r1 w' => K (.tuple #[(.int .i64 r0), (.int .i64 r1)]) w') w
  | _, _, _, _ => False
def sh_query_Where.q : CVT → List X → World → (Value → Prop) → Prop
  | CV, [.v (.pointer h0), .v (.int .i64 s0), .v (.int .i64 t0)], w, K => Quiet (Int × Int) (fun r => (.tuple #[(.int .i64 r.1), (.int .i64 r.2)])) (fun K1 w' => sh_query_Where CV h0 s0 t0 (fun r0 r1 w'' => K1 (r0, r1) w'') w') w (fun r => K (.tuple #[(.int .i64 r.1), (.int .i64 r.2)]))
  | _, _, _, _ => False
noncomputable def cx_query_Where : Cx := Cx.add Try.prog cx_space_Meet 52 sh_query_Where.o sh_query_Where.q
theorem cx_query_Where.ok : CxOk cx_query_Where := by
  refine CxOk.add cx_space_Meet.ok rfl (fun CV hcv xs K w hx h => ?_) (fun CV hcv xs K w hx h => ?_)
  · unfold sh_query_Where.o at h; split at h
    · rename_i h0 s0 t0; exact sh_query_Where.calls CV h0 s0 t0 hcv h
    · exact h.elim
  · unfold sh_query_Where.q at h; split at h
    · rename_i h0 s0 t0; obtain ⟨r, h1, h2⟩ := h; exact ⟨_, h2, fun w' e => sh_query_Where.calls CV h0 s0 t0 hcv (h1 w' e)⟩
    · exact h.elim
def sh_unpack_Route.plan : Plan := (.seq .o (.join [] [] (.seq .o (.cond (.seq .o .o) .o)) (.seq .o (.seq .o (.seq (.seq .o (.cond (.seq .o .o) .o)) (.seq .o (.seq .o .o)))))))
theorem sh_unpack_Route.is (CV : CVT) (h0 : Option Addr) (s0 : Int) (t0 : Int) (w : World) (R : Value → World → Prop) : sh_unpack_Route CV h0 s0 t0 (fun r0 r1 w' => R (.tuple #[(.slice r0.a r0.len r0.cap), (.bool r1)]) w') w = denF (cx_query_Where.with CV) Try.f28 sh_unpack_Route.plan [.v (.pointer h0), .v (.int .i64 s0), .v (.int .i64 t0)] w R := by kernel_rfl
theorem sh_unpack_Route.calls (CV : CVT) (h0 : Option Addr) (s0 : Int) (t0 : Int) (hcv : CVOk Try.prog CV) {w : World} {R : Ending → World → Prop} (h : sh_unpack_Route CV h0 s0 t0 (fun r0 r1 w' => R (.returned (.tuple #[(.slice r0.a r0.len r0.cap), (.bool r1)])) w') w) : Calls Try.prog 28 #[(.pointer h0), (.int .i64 s0), (.int .i64 t0)] w R :=
  calls_is (cx := cx_query_Where.with CV) mixed_Try (cx_query_Where.ok.with CV) hcv Try.func28 sh_unpack_Route.plan (xs := [.v (.pointer h0), .v (.int .i64 s0), .v (.int .i64 t0)]) ((args_cons _ (args_cons _ (args_cons _ args_nil)))) (by kernel_rfl) (sh_unpack_Route.is CV h0 s0 t0 w (fun v w' => R (.returned v) w')) h
def sh_unpack_Route.o : CVT → List X → (Value → World → Prop) → World → Prop
  | CV, [.v (.pointer h0), .v (.int .i64 s0), .v (.int .i64 t0)], K, w => sh_unpack_Route CV h0 s0 t0 (fun r0 r1 w' => K (.tuple #[(.slice r0.a r0.len r0.cap), (.bool r1)]) w') w
  | _, _, _, _ => False
def sh_unpack_Route.q : CVT → List X → World → (Value → Prop) → Prop
  | CV, [.v (.pointer h0), .v (.int .i64 s0), .v (.int .i64 t0)], w, K => Quiet (SV × Bool) (fun r => (.tuple #[(.slice r.1.a r.1.len r.1.cap), (.bool r.2)])) (fun K1 w' => sh_unpack_Route CV h0 s0 t0 (fun r0 r1 w'' => K1 (r0, r1) w'') w') w (fun r => K (.tuple #[(.slice r.1.a r.1.len r.1.cap), (.bool r.2)]))
  | _, _, _, _ => False
noncomputable def cx_unpack_Route : Cx := Cx.add Try.prog cx_query_Where 28 sh_unpack_Route.o sh_unpack_Route.q
theorem cx_unpack_Route.ok : CxOk cx_unpack_Route := by
  refine CxOk.add cx_query_Where.ok rfl (fun CV hcv xs K w hx h => ?_) (fun CV hcv xs K w hx h => ?_)
  · unfold sh_unpack_Route.o at h; split at h
    · rename_i h0 s0 t0; exact sh_unpack_Route.calls CV h0 s0 t0 hcv h
    · exact h.elim
  · unfold sh_unpack_Route.q at h; split at h
    · rename_i h0 s0 t0; obtain ⟨r, h1, h2⟩ := h; exact ⟨_, h2, fun w' e => sh_unpack_Route.calls CV h0 s0 t0 hcv (h1 w' e)⟩
    · exact h.elim
def sh_postroadref11_Rows.plan : Plan := (.seq .o (.seq .o (.seq (.seq .o (.block (.loop [.slot 9 .slice, .slot 10 (.int .i64)] [] (.seq (.seq .o (.cond .o .o)) (.join [.slot 9 .slice] [] (.block (.seq .o (.cond .o .o))) .o))))) (.seq .o .o))))
theorem sh_postroadref11_Rows.is (CV : CVT) (h0_Rank : SV) (h0_Ways : SV) (d0 : SV) (low0 : Int) (high0 : Int) (w : World) (R : Value → World → Prop) : sh_postroadref11_Rows h0_Rank h0_Ways d0 low0 high0 (fun r0 w' => R (.slice r0.a r0.len r0.cap) w') w = denF (cx_unpack_Route.with CV) Try.f99 sh_postroadref11_Rows.plan [.v (.agg #[(.slice h0_Rank.a h0_Rank.len h0_Rank.cap), (.slice h0_Ways.a h0_Ways.len h0_Ways.cap)]), .v (.slice d0.a d0.len d0.cap), .v (.int .i64 low0), .v (.int .i64 high0)] w R := by kernel_rfl
theorem sh_postroadref11_Rows.calls (CV : CVT) (h0_Rank : SV) (h0_Ways : SV) (d0 : SV) (low0 : Int) (high0 : Int) (hcv : CVOk Try.prog CV) {w : World} {R : Ending → World → Prop} (h : sh_postroadref11_Rows h0_Rank h0_Ways d0 low0 high0 (fun r0 w' => R (.returned (.slice r0.a r0.len r0.cap)) w') w) : Calls Try.prog 99 #[(.agg #[(.slice h0_Rank.a h0_Rank.len h0_Rank.cap), (.slice h0_Ways.a h0_Ways.len h0_Ways.cap)]), (.slice d0.a d0.len d0.cap), (.int .i64 low0), (.int .i64 high0)] w R :=
  calls_is (cx := cx_unpack_Route.with CV) mixed_Try (cx_unpack_Route.ok.with CV) hcv Try.func99 sh_postroadref11_Rows.plan (xs := [.v (.agg #[(.slice h0_Rank.a h0_Rank.len h0_Rank.cap), (.slice h0_Ways.a h0_Ways.len h0_Ways.cap)]), .v (.slice d0.a d0.len d0.cap), .v (.int .i64 low0), .v (.int .i64 high0)]) ((args_cons _ (args_cons _ (args_cons _ (args_cons _ args_nil))))) (by kernel_rfl) (sh_postroadref11_Rows.is CV h0_Rank h0_Ways d0 low0 high0 w (fun v w' => R (.returned v) w')) h
def sh_postroadref11_Rows.o : CVT → List X → (Value → World → Prop) → World → Prop
  | CV, [.v (.agg ⟨[.slice h0_Rank_a h0_Rank_l h0_Rank_c, .slice h0_Ways_a h0_Ways_l h0_Ways_c]⟩), .v (.slice d0_a d0_l d0_c), .v (.int .i64 low0), .v (.int .i64 high0)], K, w => sh_postroadref11_Rows ⟨h0_Rank_a, h0_Rank_l, h0_Rank_c⟩ ⟨h0_Ways_a, h0_Ways_l, h0_Ways_c⟩ ⟨d0_a, d0_l, d0_c⟩ low0 high0 (fun r0 w' => K (.slice r0.a r0.len r0.cap) w') w
  | _, _, _, _ => False
def sh_postroadref11_Rows.q : CVT → List X → World → (Value → Prop) → Prop
  | CV, [.v (.agg ⟨[.slice h0_Rank_a h0_Rank_l h0_Rank_c, .slice h0_Ways_a h0_Ways_l h0_Ways_c]⟩), .v (.slice d0_a d0_l d0_c), .v (.int .i64 low0), .v (.int .i64 high0)], w, K => Quiet (SV) (fun r => (.slice r.a r.len r.cap)) (fun K1 w' => sh_postroadref11_Rows ⟨h0_Rank_a, h0_Rank_l, h0_Rank_c⟩ ⟨h0_Ways_a, h0_Ways_l, h0_Ways_c⟩ ⟨d0_a, d0_l, d0_c⟩ low0 high0 (fun r0 w'' => K1 r0 w'') w') w (fun r => K (.slice r.a r.len r.cap))
  | _, _, _, _ => False
noncomputable def cx_postroadref11_Rows : Cx := Cx.add Try.prog cx_unpack_Route 99 sh_postroadref11_Rows.o sh_postroadref11_Rows.q
theorem cx_postroadref11_Rows.ok : CxOk cx_postroadref11_Rows := by
  refine CxOk.add cx_unpack_Route.ok rfl (fun CV hcv xs K w hx h => ?_) (fun CV hcv xs K w hx h => ?_)
  · unfold sh_postroadref11_Rows.o at h; split at h
    · rename_i h0_Rank_a h0_Rank_l h0_Rank_c h0_Ways_a h0_Ways_l h0_Ways_c d0_a d0_l d0_c low0 high0; exact sh_postroadref11_Rows.calls CV ⟨h0_Rank_a, h0_Rank_l, h0_Rank_c⟩ ⟨h0_Ways_a, h0_Ways_l, h0_Ways_c⟩ ⟨d0_a, d0_l, d0_c⟩ low0 high0 hcv h
    · exact h.elim
  · unfold sh_postroadref11_Rows.q at h; split at h
    · rename_i h0_Rank_a h0_Rank_l h0_Rank_c h0_Ways_a h0_Ways_l h0_Ways_c d0_a d0_l d0_c low0 high0; obtain ⟨r, h1, h2⟩ := h; exact ⟨_, h2, fun w' e => sh_postroadref11_Rows.calls CV ⟨h0_Rank_a, h0_Rank_l, h0_Rank_c⟩ ⟨h0_Ways_a, h0_Ways_l, h0_Ways_c⟩ ⟨d0_a, d0_l, d0_c⟩ low0 high0 hcv (h1 w' e)⟩
    · exact h.elim
def sh_postroadref11_Above.plan : Plan := (.seq .o (.seq .o (.seq (.draw [] [.rd, .loc, .pure, .pure, .pure, .big, .pure, .big, .pure] [0, 1, 2, 3, 4, 6, 5, 7, 8]) .o)))
theorem sh_postroadref11_Above.is (CV : CVT) (h0_Rank : SV) (h0_Ways : SV) (v0 : Int) (back0 : Bool) (w : World) (R : Value → World → Prop) : sh_postroadref11_Above h0_Rank h0_Ways v0 back0 (fun r0 w' => R (.slice r0.a r0.len r0.cap) w') w = denF (cx_postroadref11_Rows.with CV) Try.f85 sh_postroadref11_Above.plan [.v (.agg #[(.slice h0_Rank.a h0_Rank.len h0_Rank.cap), (.slice h0_Ways.a h0_Ways.len h0_Ways.cap)]), .v (.int .i64 v0), .v (.bool back0)] w R := by kernel_rfl
theorem sh_postroadref11_Above.calls (CV : CVT) (h0_Rank : SV) (h0_Ways : SV) (v0 : Int) (back0 : Bool) (hcv : CVOk Try.prog CV) {w : World} {R : Ending → World → Prop} (h : sh_postroadref11_Above h0_Rank h0_Ways v0 back0 (fun r0 w' => R (.returned (.slice r0.a r0.len r0.cap)) w') w) : Calls Try.prog 85 #[(.agg #[(.slice h0_Rank.a h0_Rank.len h0_Rank.cap), (.slice h0_Ways.a h0_Ways.len h0_Ways.cap)]), (.int .i64 v0), (.bool back0)] w R :=
  calls_is (cx := cx_postroadref11_Rows.with CV) mixed_Try (cx_postroadref11_Rows.ok.with CV) hcv Try.func85 sh_postroadref11_Above.plan (xs := [.v (.agg #[(.slice h0_Rank.a h0_Rank.len h0_Rank.cap), (.slice h0_Ways.a h0_Ways.len h0_Ways.cap)]), .v (.int .i64 v0), .v (.bool back0)]) ((args_cons _ (args_cons _ (args_cons _ args_nil)))) (by kernel_rfl) (sh_postroadref11_Above.is CV h0_Rank h0_Ways v0 back0 w (fun v w' => R (.returned v) w')) h
def sh_postroadref11_Above.o : CVT → List X → (Value → World → Prop) → World → Prop
  | CV, [.v (.agg ⟨[.slice h0_Rank_a h0_Rank_l h0_Rank_c, .slice h0_Ways_a h0_Ways_l h0_Ways_c]⟩), .v (.int .i64 v0), .v (.bool back0)], K, w => sh_postroadref11_Above ⟨h0_Rank_a, h0_Rank_l, h0_Rank_c⟩ ⟨h0_Ways_a, h0_Ways_l, h0_Ways_c⟩ v0 back0 (fun r0 w' => K (.slice r0.a r0.len r0.cap) w') w
  | _, _, _, _ => False
def sh_postroadref11_Above.q : CVT → List X → World → (Value → Prop) → Prop
  | CV, [.v (.agg ⟨[.slice h0_Rank_a h0_Rank_l h0_Rank_c, .slice h0_Ways_a h0_Ways_l h0_Ways_c]⟩), .v (.int .i64 v0), .v (.bool back0)], w, K => Quiet (SV) (fun r => (.slice r.a r.len r.cap)) (fun K1 w' => sh_postroadref11_Above ⟨h0_Rank_a, h0_Rank_l, h0_Rank_c⟩ ⟨h0_Ways_a, h0_Ways_l, h0_Ways_c⟩ v0 back0 (fun r0 w'' => K1 r0 w'') w') w (fun r => K (.slice r.a r.len r.cap))
  | _, _, _, _ => False
noncomputable def cx_postroadref11_Above : Cx := Cx.add Try.prog cx_postroadref11_Rows 85 sh_postroadref11_Above.o sh_postroadref11_Above.q
theorem cx_postroadref11_Above.ok : CxOk cx_postroadref11_Above := by
  refine CxOk.add cx_postroadref11_Rows.ok rfl (fun CV hcv xs K w hx h => ?_) (fun CV hcv xs K w hx h => ?_)
  · unfold sh_postroadref11_Above.o at h; split at h
    · rename_i h0_Rank_a h0_Rank_l h0_Rank_c h0_Ways_a h0_Ways_l h0_Ways_c v0 back0; exact sh_postroadref11_Above.calls CV ⟨h0_Rank_a, h0_Rank_l, h0_Rank_c⟩ ⟨h0_Ways_a, h0_Ways_l, h0_Ways_c⟩ v0 back0 hcv h
    · exact h.elim
  · unfold sh_postroadref11_Above.q at h; split at h
    · rename_i h0_Rank_a h0_Rank_l h0_Rank_c h0_Ways_a h0_Ways_l h0_Ways_c v0 back0; obtain ⟨r, h1, h2⟩ := h; exact ⟨_, h2, fun w' e => sh_postroadref11_Above.calls CV ⟨h0_Rank_a, h0_Rank_l, h0_Rank_c⟩ ⟨h0_Ways_a, h0_Ways_l, h0_Ways_c⟩ v0 back0 hcv (h1 w' e)⟩
    · exact h.elim
def sh_postroadref11_Meet.plan : Plan := (.seq .o (.seq .o (.seq .o (.join [.slot 6 (.int .i64), .slot 7 (.int .i64)] [] (.seq .o (.block (.loop [.slot 6 (.int .i64), .slot 7 (.int .i64), .slot 8 (.int .i64)] [] (.seq (.seq .o (.cond .o .o)) (.join [.slot 6 (.int .i64), .slot 7 (.int .i64)] [] (.block (.seq .o (.block (.loop [.slot 6 (.int .i64), .slot 7 (.int .i64), .slot 9 (.int .i64)] [] (.seq (.seq .o (.cond .o .o)) (.join [.slot 6 (.int .i64), .slot 7 (.int .i64)] [] (.block (.seq (.draw [] [.pure, .pure, .pure, .pure, .quiet, .pure, .pure, .pure, .pure, .quiet, .pure, .pure, .pure, .pure, .pure, .pure, .pure, .pure, .pure, .quiet, .pure, .pure, .pure, .pure, .quiet, .pure, .pure, .pure, .pure, .pure, .pure, .pure, .pure, .pure, .quiet, .pure, .pure, .pure, .pure, .quiet, .pure, .pure, .pure, .pure, .pure, .pure, .pure, .pure, .quiet, .pure, .pure, .pure, .pure, .pure] [0, 1, 2, 3, 4, 5, 6, 7, 8, 9, 10, 11, 12, 13, 14, 15, 16, 17, 18, 19, 20, 21, 22, 23, 24, 25, 26, 27, 28, 29, 30, 31, 32, 33, 34, 35, 36, 37, 38, 39, 40, 41, 42, 43, 44, 45, 46, 47, 48, 49, 50, 51, 52, 53]) (.cond (.seq (.draw [] [.pure, .pure, .pure, .pure, .quiet, .pure, .pure, .pure, .pure, .quiet, .pure, .pure] [0, 1, 2, 3, 4, 5, 6, 7, 8, 9, 10, 11]) .o) .o))) .o)))))) .o))))) (.seq .o .o)))))
theorem sh_postroadref11_Meet.is (CV : CVT) (a0 : SV) (b0 : SV) (w : World) (R : Value → World → Prop) : sh_postroadref11_Meet a0 b0 (fun r0 r1 w' => R (.tuple #[(.int .i64 r0), (.int .i64 r1)]) w') w = denF (cx_postroadref11_Above.with CV) Try.f84 sh_postroadref11_Meet.plan [.v (.slice a0.a a0.len a0.cap), .v (.slice b0.a b0.len b0.cap)] w R := by kernel_rfl
theorem sh_postroadref11_Meet.calls (CV : CVT) (a0 : SV) (b0 : SV) (hcv : CVOk Try.prog CV) {w : World} {R : Ending → World → Prop} (h : sh_postroadref11_Meet a0 b0 (fun r0 r1 w' => R (.returned (.tuple #[(.int .i64 r0), (.int .i64 r1)])) w') w) : Calls Try.prog 84 #[(.slice a0.a a0.len a0.cap), (.slice b0.a b0.len b0.cap)] w R :=
  calls_is (cx := cx_postroadref11_Above.with CV) mixed_Try (cx_postroadref11_Above.ok.with CV) hcv Try.func84 sh_postroadref11_Meet.plan (xs := [.v (.slice a0.a a0.len a0.cap), .v (.slice b0.a b0.len b0.cap)]) ((args_cons _ (args_cons _ args_nil))) (by kernel_rfl) (sh_postroadref11_Meet.is CV a0 b0 w (fun v w' => R (.returned v) w')) h
def sh_postroadref11_Meet.o : CVT → List X → (Value → World → Prop) → World → Prop
  | CV, [.v (.slice a0_a a0_l a0_c), .v (.slice b0_a b0_l b0_c)], K, w => sh_postroadref11_Meet ⟨a0_a, a0_l, a0_c⟩ ⟨b0_a, b0_l, b0_c⟩ (fun r0 r1 w' => K (.tuple #[(.int .i64 r0), (.int .i64 r1)]) w') w
  | _, _, _, _ => False
def sh_postroadref11_Meet.q : CVT → List X → World → (Value → Prop) → Prop
  | CV, [.v (.slice a0_a a0_l a0_c), .v (.slice b0_a b0_l b0_c)], w, K => Quiet (Int × Int) (fun r => (.tuple #[(.int .i64 r.1), (.int .i64 r.2)])) (fun K1 w' => sh_postroadref11_Meet ⟨a0_a, a0_l, a0_c⟩ ⟨b0_a, b0_l, b0_c⟩ (fun r0 r1 w'' => K1 (r0, r1) w'') w') w (fun r => K (.tuple #[(.int .i64 r.1), (.int .i64 r.2)]))
  | _, _, _, _ => False
noncomputable def cx_postroadref11_Meet : Cx := Cx.add Try.prog cx_postroadref11_Above 84 sh_postroadref11_Meet.o sh_postroadref11_Meet.q
theorem cx_postroadref11_Meet.ok : CxOk cx_postroadref11_Meet := by
  refine CxOk.add cx_postroadref11_Above.ok rfl (fun CV hcv xs K w hx h => ?_) (fun CV hcv xs K w hx h => ?_)
  · unfold sh_postroadref11_Meet.o at h; split at h
    · rename_i a0_a a0_l a0_c b0_a b0_l b0_c; exact sh_postroadref11_Meet.calls CV ⟨a0_a, a0_l, a0_c⟩ ⟨b0_a, b0_l, b0_c⟩ hcv h
    · exact h.elim
  · unfold sh_postroadref11_Meet.q at h; split at h
    · rename_i a0_a a0_l a0_c b0_a b0_l b0_c; obtain ⟨r, h1, h2⟩ := h; exact ⟨_, h2, fun w' e => sh_postroadref11_Meet.calls CV ⟨a0_a, a0_l, a0_c⟩ ⟨b0_a, b0_l, b0_c⟩ hcv (h1 w' e)⟩
    · exact h.elim
def sh_postroadref12_Where.plan : Plan := (.seq .o (.seq (.draw [] [.loc, .pure, .big, .rd, .pure, .big, .quiet, .pure, .pure, .pure, .pure] [0, 1, 3, 4, 2, 5, 6, 7, 8, 9, 10]) .o))
theorem sh_postroadref12_Where.is (CV : CVT) (h0_Rank : SV) (h0_Ways : SV) (s0 : Int) (t0 : Int) (w : World) (R : Value → World → Prop) : sh_postroadref12_Where h0_Rank h0_Ways s0 t0 (fun r0 r1 w' => R (.tuple #[(.int .i64 r0), (.int .i64 r1)]) w') w = denF (cx_postroadref11_Meet.with CV) Try.f53 sh_postroadref12_Where.plan [.v (.agg #[(.slice h0_Rank.a h0_Rank.len h0_Rank.cap), (.slice h0_Ways.a h0_Ways.len h0_Ways.cap)]), .v (.int .i64 s0), .v (.int .i64 t0)] w R := by kernel_rfl
theorem sh_postroadref12_Where.calls (CV : CVT) (h0_Rank : SV) (h0_Ways : SV) (s0 : Int) (t0 : Int) (hcv : CVOk Try.prog CV) {w : World} {R : Ending → World → Prop} (h : sh_postroadref12_Where h0_Rank h0_Ways s0 t0 (fun r0 r1 w' => R (.returned (.tuple #[(.int .i64 r0), (.int .i64 r1)])) w') w) : Calls Try.prog 53 #[(.agg #[(.slice h0_Rank.a h0_Rank.len h0_Rank.cap), (.slice h0_Ways.a h0_Ways.len h0_Ways.cap)]), (.int .i64 s0), (.int .i64 t0)] w R :=
  calls_is (cx := cx_postroadref11_Meet.with CV) mixed_Try (cx_postroadref11_Meet.ok.with CV) hcv Try.func53 sh_postroadref12_Where.plan (xs := [.v (.agg #[(.slice h0_Rank.a h0_Rank.len h0_Rank.cap), (.slice h0_Ways.a h0_Ways.len h0_Ways.cap)]), .v (.int .i64 s0), .v (.int .i64 t0)]) ((args_cons _ (args_cons _ (args_cons _ args_nil)))) (by kernel_rfl) (sh_postroadref12_Where.is CV h0_Rank h0_Ways s0 t0 w (fun v w' => R (.returned v) w')) h
def sh_postroadref12_Where.o : CVT → List X → (Value → World → Prop) → World → Prop
  | CV, [.v (.agg ⟨[.slice h0_Rank_a h0_Rank_l h0_Rank_c, .slice h0_Ways_a h0_Ways_l h0_Ways_c]⟩), .v (.int .i64 s0), .v (.int .i64 t0)], K, w => sh_postroadref12_Where ⟨h0_Rank_a, h0_Rank_l, h0_Rank_c⟩ ⟨h0_Ways_a, h0_Ways_l, h0_Ways_c⟩ s0 t0 (fun r0 r1 w' => K (.tuple #[(.int .i64 r0), (.int .i64 r1)]) w') w
  | _, _, _, _ => False
def sh_postroadref12_Where.q : CVT → List X → World → (Value → Prop) → Prop
  | CV, [.v (.agg ⟨[.slice h0_Rank_a h0_Rank_l h0_Rank_c, .slice h0_Ways_a h0_Ways_l h0_Ways_c]⟩), .v (.int .i64 s0), .v (.int .i64 t0)], w, K => Quiet (Int × Int) (fun r => (.tuple #[(.int .i64 r.1), (.int .i64 r.2)])) (fun K1 w' => sh_postroadref12_Where ⟨h0_Rank_a, h0_Rank_l, h0_Rank_c⟩ ⟨h0_Ways_a, h0_Ways_l, h0_Ways_c⟩ s0 t0 (fun r0 r1 w'' => K1 (r0, r1) w'') w') w (fun r => K (.tuple #[(.int .i64 r.1), (.int .i64 r.2)]))
  | _, _, _, _ => False
noncomputable def cx_postroadref12_Where : Cx := Cx.add Try.prog cx_postroadref11_Meet 53 sh_postroadref12_Where.o sh_postroadref12_Where.q
theorem cx_postroadref12_Where.ok : CxOk cx_postroadref12_Where := by
  refine CxOk.add cx_postroadref11_Meet.ok rfl (fun CV hcv xs K w hx h => ?_) (fun CV hcv xs K w hx h => ?_)
  · unfold sh_postroadref12_Where.o at h; split at h
    · rename_i h0_Rank_a h0_Rank_l h0_Rank_c h0_Ways_a h0_Ways_l h0_Ways_c s0 t0; exact sh_postroadref12_Where.calls CV ⟨h0_Rank_a, h0_Rank_l, h0_Rank_c⟩ ⟨h0_Ways_a, h0_Ways_l, h0_Ways_c⟩ s0 t0 hcv h
    · exact h.elim
  · unfold sh_postroadref12_Where.q at h; split at h
    · rename_i h0_Rank_a h0_Rank_l h0_Rank_c h0_Ways_a h0_Ways_l h0_Ways_c s0 t0; obtain ⟨r, h1, h2⟩ := h; exact ⟨_, h2, fun w' e => sh_postroadref12_Where.calls CV ⟨h0_Rank_a, h0_Rank_l, h0_Rank_c⟩ ⟨h0_Ways_a, h0_Ways_l, h0_Ways_c⟩ s0 t0 hcv (h1 w' e)⟩
    · exact h.elim
def sh_postroadref13_Route.plan : Plan := (.seq .o (.join [] [] (.seq .o (.cond (.seq .o .o) .o)) (.seq .o (.seq (.seq .o (.cond (.seq .o .o) .o)) (.seq .o (.seq .o (.seq .o (.seq .o .o))))))))
theorem sh_postroadref13_Route.is (CV : CVT) (h0_Rank : SV) (h0_Ways : SV) (s0 : Int) (t0 : Int) (w : World) (R : Value → World → Prop) : sh_postroadref13_Route h0_Rank h0_Ways s0 t0 (fun r0 r1 w' => R (.tuple #[(.slice r0.a r0.len r0.cap), (.bool r1)]) w') w = denF (cx_postroadref12_Where.with CV) Try.f29 sh_postroadref13_Route.plan [.v (.agg #[(.slice h0_Rank.a h0_Rank.len h0_Rank.cap), (.slice h0_Ways.a h0_Ways.len h0_Ways.cap)]), .v (.int .i64 s0), .v (.int .i64 t0)] w R := by kernel_rfl
theorem sh_postroadref13_Route.calls (CV : CVT) (h0_Rank : SV) (h0_Ways : SV) (s0 : Int) (t0 : Int) (hcv : CVOk Try.prog CV) {w : World} {R : Ending → World → Prop} (h : sh_postroadref13_Route h0_Rank h0_Ways s0 t0 (fun r0 r1 w' => R (.returned (.tuple #[(.slice r0.a r0.len r0.cap), (.bool r1)])) w') w) : Calls Try.prog 29 #[(.agg #[(.slice h0_Rank.a h0_Rank.len h0_Rank.cap), (.slice h0_Ways.a h0_Ways.len h0_Ways.cap)]), (.int .i64 s0), (.int .i64 t0)] w R :=
  calls_is (cx := cx_postroadref12_Where.with CV) mixed_Try (cx_postroadref12_Where.ok.with CV) hcv Try.func29 sh_postroadref13_Route.plan (xs := [.v (.agg #[(.slice h0_Rank.a h0_Rank.len h0_Rank.cap), (.slice h0_Ways.a h0_Ways.len h0_Ways.cap)]), .v (.int .i64 s0), .v (.int .i64 t0)]) ((args_cons _ (args_cons _ (args_cons _ args_nil)))) (by kernel_rfl) (sh_postroadref13_Route.is CV h0_Rank h0_Ways s0 t0 w (fun v w' => R (.returned v) w')) h
def sh_postroadref13_Route.o : CVT → List X → (Value → World → Prop) → World → Prop
  | CV, [.v (.agg ⟨[.slice h0_Rank_a h0_Rank_l h0_Rank_c, .slice h0_Ways_a h0_Ways_l h0_Ways_c]⟩), .v (.int .i64 s0), .v (.int .i64 t0)], K, w => sh_postroadref13_Route ⟨h0_Rank_a, h0_Rank_l, h0_Rank_c⟩ ⟨h0_Ways_a, h0_Ways_l, h0_Ways_c⟩ s0 t0 (fun r0 r1 w' => K (.tuple #[(.slice r0.a r0.len r0.cap), (.bool r1)]) w') w
  | _, _, _, _ => False
def sh_postroadref13_Route.q : CVT → List X → World → (Value → Prop) → Prop
  | CV, [.v (.agg ⟨[.slice h0_Rank_a h0_Rank_l h0_Rank_c, .slice h0_Ways_a h0_Ways_l h0_Ways_c]⟩), .v (.int .i64 s0), .v (.int .i64 t0)], w, K => Quiet (SV × Bool) (fun r => (.tuple #[(.slice r.1.a r.1.len r.1.cap), (.bool r.2)])) (fun K1 w' => sh_postroadref13_Route ⟨h0_Rank_a, h0_Rank_l, h0_Rank_c⟩ ⟨h0_Ways_a, h0_Ways_l, h0_Ways_c⟩ s0 t0 (fun r0 r1 w'' => K1 (r0, r1) w'') w') w (fun r => K (.tuple #[(.slice r.1.a r.1.len r.1.cap), (.bool r.2)]))
  | _, _, _, _ => False
noncomputable def cx_postroadref13_Route : Cx := Cx.add Try.prog cx_postroadref12_Where 29 sh_postroadref13_Route.o sh_postroadref13_Route.q
theorem cx_postroadref13_Route.ok : CxOk cx_postroadref13_Route := by
  refine CxOk.add cx_postroadref12_Where.ok rfl (fun CV hcv xs K w hx h => ?_) (fun CV hcv xs K w hx h => ?_)
  · unfold sh_postroadref13_Route.o at h; split at h
    · rename_i h0_Rank_a h0_Rank_l h0_Rank_c h0_Ways_a h0_Ways_l h0_Ways_c s0 t0; exact sh_postroadref13_Route.calls CV ⟨h0_Rank_a, h0_Rank_l, h0_Rank_c⟩ ⟨h0_Ways_a, h0_Ways_l, h0_Ways_c⟩ s0 t0 hcv h
    · exact h.elim
  · unfold sh_postroadref13_Route.q at h; split at h
    · rename_i h0_Rank_a h0_Rank_l h0_Rank_c h0_Ways_a h0_Ways_l h0_Ways_c s0 t0; obtain ⟨r, h1, h2⟩ := h; exact ⟨_, h2, fun w' e => sh_postroadref13_Route.calls CV ⟨h0_Rank_a, h0_Rank_l, h0_Rank_c⟩ ⟨h0_Ways_a, h0_Ways_l, h0_Ways_c⟩ s0 t0 hcv (h1 w' e)⟩
    · exact h.elim
def sh_query_Far.plan : Plan := (.seq .o (.seq .o (.seq .o .o)))
theorem sh_query_Far.is (CV : CVT) (h0 : Option Addr) (s0 : Int) (t0 : Int) (w : World) (R : Value → World → Prop) : sh_query_Far CV h0 s0 t0 (fun r0 w' => R (.int .i64 r0) w') w = denF (cx_postroadref13_Route.with CV) Try.f54 sh_query_Far.plan [.v (.pointer h0), .v (.int .i64 s0), .v (.int .i64 t0)] w R := by kernel_rfl
theorem sh_query_Far.calls (CV : CVT) (h0 : Option Addr) (s0 : Int) (t0 : Int) (hcv : CVOk Try.prog CV) {w : World} {R : Ending → World → Prop} (h : sh_query_Far CV h0 s0 t0 (fun r0 w' => R (.returned (.int .i64 r0)) w') w) : Calls Try.prog 54 #[(.pointer h0), (.int .i64 s0), (.int .i64 t0)] w R :=
  calls_is (cx := cx_postroadref13_Route.with CV) mixed_Try (cx_postroadref13_Route.ok.with CV) hcv Try.func54 sh_query_Far.plan (xs := [.v (.pointer h0), .v (.int .i64 s0), .v (.int .i64 t0)]) ((args_cons _ (args_cons _ (args_cons _ args_nil)))) (by kernel_rfl) (sh_query_Far.is CV h0 s0 t0 w (fun v w' => R (.returned v) w')) h
def sh_query_Far.o : CVT → List X → (Value → World → Prop) → World → Prop
  | CV, [.v (.pointer h0), .v (.int .i64 s0), .v (.int .i64 t0)], K, w => sh_query_Far CV h0 s0 t0 (fun r0 w' => K (.int .i64 r0) w') w
  | _, _, _, _ => False
def sh_query_Far.q : CVT → List X → World → (Value → Prop) → Prop
  | CV, [.v (.pointer h0), .v (.int .i64 s0), .v (.int .i64 t0)], w, K => Quiet (Int) (fun r => (.int .i64 r)) (fun K1 w' => sh_query_Far CV h0 s0 t0 (fun r0 w'' => K1 r0 w'') w') w (fun r => K (.int .i64 r))
  | _, _, _, _ => False
noncomputable def cx_query_Far : Cx := Cx.add Try.prog cx_postroadref13_Route 54 sh_query_Far.o sh_query_Far.q
theorem cx_query_Far.ok : CxOk cx_query_Far := by
  refine CxOk.add cx_postroadref13_Route.ok rfl (fun CV hcv xs K w hx h => ?_) (fun CV hcv xs K w hx h => ?_)
  · unfold sh_query_Far.o at h; split at h
    · rename_i h0 s0 t0; exact sh_query_Far.calls CV h0 s0 t0 hcv h
    · exact h.elim
  · unfold sh_query_Far.q at h; split at h
    · rename_i h0 s0 t0; obtain ⟨r, h1, h2⟩ := h; exact ⟨_, h2, fun w' e => sh_query_Far.calls CV h0 s0 t0 hcv (h1 w' e)⟩
    · exact h.elim
def sh_unpack_Arcs.plan : Plan := (.seq .o (.seq .o (.seq (.seq .o (.cond (.seq .o .o) .o)) (.seq .o .o))))
theorem sh_unpack_Arcs.is (CV : CVT) (h0 : Option Addr) (s0 : Int) (t0 : Int) (w : World) (R : Value → World → Prop) : sh_unpack_Arcs CV h0 s0 t0 (fun r0 r1 r2 w' => R (.tuple #[(.slice r0.a r0.len r0.cap), (.int .i64 r1), (.bool r2)]) w') w = denF (cx_query_Far.with CV) Try.f30 sh_unpack_Arcs.plan [.v (.pointer h0), .v (.int .i64 s0), .v (.int .i64 t0)] w R := by kernel_rfl
theorem sh_unpack_Arcs.calls (CV : CVT) (h0 : Option Addr) (s0 : Int) (t0 : Int) (hcv : CVOk Try.prog CV) {w : World} {R : Ending → World → Prop} (h : sh_unpack_Arcs CV h0 s0 t0 (fun r0 r1 r2 w' => R (.returned (.tuple #[(.slice r0.a r0.len r0.cap), (.int .i64 r1), (.bool r2)])) w') w) : Calls Try.prog 30 #[(.pointer h0), (.int .i64 s0), (.int .i64 t0)] w R :=
  calls_is (cx := cx_query_Far.with CV) mixed_Try (cx_query_Far.ok.with CV) hcv Try.func30 sh_unpack_Arcs.plan (xs := [.v (.pointer h0), .v (.int .i64 s0), .v (.int .i64 t0)]) ((args_cons _ (args_cons _ (args_cons _ args_nil)))) (by kernel_rfl) (sh_unpack_Arcs.is CV h0 s0 t0 w (fun v w' => R (.returned v) w')) h
def sh_unpack_Arcs.o : CVT → List X → (Value → World → Prop) → World → Prop
  | CV, [.v (.pointer h0), .v (.int .i64 s0), .v (.int .i64 t0)], K, w => sh_unpack_Arcs CV h0 s0 t0 (fun r0 r1 r2 w' => K (.tuple #[(.slice r0.a r0.len r0.cap), (.int .i64 r1), (.bool r2)]) w') w
  | _, _, _, _ => False
def sh_unpack_Arcs.q : CVT → List X → World → (Value → Prop) → Prop
  | CV, [.v (.pointer h0), .v (.int .i64 s0), .v (.int .i64 t0)], w, K => Quiet (SV × Int × Bool) (fun r => (.tuple #[(.slice r.1.a r.1.len r.1.cap), (.int .i64 r.2.1), (.bool r.2.2)])) (fun K1 w' => sh_unpack_Arcs CV h0 s0 t0 (fun r0 r1 r2 w'' => K1 (r0, r1, r2) w'') w') w (fun r => K (.tuple #[(.slice r.1.a r.1.len r.1.cap), (.int .i64 r.2.1), (.bool r.2.2)]))
  | _, _, _, _ => False
noncomputable def cx_unpack_Arcs : Cx := Cx.add Try.prog cx_query_Far 30 sh_unpack_Arcs.o sh_unpack_Arcs.q
theorem cx_unpack_Arcs.ok : CxOk cx_unpack_Arcs := by
  refine CxOk.add cx_query_Far.ok rfl (fun CV hcv xs K w hx h => ?_) (fun CV hcv xs K w hx h => ?_)
  · unfold sh_unpack_Arcs.o at h; split at h
    · rename_i h0 s0 t0; exact sh_unpack_Arcs.calls CV h0 s0 t0 hcv h
    · exact h.elim
  · unfold sh_unpack_Arcs.q at h; split at h
    · rename_i h0 s0 t0; obtain ⟨r, h1, h2⟩ := h; exact ⟨_, h2, fun w' e => sh_unpack_Arcs.calls CV h0 s0 t0 hcv (h1 w' e)⟩
    · exact h.elim
def sh_postroadref12_Far.plan : Plan := (.seq .o (.seq .o (.seq .o .o)))
theorem sh_postroadref12_Far.is (CV : CVT) (h0_Rank : SV) (h0_Ways : SV) (s0 : Int) (t0 : Int) (w : World) (R : Value → World → Prop) : sh_postroadref12_Far h0_Rank h0_Ways s0 t0 (fun r0 w' => R (.int .i64 r0) w') w = denF (cx_unpack_Arcs.with CV) Try.f55 sh_postroadref12_Far.plan [.v (.agg #[(.slice h0_Rank.a h0_Rank.len h0_Rank.cap), (.slice h0_Ways.a h0_Ways.len h0_Ways.cap)]), .v (.int .i64 s0), .v (.int .i64 t0)] w R := by kernel_rfl
theorem sh_postroadref12_Far.calls (CV : CVT) (h0_Rank : SV) (h0_Ways : SV) (s0 : Int) (t0 : Int) (hcv : CVOk Try.prog CV) {w : World} {R : Ending → World → Prop} (h : sh_postroadref12_Far h0_Rank h0_Ways s0 t0 (fun r0 w' => R (.returned (.int .i64 r0)) w') w) : Calls Try.prog 55 #[(.agg #[(.slice h0_Rank.a h0_Rank.len h0_Rank.cap), (.slice h0_Ways.a h0_Ways.len h0_Ways.cap)]), (.int .i64 s0), (.int .i64 t0)] w R :=
  calls_is (cx := cx_unpack_Arcs.with CV) mixed_Try (cx_unpack_Arcs.ok.with CV) hcv Try.func55 sh_postroadref12_Far.plan (xs := [.v (.agg #[(.slice h0_Rank.a h0_Rank.len h0_Rank.cap), (.slice h0_Ways.a h0_Ways.len h0_Ways.cap)]), .v (.int .i64 s0), .v (.int .i64 t0)]) ((args_cons _ (args_cons _ (args_cons _ args_nil)))) (by kernel_rfl) (sh_postroadref12_Far.is CV h0_Rank h0_Ways s0 t0 w (fun v w' => R (.returned v) w')) h
def sh_postroadref12_Far.o : CVT → List X → (Value → World → Prop) → World → Prop
  | CV, [.v (.agg ⟨[.slice h0_Rank_a h0_Rank_l h0_Rank_c, .slice h0_Ways_a h0_Ways_l h0_Ways_c]⟩), .v (.int .i64 s0), .v (.int .i64 t0)], K, w => sh_postroadref12_Far ⟨h0_Rank_a, h0_Rank_l, h0_Rank_c⟩ ⟨h0_Ways_a, h0_Ways_l, h0_Ways_c⟩ s0 t0 (fun r0 w' => K (.int .i64 r0) w') w
  | _, _, _, _ => False
def sh_postroadref12_Far.q : CVT → List X → World → (Value → Prop) → Prop
  | CV, [.v (.agg ⟨[.slice h0_Rank_a h0_Rank_l h0_Rank_c, .slice h0_Ways_a h0_Ways_l h0_Ways_c]⟩), .v (.int .i64 s0), .v (.int .i64 t0)], w, K => Quiet (Int) (fun r => (.int .i64 r)) (fun K1 w' => sh_postroadref12_Far ⟨h0_Rank_a, h0_Rank_l, h0_Rank_c⟩ ⟨h0_Ways_a, h0_Ways_l, h0_Ways_c⟩ s0 t0 (fun r0 w'' => K1 r0 w'') w') w (fun r => K (.int .i64 r))
  | _, _, _, _ => False
noncomputable def cx_postroadref12_Far : Cx := Cx.add Try.prog cx_unpack_Arcs 55 sh_postroadref12_Far.o sh_postroadref12_Far.q
theorem cx_postroadref12_Far.ok : CxOk cx_postroadref12_Far := by
  refine CxOk.add cx_unpack_Arcs.ok rfl (fun CV hcv xs K w hx h => ?_) (fun CV hcv xs K w hx h => ?_)
  · unfold sh_postroadref12_Far.o at h; split at h
    · rename_i h0_Rank_a h0_Rank_l h0_Rank_c h0_Ways_a h0_Ways_l h0_Ways_c s0 t0; exact sh_postroadref12_Far.calls CV ⟨h0_Rank_a, h0_Rank_l, h0_Rank_c⟩ ⟨h0_Ways_a, h0_Ways_l, h0_Ways_c⟩ s0 t0 hcv h
    · exact h.elim
  · unfold sh_postroadref12_Far.q at h; split at h
    · rename_i h0_Rank_a h0_Rank_l h0_Rank_c h0_Ways_a h0_Ways_l h0_Ways_c s0 t0; obtain ⟨r, h1, h2⟩ := h; exact ⟨_, h2, fun w' e => sh_postroadref12_Far.calls CV ⟨h0_Rank_a, h0_Rank_l, h0_Rank_c⟩ ⟨h0_Ways_a, h0_Ways_l, h0_Ways_c⟩ s0 t0 hcv (h1 w' e)⟩
    · exact h.elim
def sh_postroadref13_Arcs.plan : Plan := (.seq .o (.seq .o (.seq .o (.join [.slot 11 .slice] [] (.seq .o (.block (.loop [.slot 11 .slice, .slot 12 (.int .i64)] [] (.seq (.seq .o (.cond .o .o)) (.seq (.block (.draw [] [.pure, .loc, .pure, .pure, .pure, .quiet, .big, .big, .pure] [0, 1, 2, 3, 4, 5, 6, 7, 8])) .o))))) (.seq .o .o)))))
theorem sh_postroadref13_Arcs.is (CV : CVT) (h0_Rank : SV) (h0_Ways : SV) (s0 : Int) (t0 : Int) (w : World) (R : Value → World → Prop) : sh_postroadref13_Arcs h0_Rank h0_Ways s0 t0 (fun r0 r1 r2 w' => R (.tuple #[(.slice r0.a r0.len r0.cap), (.int .i64 r1), (.bool r2)]) w') w = denF (cx_postroadref12_Far.with CV) Try.f31 sh_postroadref13_Arcs.plan [.v (.agg #[(.slice h0_Rank.a h0_Rank.len h0_Rank.cap), (.slice h0_Ways.a h0_Ways.len h0_Ways.cap)]), .v (.int .i64 s0), .v (.int .i64 t0)] w R := by kernel_rfl
theorem sh_postroadref13_Arcs.calls (CV : CVT) (h0_Rank : SV) (h0_Ways : SV) (s0 : Int) (t0 : Int) (hcv : CVOk Try.prog CV) {w : World} {R : Ending → World → Prop} (h : sh_postroadref13_Arcs h0_Rank h0_Ways s0 t0 (fun r0 r1 r2 w' => R (.returned (.tuple #[(.slice r0.a r0.len r0.cap), (.int .i64 r1), (.bool r2)])) w') w) : Calls Try.prog 31 #[(.agg #[(.slice h0_Rank.a h0_Rank.len h0_Rank.cap), (.slice h0_Ways.a h0_Ways.len h0_Ways.cap)]), (.int .i64 s0), (.int .i64 t0)] w R :=
  calls_is (cx := cx_postroadref12_Far.with CV) mixed_Try (cx_postroadref12_Far.ok.with CV) hcv Try.func31 sh_postroadref13_Arcs.plan (xs := [.v (.agg #[(.slice h0_Rank.a h0_Rank.len h0_Rank.cap), (.slice h0_Ways.a h0_Ways.len h0_Ways.cap)]), .v (.int .i64 s0), .v (.int .i64 t0)]) ((args_cons _ (args_cons _ (args_cons _ args_nil)))) (by kernel_rfl) (sh_postroadref13_Arcs.is CV h0_Rank h0_Ways s0 t0 w (fun v w' => R (.returned v) w')) h
def sh_postroadref13_Arcs.o : CVT → List X → (Value → World → Prop) → World → Prop
  | CV, [.v (.agg ⟨[.slice h0_Rank_a h0_Rank_l h0_Rank_c, .slice h0_Ways_a h0_Ways_l h0_Ways_c]⟩), .v (.int .i64 s0), .v (.int .i64 t0)], K, w => sh_postroadref13_Arcs ⟨h0_Rank_a, h0_Rank_l, h0_Rank_c⟩ ⟨h0_Ways_a, h0_Ways_l, h0_Ways_c⟩ s0 t0 (fun r0 r1 r2 w' => K (.tuple #[(.slice r0.a r0.len r0.cap), (.int .i64 r1), (.bool r2)]) w') w
  | _, _, _, _ => False
def sh_postroadref13_Arcs.q : CVT → List X → World → (Value → Prop) → Prop
  | CV, [.v (.agg ⟨[.slice h0_Rank_a h0_Rank_l h0_Rank_c, .slice h0_Ways_a h0_Ways_l h0_Ways_c]⟩), .v (.int .i64 s0), .v (.int .i64 t0)], w, K => Quiet (SV × Int × Bool) (fun r => (.tuple #[(.slice r.1.a r.1.len r.1.cap), (.int .i64 r.2.1), (.bool r.2.2)])) (fun K1 w' => sh_postroadref13_Arcs ⟨h0_Rank_a, h0_Rank_l, h0_Rank_c⟩ ⟨h0_Ways_a, h0_Ways_l, h0_Ways_c⟩ s0 t0 (fun r0 r1 r2 w'' => K1 (r0, r1, r2) w'') w') w (fun r => K (.tuple #[(.slice r.1.a r.1.len r.1.cap), (.int .i64 r.2.1), (.bool r.2.2)]))
  | _, _, _, _ => False
noncomputable def cx_postroadref13_Arcs : Cx := Cx.add Try.prog cx_postroadref12_Far 31 sh_postroadref13_Arcs.o sh_postroadref13_Arcs.q
theorem cx_postroadref13_Arcs.ok : CxOk cx_postroadref13_Arcs := by
  refine CxOk.add cx_postroadref12_Far.ok rfl (fun CV hcv xs K w hx h => ?_) (fun CV hcv xs K w hx h => ?_)
  · unfold sh_postroadref13_Arcs.o at h; split at h
    · rename_i h0_Rank_a h0_Rank_l h0_Rank_c h0_Ways_a h0_Ways_l h0_Ways_c s0 t0; exact sh_postroadref13_Arcs.calls CV ⟨h0_Rank_a, h0_Rank_l, h0_Rank_c⟩ ⟨h0_Ways_a, h0_Ways_l, h0_Ways_c⟩ s0 t0 hcv h
    · exact h.elim
  · unfold sh_postroadref13_Arcs.q at h; split at h
    · rename_i h0_Rank_a h0_Rank_l h0_Rank_c h0_Ways_a h0_Ways_l h0_Ways_c s0 t0; obtain ⟨r, h1, h2⟩ := h; exact ⟨_, h2, fun w' e => sh_postroadref13_Arcs.calls CV ⟨h0_Rank_a, h0_Rank_l, h0_Rank_c⟩ ⟨h0_Ways_a, h0_Ways_l, h0_Ways_c⟩ s0 t0 hcv (h1 w' e)⟩
    · exact h.elim
def sh_postroadlaw13_UnpackRoutes.plan : Plan := (.seq .o (.seq (.seq .o (.cond (.seq .o .o) .o)) (.seq .o (.seq .o (.seq .o (.seq .o (.seq .o (.seq .o (.seq .o (.seq .o (.seq .o (.seq .o .o))))))))))))
theorem sh_postroadlaw13_UnpackRoutes.is (CV : CVT) (h0_Rank : SV) (h0_Ways : SV) (s0 : Int) (t0 : Int) (w : World) (R : Value → World → Prop) : sh_postroadlaw13_UnpackRoutes CV h0_Rank h0_Ways s0 t0 (fun r0 w' => R (.bool r0) w') w = denF (cx_postroadref13_Arcs.with CV) Try.f7 sh_postroadlaw13_UnpackRoutes.plan [.v (.agg #[(.slice h0_Rank.a h0_Rank.len h0_Rank.cap), (.slice h0_Ways.a h0_Ways.len h0_Ways.cap)]), .v (.int .i64 s0), .v (.int .i64 t0)] w R := by kernel_rfl
theorem sh_postroadlaw13_UnpackRoutes.calls (CV : CVT) (h0_Rank : SV) (h0_Ways : SV) (s0 : Int) (t0 : Int) (hcv : CVOk Try.prog CV) {w : World} {R : Ending → World → Prop} (h : sh_postroadlaw13_UnpackRoutes CV h0_Rank h0_Ways s0 t0 (fun r0 w' => R (.returned (.bool r0)) w') w) : Calls Try.prog 7 #[(.agg #[(.slice h0_Rank.a h0_Rank.len h0_Rank.cap), (.slice h0_Ways.a h0_Ways.len h0_Ways.cap)]), (.int .i64 s0), (.int .i64 t0)] w R :=
  calls_is (cx := cx_postroadref13_Arcs.with CV) mixed_Try (cx_postroadref13_Arcs.ok.with CV) hcv Try.func7 sh_postroadlaw13_UnpackRoutes.plan (xs := [.v (.agg #[(.slice h0_Rank.a h0_Rank.len h0_Rank.cap), (.slice h0_Ways.a h0_Ways.len h0_Ways.cap)]), .v (.int .i64 s0), .v (.int .i64 t0)]) ((args_cons _ (args_cons _ (args_cons _ args_nil)))) (by kernel_rfl) (sh_postroadlaw13_UnpackRoutes.is CV h0_Rank h0_Ways s0 t0 w (fun v w' => R (.returned v) w')) h
def sh_postroadlaw13_UnpackRoutes.o : CVT → List X → (Value → World → Prop) → World → Prop
  | CV, [.v (.agg ⟨[.slice h0_Rank_a h0_Rank_l h0_Rank_c, .slice h0_Ways_a h0_Ways_l h0_Ways_c]⟩), .v (.int .i64 s0), .v (.int .i64 t0)], K, w => sh_postroadlaw13_UnpackRoutes CV ⟨h0_Rank_a, h0_Rank_l, h0_Rank_c⟩ ⟨h0_Ways_a, h0_Ways_l, h0_Ways_c⟩ s0 t0 (fun r0 w' => K (.bool r0) w') w
  | _, _, _, _ => False
def sh_postroadlaw13_UnpackRoutes.q : CVT → List X → World → (Value → Prop) → Prop
  | CV, [.v (.agg ⟨[.slice h0_Rank_a h0_Rank_l h0_Rank_c, .slice h0_Ways_a h0_Ways_l h0_Ways_c]⟩), .v (.int .i64 s0), .v (.int .i64 t0)], w, K => Quiet (Bool) (fun r => (.bool r)) (fun K1 w' => sh_postroadlaw13_UnpackRoutes CV ⟨h0_Rank_a, h0_Rank_l, h0_Rank_c⟩ ⟨h0_Ways_a, h0_Ways_l, h0_Ways_c⟩ s0 t0 (fun r0 w'' => K1 r0 w'') w') w (fun r => K (.bool r))
  | _, _, _, _ => False
noncomputable def cx_postroadlaw13_UnpackRoutes : Cx := Cx.add Try.prog cx_postroadref13_Arcs 7 sh_postroadlaw13_UnpackRoutes.o sh_postroadlaw13_UnpackRoutes.q
theorem cx_postroadlaw13_UnpackRoutes.ok : CxOk cx_postroadlaw13_UnpackRoutes := by
  refine CxOk.add cx_postroadref13_Arcs.ok rfl (fun CV hcv xs K w hx h => ?_) (fun CV hcv xs K w hx h => ?_)
  · unfold sh_postroadlaw13_UnpackRoutes.o at h; split at h
    · rename_i h0_Rank_a h0_Rank_l h0_Rank_c h0_Ways_a h0_Ways_l h0_Ways_c s0 t0; exact sh_postroadlaw13_UnpackRoutes.calls CV ⟨h0_Rank_a, h0_Rank_l, h0_Rank_c⟩ ⟨h0_Ways_a, h0_Ways_l, h0_Ways_c⟩ s0 t0 hcv h
    · exact h.elim
  · unfold sh_postroadlaw13_UnpackRoutes.q at h; split at h
    · rename_i h0_Rank_a h0_Rank_l h0_Rank_c h0_Ways_a h0_Ways_l h0_Ways_c s0 t0; obtain ⟨r, h1, h2⟩ := h; exact ⟨_, h2, fun w' e => sh_postroadlaw13_UnpackRoutes.calls CV ⟨h0_Rank_a, h0_Rank_l, h0_Rank_c⟩ ⟨h0_Ways_a, h0_Ways_l, h0_Ways_c⟩ s0 t0 hcv (h1 w' e)⟩
    · exact h.elim
def sh_postroadref07_All.plan : Plan := (.seq .o (.seq .o (.seq (.seq .o (.block (.loop [.slot 3 .slice, .slot 4 (.int .i64)] [] (.seq (.seq .o (.cond .o .o)) (.join [.slot 3 .slice] [] (.block (.seq .o (.join [] [] (.seq .o (.block (.loop [.slot 6 (.int .i64)] [] (.seq (.seq .o (.cond .o .o)) (.seq (.block .o) .o))))) (.seq .o (.join [] [] (.seq .o (.block (.loop [.slot 7 .bool] [] (.seq (.seq .o (.cond .o .o)) (.block (.seq .o (.seq .o (.block (.loop [.slot 7 .bool, .slot 8 (.int .i64)] [] (.seq (.seq .o (.cond .o .o)) (.join [.slot 7 .bool] [] (.block (.seq .o (.seq (.draw [] [.pure, .pure, .loc, .pure, .quiet, .pure, .pure, .pure, .pure, .loc, .pure, .quiet, .pure, .pure, .pure, .pure, .loc, .pure, .quiet, .pure, .loc, .pure, .pure, .pure, .loc, .pure, .quiet, .pure, .pure, .pure] [0, 1, 2, 3, 4, 5, 6, 7, 8, 9, 10, 11, 12, 13, 14, 15, 16, 17, 18, 19, 20, 21, 22, 23, 24, 25, 26, 27, 28, 29]) (.cond (.seq (.draw [] [.pure, .pure, .loc, .pure, .pure, .loc, .pure, .quiet, .pure, .loc, .pure, .pure, .big] [0, 1, 2, 3, 4, 5, 6, 7, 8, 9, 10, 11, 12]) .o) .o)))) .o))))))))))) .o))))) .o))))) (.seq .o .o))))
theorem sh_postroadref07_All.is (CV : CVT) (m0_N : Int) (m0_Arcs : SV) (w : World) (R : Value → World → Prop) : sh_postroadref07_All m0_N m0_Arcs (fun r0 w' => R (.slice r0.a r0.len r0.cap) w') w = denF (cx_postroadlaw13_UnpackRoutes.with CV) Try.f32 sh_postroadref07_All.plan [.v (.agg #[(.int .i64 m0_N), (.slice m0_Arcs.a m0_Arcs.len m0_Arcs.cap)])] w R := by kernel_rfl
theorem sh_postroadref07_All.calls (CV : CVT) (m0_N : Int) (m0_Arcs : SV) (hcv : CVOk Try.prog CV) {w : World} {R : Ending → World → Prop} (h : sh_postroadref07_All m0_N m0_Arcs (fun r0 w' => R (.returned (.slice r0.a r0.len r0.cap)) w') w) : Calls Try.prog 32 #[(.agg #[(.int .i64 m0_N), (.slice m0_Arcs.a m0_Arcs.len m0_Arcs.cap)])] w R :=
  calls_is (cx := cx_postroadlaw13_UnpackRoutes.with CV) mixed_Try (cx_postroadlaw13_UnpackRoutes.ok.with CV) hcv Try.func32 sh_postroadref07_All.plan (xs := [.v (.agg #[(.int .i64 m0_N), (.slice m0_Arcs.a m0_Arcs.len m0_Arcs.cap)])]) ((args_cons _ args_nil)) (by kernel_rfl) (sh_postroadref07_All.is CV m0_N m0_Arcs w (fun v w' => R (.returned v) w')) h
def sh_postroadref07_All.o : CVT → List X → (Value → World → Prop) → World → Prop
  | CV, [.v (.agg ⟨[.int .i64 m0_N, .slice m0_Arcs_a m0_Arcs_l m0_Arcs_c]⟩)], K, w => sh_postroadref07_All m0_N ⟨m0_Arcs_a, m0_Arcs_l, m0_Arcs_c⟩ (fun r0 w' => K (.slice r0.a r0.len r0.cap) w') w
  | _, _, _, _ => False
def sh_postroadref07_All.q : CVT → List X → World → (Value → Prop) → Prop
  | CV, [.v (.agg ⟨[.int .i64 m0_N, .slice m0_Arcs_a m0_Arcs_l m0_Arcs_c]⟩)], w, K => Quiet (SV) (fun r => (.slice r.a r.len r.cap)) (fun K1 w' => sh_postroadref07_All m0_N ⟨m0_Arcs_a, m0_Arcs_l, m0_Arcs_c⟩ (fun r0 w'' => K1 r0 w'') w') w (fun r => K (.slice r.a r.len r.cap))
  | _, _, _, _ => False
noncomputable def cx_postroadref07_All : Cx := Cx.add Try.prog cx_postroadlaw13_UnpackRoutes 32 sh_postroadref07_All.o sh_postroadref07_All.q
theorem cx_postroadref07_All.ok : CxOk cx_postroadref07_All := by
  refine CxOk.add cx_postroadlaw13_UnpackRoutes.ok rfl (fun CV hcv xs K w hx h => ?_) (fun CV hcv xs K w hx h => ?_)
  · unfold sh_postroadref07_All.o at h; split at h
    · rename_i m0_N m0_Arcs_a m0_Arcs_l m0_Arcs_c; exact sh_postroadref07_All.calls CV m0_N ⟨m0_Arcs_a, m0_Arcs_l, m0_Arcs_c⟩ hcv h
    · exact h.elim
  · unfold sh_postroadref07_All.q at h; split at h
    · rename_i m0_N m0_Arcs_a m0_Arcs_l m0_Arcs_c; obtain ⟨r, h1, h2⟩ := h; exact ⟨_, h2, fun w' e => sh_postroadref07_All.calls CV m0_N ⟨m0_Arcs_a, m0_Arcs_l, m0_Arcs_c⟩ hcv (h1 w' e)⟩
    · exact h.elim
def sh_postroadlaw13_UnpackWalks.plan : Plan := (.seq .o (.seq .o (.seq .o (.seq .o (.seq .o (.join [] [] (.seq .o (.block (.loop [.slot 11 (.int .i64)] [] (.seq (.seq .o (.cond .o .o)) (.join [] [] (.block (.seq .o (.seq (.seq .o (.cond (.seq .o .o) .o)) (.seq (.seq .o (.cond (.seq (.seq .o (.cond (.seq .o .o) .o)) .o) .o)) (.seq .o (.seq .o (.cond (.seq .o .o) .o))))))) .o))))) (.seq .o .o)))))))
theorem sh_postroadlaw13_UnpackWalks.is (CV : CVT) (n0 : Int) (arcs0 : SV) (a0 : Int) (w : World) (R : Value → World → Prop) : sh_postroadlaw13_UnpackWalks CV n0 arcs0 a0 (fun r0 w' => R (.bool r0) w') w = denF (cx_postroadref07_All.with CV) Try.f8 sh_postroadlaw13_UnpackWalks.plan [.v (.int .i64 n0), .v (.slice arcs0.a arcs0.len arcs0.cap), .v (.int .u8 a0)] w R := by kernel_rfl
theorem sh_postroadlaw13_UnpackWalks.calls (CV : CVT) (n0 : Int) (arcs0 : SV) (a0 : Int) (hcv : CVOk Try.prog CV) {w : World} {R : Ending → World → Prop} (h : sh_postroadlaw13_UnpackWalks CV n0 arcs0 a0 (fun r0 w' => R (.returned (.bool r0)) w') w) : Calls Try.prog 8 #[(.int .i64 n0), (.slice arcs0.a arcs0.len arcs0.cap), (.int .u8 a0)] w R :=
  calls_is (cx := cx_postroadref07_All.with CV) mixed_Try (cx_postroadref07_All.ok.with CV) hcv Try.func8 sh_postroadlaw13_UnpackWalks.plan (xs := [.v (.int .i64 n0), .v (.slice arcs0.a arcs0.len arcs0.cap), .v (.int .u8 a0)]) ((args_cons _ (args_cons _ (args_cons _ args_nil)))) (by kernel_rfl) (sh_postroadlaw13_UnpackWalks.is CV n0 arcs0 a0 w (fun v w' => R (.returned v) w')) h
def sh_postroadlaw13_UnpackWalks.o : CVT → List X → (Value → World → Prop) → World → Prop
  | CV, [.v (.int .i64 n0), .v (.slice arcs0_a arcs0_l arcs0_c), .v (.int .u8 a0)], K, w => sh_postroadlaw13_UnpackWalks CV n0 ⟨arcs0_a, arcs0_l, arcs0_c⟩ a0 (fun r0 w' => K (.bool r0) w') w
  | _, _, _, _ => False
def sh_postroadlaw13_UnpackWalks.q : CVT → List X → World → (Value → Prop) → Prop
  | CV, [.v (.int .i64 n0), .v (.slice arcs0_a arcs0_l arcs0_c), .v (.int .u8 a0)], w, K => Quiet (Bool) (fun r => (.bool r)) (fun K1 w' => sh_postroadlaw13_UnpackWalks CV n0 ⟨arcs0_a, arcs0_l, arcs0_c⟩ a0 (fun r0 w'' => K1 r0 w'') w') w (fun r => K (.bool r))
  | _, _, _, _ => False
noncomputable def cx_postroadlaw13_UnpackWalks : Cx := Cx.add Try.prog cx_postroadref07_All 8 sh_postroadlaw13_UnpackWalks.o sh_postroadlaw13_UnpackWalks.q
theorem cx_postroadlaw13_UnpackWalks.ok : CxOk cx_postroadlaw13_UnpackWalks := by
  refine CxOk.add cx_postroadref07_All.ok rfl (fun CV hcv xs K w hx h => ?_) (fun CV hcv xs K w hx h => ?_)
  · unfold sh_postroadlaw13_UnpackWalks.o at h; split at h
    · rename_i n0 arcs0_a arcs0_l arcs0_c a0; exact sh_postroadlaw13_UnpackWalks.calls CV n0 ⟨arcs0_a, arcs0_l, arcs0_c⟩ a0 hcv h
    · exact h.elim
  · unfold sh_postroadlaw13_UnpackWalks.q at h; split at h
    · rename_i n0 arcs0_a arcs0_l arcs0_c a0; obtain ⟨r, h1, h2⟩ := h; exact ⟨_, h2, fun w' e => sh_postroadlaw13_UnpackWalks.calls CV n0 ⟨arcs0_a, arcs0_l, arcs0_c⟩ a0 hcv (h1 w' e)⟩
    · exact h.elim
def sh_postroadlaw13_UnpackMeets.plan : Plan := (.seq .o (.seq (.seq .o (.cond (.seq .o .o) .o)) (.seq .o (.seq .o (.seq .o (.join [] [] (.seq .o (.cond (.seq .o .o) .o)) (.seq (.seq .o (.cond (.seq .o .o) .o)) (.seq .o (.seq .o (.seq .o (.join [.slot 13 (.int .i64), .slot 15 (.int .i64)] [] (.seq .o (.block (.loop [.slot 13 (.int .i64), .slot 14 .bool, .slot 15 (.int .i64), .slot 16 (.int .i64)] [] (.seq (.seq .o (.cond .o .o)) (.join [.slot 13 (.int .i64), .slot 14 .bool, .slot 15 (.int .i64)] [] (.block (.seq .o (.seq (.draw [] [.pure, .pure, .loc, .quiet, .pure, .pure, .loc, .quiet, .pure, .pure] [0, 1, 2, 3, 4, 5, 6, 7, 8, 9]) (.join [] [] (.seq .o (.cond (.seq .o .o) .o)) (.seq .o (.seq .o .o)))))) .o))))) (.seq .o .o))))))))))))
theorem sh_postroadlaw13_UnpackMeets.is (CV : CVT) (h0_Rank : SV) (h0_Ways : SV) (s0 : Int) (t0 : Int) (w : World) (R : Value → World → Prop) : sh_postroadlaw13_UnpackMeets CV h0_Rank h0_Ways s0 t0 (fun r0 w' => R (.bool r0) w') w = denF (cx_postroadlaw13_UnpackWalks.with CV) Try.f9 sh_postroadlaw13_UnpackMeets.plan [.v (.agg #[(.slice h0_Rank.a h0_Rank.len h0_Rank.cap), (.slice h0_Ways.a h0_Ways.len h0_Ways.cap)]), .v (.int .i64 s0), .v (.int .i64 t0)] w R := by kernel_rfl
theorem sh_postroadlaw13_UnpackMeets.calls (CV : CVT) (h0_Rank : SV) (h0_Ways : SV) (s0 : Int) (t0 : Int) (hcv : CVOk Try.prog CV) {w : World} {R : Ending → World → Prop} (h : sh_postroadlaw13_UnpackMeets CV h0_Rank h0_Ways s0 t0 (fun r0 w' => R (.returned (.bool r0)) w') w) : Calls Try.prog 9 #[(.agg #[(.slice h0_Rank.a h0_Rank.len h0_Rank.cap), (.slice h0_Ways.a h0_Ways.len h0_Ways.cap)]), (.int .i64 s0), (.int .i64 t0)] w R :=
  calls_is (cx := cx_postroadlaw13_UnpackWalks.with CV) mixed_Try (cx_postroadlaw13_UnpackWalks.ok.with CV) hcv Try.func9 sh_postroadlaw13_UnpackMeets.plan (xs := [.v (.agg #[(.slice h0_Rank.a h0_Rank.len h0_Rank.cap), (.slice h0_Ways.a h0_Ways.len h0_Ways.cap)]), .v (.int .i64 s0), .v (.int .i64 t0)]) ((args_cons _ (args_cons _ (args_cons _ args_nil)))) (by kernel_rfl) (sh_postroadlaw13_UnpackMeets.is CV h0_Rank h0_Ways s0 t0 w (fun v w' => R (.returned v) w')) h
def sh_postroadlaw13_UnpackMeets.o : CVT → List X → (Value → World → Prop) → World → Prop
  | CV, [.v (.agg ⟨[.slice h0_Rank_a h0_Rank_l h0_Rank_c, .slice h0_Ways_a h0_Ways_l h0_Ways_c]⟩), .v (.int .i64 s0), .v (.int .i64 t0)], K, w => sh_postroadlaw13_UnpackMeets CV ⟨h0_Rank_a, h0_Rank_l, h0_Rank_c⟩ ⟨h0_Ways_a, h0_Ways_l, h0_Ways_c⟩ s0 t0 (fun r0 w' => K (.bool r0) w') w
  | _, _, _, _ => False
def sh_postroadlaw13_UnpackMeets.q : CVT → List X → World → (Value → Prop) → Prop
  | CV, [.v (.agg ⟨[.slice h0_Rank_a h0_Rank_l h0_Rank_c, .slice h0_Ways_a h0_Ways_l h0_Ways_c]⟩), .v (.int .i64 s0), .v (.int .i64 t0)], w, K => Quiet (Bool) (fun r => (.bool r)) (fun K1 w' => sh_postroadlaw13_UnpackMeets CV ⟨h0_Rank_a, h0_Rank_l, h0_Rank_c⟩ ⟨h0_Ways_a, h0_Ways_l, h0_Ways_c⟩ s0 t0 (fun r0 w'' => K1 r0 w'') w') w (fun r => K (.bool r))
  | _, _, _, _ => False
noncomputable def cx_postroadlaw13_UnpackMeets : Cx := Cx.add Try.prog cx_postroadlaw13_UnpackWalks 9 sh_postroadlaw13_UnpackMeets.o sh_postroadlaw13_UnpackMeets.q
theorem cx_postroadlaw13_UnpackMeets.ok : CxOk cx_postroadlaw13_UnpackMeets := by
  refine CxOk.add cx_postroadlaw13_UnpackWalks.ok rfl (fun CV hcv xs K w hx h => ?_) (fun CV hcv xs K w hx h => ?_)
  · unfold sh_postroadlaw13_UnpackMeets.o at h; split at h
    · rename_i h0_Rank_a h0_Rank_l h0_Rank_c h0_Ways_a h0_Ways_l h0_Ways_c s0 t0; exact sh_postroadlaw13_UnpackMeets.calls CV ⟨h0_Rank_a, h0_Rank_l, h0_Rank_c⟩ ⟨h0_Ways_a, h0_Ways_l, h0_Ways_c⟩ s0 t0 hcv h
    · exact h.elim
  · unfold sh_postroadlaw13_UnpackMeets.q at h; split at h
    · rename_i h0_Rank_a h0_Rank_l h0_Rank_c h0_Ways_a h0_Ways_l h0_Ways_c s0 t0; obtain ⟨r, h1, h2⟩ := h; exact ⟨_, h2, fun w' e => sh_postroadlaw13_UnpackMeets.calls CV ⟨h0_Rank_a, h0_Rank_l, h0_Rank_c⟩ ⟨h0_Ways_a, h0_Ways_l, h0_Ways_c⟩ s0 t0 hcv (h1 w' e)⟩
    · exact h.elim
noncomputable def cxAll : Cx := cx_postroadlaw13_UnpackMeets
theorem cxAll.ok : CxOk cxAll := cx_postroadlaw13_UnpackMeets.ok
end Go.Sh

/- Space's function values are known. -/
set_option maxRecDepth 100000
namespace Go.Sh
open Go.RowKit Go.Proofs

noncomputable def gCV : CVT := CVn cxAll 2
theorem gCV_cv : CVOk Try.prog gCV := CVn_ok cxAll.ok 2
set_option linter.unusedVariables false in
theorem mCV_ok : MayCV (CVn cxAll 1) where
  all r K w h := h
set_option linter.unusedVariables false in
theorem sCV_ok : SpaceCV gCV where
  way := ⟨fun h v K w q => q, fun h v K w q => q⟩
  rows := ⟨_, mCV_ok, fun v a b c K w q => q⟩
end Go.Sh

/- unpack's function values are known. -/
set_option maxRecDepth 100000
namespace Go.Sh
open Go.RowKit Go.Proofs

set_option linter.unusedVariables false in
theorem hfCV_ok : HFindCV (CVn cxAll 1) where
  hf h u v K w q := q
  ff u v a K w q := q
set_option linter.unusedVariables false in
theorem uCV_ok : UnCV gCV where
  sp := sCV_ok
  ch := ⟨fun k a K w q => q, ⟨_, hfCV_ok, fun u a b c K w q => q⟩⟩
end Go.Sh

/- A law's arguments, opened; a law's row, shut. -/
namespace Go.Sh
open Go.RowKit Go.ChangeShapes Go.WideShapes Go.ChangeAt

section
variable {H : Type} {enc : TypeId × Value → H} {P : Program} {w : World} {base : Nat} {spare : Nat → Bool} {held : Bool}

/-- A slice that came in is read. -/
theorem open_view {α : Type} (R : Rc α) (Wf : α → Prop) {t e : TypeId} {fuel : Nat} {cs : List Value} {x : DataW H × List MemPlace} (ht : P.underlying t = some (.slice e)) (hc : P.cellsOf e = R.sz)
    (hel : ∀ (fuel : Nat) (cs : List Value) (y : DataW H × List MemPlace), DataW.trod enc P w base spare held fuel e cs = some y → ∃ a : α, cs = R.enc a ∧ Wf a)
    (h : DataW.trod enc P w base spare held fuel t cs = some x) : ∃ (s : SV) (xs : List α), cs = [.slice s.a s.len s.cap] ∧ View R w s xs ∧ (∀ a ∈ xs, Wf a) ∧ xs.length ≤ maxLen := by
  rcases DataW.trod_slice ht h with ⟨h0, _⟩ | ⟨a, len, cap, elems, rest, n, _, rfl, rfl, hb, hl, hm, hlen, hels, _, _⟩
  · exact ⟨⟨none, 0, 0⟩, [], h0, ⟨rfl, fun h => absurd rfl h, fun i x hx => by simp at hx⟩, fun _ h => by simp at h, by simp [maxLen]⟩
  · have each : ∀ i, i < len → ∃ z : α, Wf z ∧ ∀ j v, (R.enc z)[j]? = some v → w.cell? ((a.add (i * R.sz)).add j) = some v := by
      intro i hi
      have h1 := hels i hi
      rw [List.getElem?_eq_getElem (by omega), hc, Option.bind_eq_some_iff] at h1
      obtain ⟨cs', hcs, hy⟩ := h1
      obtain ⟨z, rfl, hz⟩ := hel _ _ _ hy
      refine ⟨z, hz, fun j v hv => ?_⟩
      have := (World.cells?_some hcs).2.2 j (by rw [← R.len z]; exact (List.getElem?_eq_some_iff.1 hv).1)
      rw [this]; exact hv
    have spot : 0 < len → a.spot = none := fun h0 => by
      obtain ⟨z, _, hz⟩ := each 0 h0
      have hp : 0 < (R.enc z).length := by rw [R.len]; exact R.pos
      have := hz 0 _ (List.getElem?_eq_getElem hp)
      rw [Nat.zero_mul] at this
      have e0 : (a.add 0).add 0 = a := by simp [Addr.add]
      rw [e0] at this
      unfold World.cell? at this
      split at this
      · split at this
        · cases this
        · rename_i hs; simpa using hs
      · cases this
    let f : Nat → α := fun i => if h : i < len then (each i h).choose else R.z
    have hf : ∀ i (hi : i < len), Wf (f i) ∧ ∀ j v, (R.enc (f i))[j]? = some v → w.cell? ((a.add (i * R.sz)).add j) = some v := fun i hi => by
      simp only [f, dif_pos hi]; exact (each i hi).choose_spec
    refine ⟨⟨some a, len, cap⟩, (List.range len).map f, rfl, ⟨by simp, fun hne p hp => ?_, fun i x hx => ?_⟩, fun x hx => ?_, by simp; omega⟩
    · cases hp
      refine spot ?_
      rcases Nat.eq_zero_or_pos len with h0 | h0
      · subst h0; simp at hne
      · exact h0
    · have hi : i < len := by have := (List.getElem?_eq_some_iff.1 hx).1; simpa using this
      rw [List.getElem?_map, List.getElem?_range hi] at hx
      injection hx with hx
      subst hx
      refine ⟨a, rfl, fun j v hv => ?_⟩
      have := (hf i hi).2 j v hv
      have hs := spot (by omega)
      rw [add_add _ hs, add_add _ rfl] at this
      exact this
    · obtain ⟨i, hi, rfl⟩ := List.mem_map.1 hx
      exact (hf i (List.mem_range.1 hi)).1

theorem in64_wf {n : Int} (hw : (Lit.int .i64 n).wf = true) : In64 n := by
  simp only [Lit.wf, Bool.and_eq_true, decide_eq_true_eq] at hw
  have h1 : IntKind.i64.min = -9223372036854775808 := by decide
  have h2 : IntKind.i64.max = 9223372036854775807 := by decide
  rw [h1, h2] at hw
  exact ⟨hw.1, by omega⟩

/-- A struct of ints that came in. -/
theorem trod_ints {t : TypeId} {fs : Array Field} {fuel : Nat} {cs : List Value} {x : DataW H × List MemPlace} (ht : P.underlying t = some (.struct fs)) (hc : P.cellsOf t = fs.size)
    (hf : ∀ (j : Nat) (f : Field), fs[j]? = some f → f.offset = j ∧ P.cellsOf f.type = 1 ∧ P.underlying f.type = some (.int .i64))
    (h : DataW.trod enc P w base spare held fuel t cs = some x) : ∃ xs : List Int, cs = xs.map (Value.int .i64) ∧ xs.length = fs.size ∧ ∀ n ∈ xs, In64 n := by
  obtain ⟨ys, n, _, _, hl, hyl, hel⟩ := DataW.trod_struct ht h
  have each : ∀ j, j < fs.size → ∃ n, cs[j]? = some (.int .i64 n) ∧ In64 n := fun j hj => by
    obtain ⟨h1, h2, h3⟩ := hf j fs[j] (Array.getElem?_eq_getElem hj)
    have h4 := hel j fs[j] (Array.getElem?_eq_getElem hj)
    rw [List.getElem?_eq_getElem (by omega), h1, h2] at h4
    obtain ⟨m, hm, _, hw⟩ := DataW.trod_int h3 h4
    have hjl : j < cs.length := by omega
    refine ⟨m, ?_, ?_⟩
    · have : (List.take 1 (List.drop j cs))[0]? = some (Value.int .i64 m) := by rw [hm]; rfl
      rw [List.getElem?_take, if_pos (by omega), List.getElem?_drop] at this
      simpa using this
    · simp only [Lit.wf, Bool.and_eq_true, decide_eq_true_eq] at hw
      have h1 : IntKind.i64.min = -9223372036854775808 := by decide
      have h2 : IntKind.i64.max = 9223372036854775807 := by decide
      rw [h1, h2] at hw
      exact ⟨hw.1, by omega⟩
  let f : Nat → Int := fun j => if h : j < fs.size then (each j h).choose else 0
  have hfj : ∀ j, j < fs.size → cs[j]? = some (.int .i64 (f j)) ∧ In64 (f j) := fun j hj => by
    simp only [f, dif_pos hj]; exact (each j hj).choose_spec
  refine ⟨(List.range fs.size).map f, ?_, by simp, fun n hn => ?_⟩
  · apply List.ext_getElem?
    intro j
    by_cases hj : j < fs.size
    · rw [(hfj j hj).1, List.getElem?_map, List.getElem?_map, List.getElem?_range hj]; rfl
    · rw [List.getElem?_eq_none (by omega), List.getElem?_eq_none (by simp; omega)]
  · obtain ⟨j, hj, rfl⟩ := List.mem_map.1 hn
    exact (hfj j (List.mem_range.1 hj)).2

theorem trodAll_below {W W' : World} (hl : laidOutB P = true) (hB : Below W.heap.size W W') : ∀ {ts : List TypeId} {vs : List Value} {ds : List (DataW H)} {ps : List MemPlace},
    (∀ t ∈ ts, P.readableRec t = true ∧ t < P.types.size) → DataW.TrodAll enc P W 0 (fun _ => true) true ts vs ds ps → (∀ x ∈ ps, x.block < W.heap.size) →
    DataW.TrodAll enc P W' 0 (fun b => decide (b < W.heap.size)) true ts vs ds ps
  | [], vs, ds, ps, _, h, _ => by
    obtain ⟨rfl, rfl, rfl⟩ := trodAll_nil h
    exact trodAll_mk0
  | t :: ts, vs, ds, ps, hr, h, hp => by
    obtain ⟨v, vs', d, ds', p, q, rfl, rfl, rfl, h1, h2⟩ := trodAll_cons h
    exact trodAll_cons_mk (Below.trod hl (hr t List.mem_cons_self).1 (hr t List.mem_cons_self).2 h1 hB fun x hx => hp x (List.mem_append_left _ hx))
      (trodAll_below hl hB (fun t' ht' => hr t' (List.mem_cons_of_mem _ ht')) h2 fun x hx => hp x (List.mem_append_right _ hx))

/-- A law's row, behind its walk. -/
theorem law_post {f : Func} {s : ChangeSpec} {W W' : World} {args : Array Value} {ds gs : List (DataW H)} {before : List MemPlace} {tb : TypeId} (hl : laidOutB P = true) (hrb : (f.params.toList.all fun t => P.readableRec t && Nat.blt t P.types.size) = true)
    (hres : f.resultTypes = #[tb]) (htb : P.underlying tb = some .bool) (hv : s.vars = []) (hspec : s.fn H ds = { results := [.lit (.bool true)], args := ds })
    (hW : DataW.Whole enc P f.params.toList s.vars false W args.toList ds gs before) (hB : Below W.heap.size W W') : s.post enc P f false true false false W args (.bool true) W' := by
  have hr : ∀ t ∈ f.params.toList, P.readableRec t = true ∧ t < P.types.size := fun t ht => by
    have := List.all_eq_true.1 hrb t ht
    simpa using this
  have hlt := fun x hx => hW.lt x hx
  have hW' := hW
  obtain ⟨p, q, hA, hV, rfl, _, _⟩ := hW
  rw [hv] at hV
  obtain ⟨rfl, rfl⟩ := trodVars_none hV
  rw [List.append_nil] at hW' hlt
  refine ⟨ds, [], p, [], p, [], hW', ?_, ?_, ?_, hB.frame _, fun h => by cases h⟩
  · rw [hres, List.append_nil, hspec]
    exact trodAll_mk1 (shut_bool htb true)
  · rw [List.append_nil, hspec]
    exact trodAll_below hl hB hr hA hlt
  · rw [hv, List.append_nil, hspec]; rfl
end
end Go.Sh

/- What this seat's rows lean on: inputs, opened; printed by row.py of these sessions. -/
set_option maxRecDepth 100000
set_option linter.unusedVariables false
namespace Go.Proofs.Ytagidkbhehpeoaa
open Go.ChangeShapes Go.WideShapes Go.ChangeAt Go.RowKit Go.Sh

theorem ownK : ownKnob Try.prog.godebug = none := by kernel_rfl
theorem laidK : laidOutB Try.prog = true := by kernel_rfl
def OkY (y : Wy) : Prop := In64 (yF y) ∧ In64 (yT y) ∧ In64 (yW y) ∧ In64 (yM y) ∧ In64 (yA y)

section
variable {H : Type} {enc : TypeId × Value → H} {w : World} {base : Nat} {spare : Nat → Bool} {held : Bool}
theorem int_el (fuel : Nat) (cs : List Value) (y : DataW H × List MemPlace)
    (h : DataW.trod enc Try.prog w base spare held fuel 3 cs = some y) : ∃ a : Int, cs = RI.enc a ∧ In64 a := by
  obtain ⟨m, rfl, _, hw⟩ := DataW.trod_int Try.underlying3 h
  exact ⟨m, rfl, in64_wf hw⟩
theorem short_el (fuel : Nat) (cs : List Value) (y : DataW H × List MemPlace)
    (h : DataW.trod enc Try.prog w base spare held fuel 43 cs = some y) : ∃ a : Wy, cs = RW.enc a ∧ OkY a := by
  obtain ⟨ys, n, _, _, hl, hyl, hel⟩ := DataW.trod_struct Try.underlying43 h
  have hl2 : cs.length = 5 := by rw [hl]; kernel_rfl
  have h0 := hel 0 _ rfl
  have h1 := hel 1 _ rfl
  have h2 := hel 2 _ rfl
  match cs, hl2 with
  | [c0, c1, c2, c3, c4], _ =>
    have hy : ys.length = 3 := by rw [hyl]; rfl
    match ys, hy with
    | [y0, y1, y2], _ =>
      change DataW.trod enc Try.prog w base spare held n 3 (List.take (Try.prog.cellsOf 3) [c0, c1, c2, c3, c4]) = some y0 at h0
      change DataW.trod enc Try.prog w base spare held n 3 (List.take (Try.prog.cellsOf 3) [c1, c2, c3, c4]) = some y1 at h1
      change DataW.trod enc Try.prog w base spare held n 41 (List.take (Try.prog.cellsOf 41) [c2, c3, c4]) = some y2 at h2
      have q3 : Try.prog.cellsOf 3 = 1 := by kernel_rfl
      have q44 : Try.prog.cellsOf 41 = 3 := by kernel_rfl
      rw [q3] at h0 h1; rw [q44] at h2
      change DataW.trod enc Try.prog w base spare held n 3 [c0] = some y0 at h0
      change DataW.trod enc Try.prog w base spare held n 3 [c1] = some y1 at h1
      change DataW.trod enc Try.prog w base spare held n 41 [c2, c3, c4] = some y2 at h2
      obtain ⟨f, hf, _, wf⟩ := DataW.trod_int Try.underlying3 h0
      obtain ⟨t, ht, _, wt⟩ := DataW.trod_int Try.underlying3 h1
      obtain ⟨xs, hxs, hl3, hw⟩ := trod_ints Try.underlying41 (by kernel_rfl) (fun j f hj => by
        match j, hj with
        | 0, hj => cases hj; exact ⟨rfl, by kernel_rfl, Try.underlying3⟩
        | 1, hj => cases hj; exact ⟨rfl, by kernel_rfl, Try.underlying3⟩
        | 2, hj => cases hj; exact ⟨rfl, by kernel_rfl, Try.underlying3⟩
        | n + 3, hj => simp at hj) h2
      match xs, hl3, hw, hxs with
      | [a, b, c], _, hw, hxs =>
        simp only [List.map_cons, List.map_nil, List.cons.injEq, and_true] at hf ht hxs
        obtain ⟨rfl, rfl, rfl⟩ := hxs
        subst hf ht
        exact ⟨(f, t, a, b, c), rfl, in64_wf wf, in64_wf wt, hw a (by simp), hw b (by simp), hw c (by simp)⟩
theorem hier_el {fuel : Nat} {cs : List Value} {y : DataW H × List MemPlace}
    (h : DataW.trod enc Try.prog w base spare held fuel 25 cs = some y) : ∃ (sr sy : SV) (rank : List Int) (ways : List Wy), cs = [.slice sr.a sr.len sr.cap, .slice sy.a sy.len sy.cap] ∧ View RI w sr rank ∧ View RW w sy ways ∧
      (∀ a ∈ rank, In64 a) ∧ (∀ a ∈ ways, OkY a) ∧ rank.length ≤ maxLen ∧ ways.length ≤ maxLen := by
  obtain ⟨ys, n, _, _, hl, hyl, hel⟩ := DataW.trod_struct Try.underlying25 h
  have hl2 : cs.length = 2 := by rw [hl]; kernel_rfl
  have h0 := hel 0 _ rfl
  have h1 := hel 1 _ rfl
  match cs, hl2 with
  | [c0, c1], _ =>
    have hy : ys.length = 2 := by rw [hyl]; rfl
    match ys, hy with
    | [y0, y1], _ =>
      change DataW.trod enc Try.prog w base spare held n 22 (List.take (Try.prog.cellsOf 22) [c0, c1]) = some y0 at h0
      change DataW.trod enc Try.prog w base spare held n 23 (List.take (Try.prog.cellsOf 23) [c1]) = some y1 at h1
      have q22 : Try.prog.cellsOf 22 = 1 := by kernel_rfl
      have q23 : Try.prog.cellsOf 23 = 1 := by kernel_rfl
      rw [q22] at h0; rw [q23] at h1
      change DataW.trod enc Try.prog w base spare held n 22 [c0] = some y0 at h0
      change DataW.trod enc Try.prog w base spare held n 23 [c1] = some y1 at h1
      obtain ⟨sr, rank, hs, hv, hx, hle⟩ := open_view RI In64 Try.underlying22 (by kernel_rfl) int_el h0
      obtain ⟨sy, ways, hs2, hv2, hx2, hle2⟩ := open_view RW OkY Try.underlying23 (by kernel_rfl) short_el h1
      simp only [List.cons.injEq, and_true] at hs hs2
      subst hs hs2
      exact ⟨sr, sy, rank, ways, rfl, hv, hv2, hx, hx2, hle, hle2⟩
end
end Go.Proofs.Ytagidkbhehpeoaa
