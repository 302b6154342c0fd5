/- AllOk, SpCV, QuCV, Open, RowK: merged into one text. -/
import Derived.Test.YtnonlclcjdmecaaP3
import Derived.Test.YtnonlclcjdmecaaP5
import Derived.Test.YtnonlclcjdmecaaP4
import Derived.Test.YtnonlclcjdmecaaP2
import Derived.ProofKit
import Derived.OpenShut
import Derived.Test.YtnonlclcjdmecaaRows
import Derived.WalkKit
import Derived.SizedLaws
/- The shallow definitions are what the code asks; printed by gen.py of these sessions. -/
set_option maxRecDepth 100000
set_option linter.unusedVariables false
namespace Go.Sh
open Go.Proofs
def sh_postroadlaw12_QueryTables.plan : Plan := (.seq .o (.seq (.seq .o (.cond (.seq .o .o) .o)) (.seq .o (.seq .o (.seq .o (.seq .o (.seq .o (.seq .o (.seq (.seq .o (.cond (.seq .o .o) .o)) (.join [] [] (.seq .o (.block (.loop [.slot 13 (.int .i64)] [] (.seq (.seq .o (.cond .o .o)) (.join [] [] (.block (.seq (.seq (.draw [] [.pure, .pure, .pure, .quiet, .pure, .pure, .pure, .pure, .pure, .pure, .pure, .pure, .quiet, .pure, .pure, .pure, .pure, .pure, .pure, .quiet, .quiet, .pure, .pure, .pure, .pure, .pure, .pure, .pure, .quiet, .pure, .big, .pure, .pure, .pure, .rd, .quiet, .pure, .pure, .pure, .pure, .pure, .pure, .rd, .pure, .pure, .pure, .rd, .pure, .pure, .pure, .pure, .quiet, .pure, .big, .pure, .pure] [0, 1, 2, 3, 4, 5, 6, 7, 8, 9, 10, 11, 12, 13, 14, 15, 16, 17, 18, 19, 20, 21, 22, 23, 24, 25, 26, 27, 28, 29, 31, 32, 33, 34, 30, 35, 36, 37, 38, 39, 40, 41, 42, 43, 44, 45, 46, 47, 48, 49, 50, 51, 52, 53, 54, 55]) (.cond (.seq .o .o) .o)) (.seq .o (.block (.loop [.slot 14 (.int .i64)] [] (.seq (.seq .o (.cond .o .o)) (.join [] [] (.block (.seq (.draw [] [.pure, .pure, .pure, .quiet, .pure, .pure, .pure, .quiet, .pure, .pure, .pure, .pure, .pure, .quiet, .pure, .pure, .pure, .quiet, .quiet, .pure, .pure] [0, 1, 2, 3, 4, 5, 6, 7, 8, 9, 10, 11, 12, 13, 14, 15, 16, 17, 18, 19, 20]) (.cond (.seq .o .o) .o))) .o))))))) .o))))) (.seq .o .o)))))))))))
theorem sh_postroadlaw12_QueryTables.is (CV : CVT) (h0_Rank : SV) (h0_Ways : SV) (ss0 : SV) (ts0 : SV) (more0 : Int) (w : World) (R : Value → World → Prop) : sh_postroadlaw12_QueryTables CV h0_Rank h0_Ways ss0 ts0 more0 (fun r0 w' => R (.bool r0) w') w = denF (cx_postroadlaw12_QueryMany.with CV) Try.f6 sh_postroadlaw12_QueryTables.plan [.v (.agg #[(.slice h0_Rank.a h0_Rank.len h0_Rank.cap), (.slice h0_Ways.a h0_Ways.len h0_Ways.cap)]), .v (.slice ss0.a ss0.len ss0.cap), .v (.slice ts0.a ts0.len ts0.cap), .v (.int .i64 more0)] w R := by kernel_rfl
theorem sh_postroadlaw12_QueryTables.calls (CV : CVT) (h0_Rank : SV) (h0_Ways : SV) (ss0 : SV) (ts0 : SV) (more0 : Int) (hcv : CVOk Try.prog CV) {w : World} {R : Ending → World → Prop} (h : sh_postroadlaw12_QueryTables CV h0_Rank h0_Ways ss0 ts0 more0 (fun r0 w' => R (.returned (.bool r0)) w') w) : Calls Try.prog 6 #[(.agg #[(.slice h0_Rank.a h0_Rank.len h0_Rank.cap), (.slice h0_Ways.a h0_Ways.len h0_Ways.cap)]), (.slice ss0.a ss0.len ss0.cap), (.slice ts0.a ts0.len ts0.cap), (.int .i64 more0)] w R :=
  calls_is (cx := cx_postroadlaw12_QueryMany.with CV) mixed_Try (cx_postroadlaw12_QueryMany.ok.with CV) hcv Try.func6 sh_postroadlaw12_QueryTables.plan (xs := [.v (.agg #[(.slice h0_Rank.a h0_Rank.len h0_Rank.cap), (.slice h0_Ways.a h0_Ways.len h0_Ways.cap)]), .v (.slice ss0.a ss0.len ss0.cap), .v (.slice ts0.a ts0.len ts0.cap), .v (.int .i64 more0)]) ((args_cons _ (args_cons _ (args_cons _ (args_cons _ args_nil))))) (by kernel_rfl) (sh_postroadlaw12_QueryTables.is CV h0_Rank h0_Ways ss0 ts0 more0 w (fun v w' => R (.returned v) w')) h
def sh_postroadlaw12_QueryTables.o : CVT → List X → (Value → World → Prop) → World → Prop
  | CV, [.v (.agg ⟨[.slice h0_Rank_a h0_Rank_l h0_Rank_c, .slice h0_Ways_a h0_Ways_l h0_Ways_c]⟩), .v (.slice ss0_a ss0_l ss0_c), .v (.slice ts0_a ts0_l ts0_c), .v (.int .i64 more0)], K, w => sh_postroadlaw12_QueryTables CV ⟨h0_Rank_a, h0_Rank_l, h0_Rank_c⟩ ⟨h0_Ways_a, h0_Ways_l, h0_Ways_c⟩ ⟨ss0_a, ss0_l, ss0_c⟩ ⟨ts0_a, ts0_l, ts0_c⟩ more0 (fun r0 w' => K (.bool r0) w') w
  | _, _, _, _ => False
def sh_postroadlaw12_QueryTables.q : CVT → List X → World → (Value → Prop) → Prop
  | CV, [.v (.agg ⟨[.slice h0_Rank_a h0_Rank_l h0_Rank_c, .slice h0_Ways_a h0_Ways_l h0_Ways_c]⟩), .v (.slice ss0_a ss0_l ss0_c), .v (.slice ts0_a ts0_l ts0_c), .v (.int .i64 more0)], w, K => Quiet (Bool) (fun r => (.bool r)) (fun K1 w' => sh_postroadlaw12_QueryTables CV ⟨h0_Rank_a, h0_Rank_l, h0_Rank_c⟩ ⟨h0_Ways_a, h0_Ways_l, h0_Ways_c⟩ ⟨ss0_a, ss0_l, ss0_c⟩ ⟨ts0_a, ts0_l, ts0_c⟩ more0 (fun r0 w'' => K1 r0 w'') w') w (fun r => K (.bool r))
  | _, _, _, _ => False
noncomputable def cx_postroadlaw12_QueryTables : Cx := Cx.add Try.prog cx_postroadlaw12_QueryMany 6 sh_postroadlaw12_QueryTables.o sh_postroadlaw12_QueryTables.q
theorem cx_postroadlaw12_QueryTables.ok : CxOk cx_postroadlaw12_QueryTables := by
  refine CxOk.add cx_postroadlaw12_QueryMany.ok rfl (fun CV hcv xs K w hx h => ?_) (fun CV hcv xs K w hx h => ?_)
  · unfold sh_postroadlaw12_QueryTables.o at h; split at h
    · rename_i h0_Rank_a h0_Rank_l h0_Rank_c h0_Ways_a h0_Ways_l h0_Ways_c ss0_a ss0_l ss0_c ts0_a ts0_l ts0_c more0; exact sh_postroadlaw12_QueryTables.calls CV ⟨h0_Rank_a, h0_Rank_l, h0_Rank_c⟩ ⟨h0_Ways_a, h0_Ways_l, h0_Ways_c⟩ ⟨ss0_a, ss0_l, ss0_c⟩ ⟨ts0_a, ts0_l, ts0_c⟩ more0 hcv h
    · exact h.elim
  · unfold sh_postroadlaw12_QueryTables.q at h; split at h
    · rename_i h0_Rank_a h0_Rank_l h0_Rank_c h0_Ways_a h0_Ways_l h0_Ways_c ss0_a ss0_l ss0_c ts0_a ts0_l ts0_c more0; obtain ⟨r, h1, h2⟩ := h; exact ⟨_, h2, fun w' e => sh_postroadlaw12_QueryTables.calls CV ⟨h0_Rank_a, h0_Rank_l, h0_Rank_c⟩ ⟨h0_Ways_a, h0_Ways_l, h0_Ways_c⟩ ⟨ss0_a, ss0_l, ss0_c⟩ ⟨ts0_a, ts0_l, ts0_c⟩ more0 hcv (h1 w' e)⟩
    · exact h.elim
def sh_query_search_first.plan : Plan := (.seq .o (.seq .o (.seq .o .o)))
theorem sh_query_search_first.is (CV : CVT) (x0 : Option Addr) (best0 : Int) (w : World) (R : Value → World → Prop) : sh_query_search_first x0 best0 (fun r0 r1 w' => R (.tuple #[(.int .i64 r0), (.bool r1)]) w') w = denF (cx_postroadlaw12_QueryTables.with CV) Try.f54 sh_query_search_first.plan [.v (.pointer x0), .v (.int .i64 best0)] w R := by kernel_rfl
theorem sh_query_search_first.calls (CV : CVT) (x0 : Option Addr) (best0 : Int) (hcv : CVOk Try.prog CV) {w : World} {R : Ending → World → Prop} (h : sh_query_search_first x0 best0 (fun r0 r1 w' => R (.returned (.tuple #[(.int .i64 r0), (.bool r1)])) w') w) : Calls Try.prog 54 #[(.pointer x0), (.int .i64 best0)] w R :=
  calls_is (cx := cx_postroadlaw12_QueryTables.with CV) mixed_Try (cx_postroadlaw12_QueryTables.ok.with CV) hcv Try.func54 sh_query_search_first.plan (xs := [.v (.pointer x0), .v (.int .i64 best0)]) ((args_cons _ (args_cons _ args_nil))) (by kernel_rfl) (sh_query_search_first.is CV x0 best0 w (fun v w' => R (.returned v) w')) h
def sh_query_search_first.o : CVT → List X → (Value → World → Prop) → World → Prop
  | CV, [.v (.pointer x0), .v (.int .i64 best0)], K, w => sh_query_search_first x0 best0 (fun r0 r1 w' => K (.tuple #[(.int .i64 r0), (.bool r1)]) w') w
  | _, _, _, _ => False
def sh_query_search_first.q : CVT → List X → World → (Value → Prop) → Prop
  | CV, [.v (.pointer x0), .v (.int .i64 best0)], w, K => Quiet (Int × Bool) (fun r => (.tuple #[(.int .i64 r.1), (.bool r.2)])) (fun K1 w' => sh_query_search_first x0 best0 (fun r0 r1 w'' => K1 (r0, r1) w'') w') w (fun r => K (.tuple #[(.int .i64 r.1), (.bool r.2)]))
  | _, _, _, _ => False
noncomputable def cx_query_search_first : Cx := Cx.add Try.prog cx_postroadlaw12_QueryTables 54 sh_query_search_first.o sh_query_search_first.q
theorem cx_query_search_first.ok : CxOk cx_query_search_first := by
  refine CxOk.add cx_postroadlaw12_QueryTables.ok rfl (fun CV hcv xs K w hx h => ?_) (fun CV hcv xs K w hx h => ?_)
  · unfold sh_query_search_first.o at h; split at h
    · rename_i x0 best0; exact sh_query_search_first.calls CV x0 best0 hcv h
    · exact h.elim
  · unfold sh_query_search_first.q at h; split at h
    · rename_i x0 best0; obtain ⟨r, h1, h2⟩ := h; exact ⟨_, h2, fun w' e => sh_query_search_first.calls CV x0 best0 hcv (h1 w' e)⟩
    · exact h.elim
def sh_query_search_step.plan : Plan := (.seq .o (.seq .o (.seq .o (.seq (.seq .o (.block (.loop [.slot 34 (.int .i64)] [] (.seq .o (.seq (.cond .o .o) (.seq (.block (.seq .o (.seq (.draw [] [.pure, .pure, .pure, .quiet, .pure, .loc, .quiet, .pure, .pure, .pure, .pure, .pure] [0, 1, 2, 3, 4, 5, 6, 7, 8, 9, 10, 11]) (.seq (.draw [] [.pure, .pure, .pure, .quiet, .pure, .loc, .quiet, .pure, .pure, .pure, .pure, .pure] [0, 1, 2, 3, 4, 5, 6, 7, 8, 9, 10, 11]) (.seq .o (.cond (.draw [] [.pure, .pure, .pure, .quiet, .pure, .loc, .pure, .pure, .loc, .pure, .big] [0, 1, 2, 3, 4, 5, 6, 7, 8, 9, 10]) .o)))))) .o)))))) (.seq .o .o)))))
theorem sh_query_search_step.is (CV : CVT) (x0 : Option Addr) (w : World) (R : Value → World → Prop) : sh_query_search_step CV x0 (fun r0 w' => R (.int .i64 r0) w') w = denF (cx_query_search_first.with CV) Try.f55 sh_query_search_step.plan [.v (.pointer x0)] w R := by kernel_rfl
theorem sh_query_search_step.calls (CV : CVT) (x0 : Option Addr) (hcv : CVOk Try.prog CV) {w : World} {R : Ending → World → Prop} (h : sh_query_search_step CV x0 (fun r0 w' => R (.returned (.int .i64 r0)) w') w) : Calls Try.prog 55 #[(.pointer x0)] w R :=
  calls_is (cx := cx_query_search_first.with CV) mixed_Try (cx_query_search_first.ok.with CV) hcv Try.func55 sh_query_search_step.plan (xs := [.v (.pointer x0)]) ((args_cons _ args_nil)) (by kernel_rfl) (sh_query_search_step.is CV x0 w (fun v w' => R (.returned v) w')) h
def sh_query_search_step.o : CVT → List X → (Value → World → Prop) → World → Prop
  | CV, [.v (.pointer x0)], K, w => sh_query_search_step CV x0 (fun r0 w' => K (.int .i64 r0) w') w
  | _, _, _, _ => False
def sh_query_search_step.q : CVT → List X → World → (Value → Prop) → Prop
  | CV, [.v (.pointer x0)], w, K => Quiet (Int) (fun r => (.int .i64 r)) (fun K1 w' => sh_query_search_step CV x0 (fun r0 w'' => K1 r0 w'') w') w (fun r => K (.int .i64 r))
  | _, _, _, _ => False
noncomputable def cx_query_search_step : Cx := Cx.add Try.prog cx_query_search_first 55 sh_query_search_step.o sh_query_search_step.q
theorem cx_query_search_step.ok : CxOk cx_query_search_step := by
  refine CxOk.add cx_query_search_first.ok rfl (fun CV hcv xs K w hx h => ?_) (fun CV hcv xs K w hx h => ?_)
  · unfold sh_query_search_step.o at h; split at h
    · rename_i x0; exact sh_query_search_step.calls CV x0 hcv h
    · exact h.elim
  · unfold sh_query_search_step.q at h; split at h
    · rename_i x0; obtain ⟨r, h1, h2⟩ := h; exact ⟨_, h2, fun w' e => sh_query_search_step.calls CV x0 hcv (h1 w' e)⟩
    · exact h.elim
def sh_query_Look.plan : Plan := (.seq .o (.scope (.seq (.seq .o (.cond (.seq .o .o) .o)) (.seq .o (.exp [8] (.join [] [] (.seq .o (.block (.loop [.slot 43 (.int .i64)] [] (.seq .o (.seq (.cond .o .o) (.seq (.block (.seq .o (.seq (.draw [] [.pure, .pure, .rd, .pure, .pure, .rd, .pure, .quiet, .bigz, .alc, .pure, .pure, .bigz, .pure, .pure, .big] [0, 1, 2, 3, 4, 5, 6, 7, 8, 10, 11, 12, 9, 13, 14, 15]) .o))) .o)))))) (.seq .o (.seq .o (.join [.slot 11 (.int .i64), .slot 12 (.int .i64)] [] (.block (.loop [.slot 11 (.int .i64), .slot 12 (.int .i64)] [] (.block (.seq .o (.seq .o (.seq .o (.join [.slot 17 (.int .i64)] [] (.block (.seq .o (.cond .o (.seq (.seq .o (.cond .o .o)) (.cond .o .o))))) (.seq .o (.seq .o (.seq .o (.seq .o (.cond (.seq .o (.seq .o (.cond .o .o))) .o)))))))))))) (.seq .o .o))))))))))
theorem sh_query_Look.is (CV : CVT) (h0 : Option Addr) (s0 : Int) (t0 : Int) (w : World) (R : Value → World → Prop) : sh_query_Look CV h0 s0 t0 (fun r0 r1 w' => R (.tuple #[(.int .i64 r0), (.int .i64 r1)]) w') w = denF (cx_query_search_step.with CV) Try.f29 sh_query_Look.plan [.v (.pointer h0), .v (.int .i64 s0), .v (.int .i64 t0)] w R := by kernel_rfl
theorem sh_query_Look.calls (CV : CVT) (h0 : Option Addr) (s0 : Int) (t0 : Int) (hcv : CVOk Try.prog CV) {w : World} {R : Ending → World → Prop} (h : sh_query_Look CV h0 s0 t0 (fun r0 r1 w' => R (.returned (.tuple #[(.int .i64 r0), (.int .i64 r1)])) w') w) : Calls Try.prog 29 #[(.pointer h0), (.int .i64 s0), (.int .i64 t0)] w R :=
  calls_is (cx := cx_query_search_step.with CV) mixed_Try (cx_query_search_step.ok.with CV) hcv Try.func29 sh_query_Look.plan (xs := [.v (.pointer h0), .v (.int .i64 s0), .v (.int .i64 t0)]) ((args_cons _ (args_cons _ (args_cons _ args_nil)))) (by kernel_rfl) (sh_query_Look.is CV h0 s0 t0 w (fun v w' => R (.returned v) w')) h
def sh_query_Look.o : CVT → List X → (Value → World → Prop) → World → Prop
  | CV, [.v (.pointer h0), .v (.int .i64 s0), .v (.int .i64 t0)], K, w => sh_query_Look CV h0 s0 t0 (fun r0 r1 w' => K (.tuple #[(.int .i64 r0), (.int .i64 r1)]) w') w
  | _, _, _, _ => False
def sh_query_Look.q : CVT → List X → World → (Value → Prop) → Prop
  | CV, [.v (.pointer h0), .v (.int .i64 s0), .v (.int .i64 t0)], w, K => Quiet (Int × Int) (fun r => (.tuple #[(.int .i64 r.1), (.int .i64 r.2)])) (fun K1 w' => sh_query_Look CV h0 s0 t0 (fun r0 r1 w'' => K1 (r0, r1) w'') w') w (fun r => K (.tuple #[(.int .i64 r.1), (.int .i64 r.2)]))
  | _, _, _, _ => False
noncomputable def cx_query_Look : Cx := Cx.add Try.prog cx_query_search_step 29 sh_query_Look.o sh_query_Look.q
theorem cx_query_Look.ok : CxOk cx_query_Look := by
  refine CxOk.add cx_query_search_step.ok rfl (fun CV hcv xs K w hx h => ?_) (fun CV hcv xs K w hx h => ?_)
  · unfold sh_query_Look.o at h; split at h
    · rename_i h0 s0 t0; exact sh_query_Look.calls CV h0 s0 t0 hcv h
    · exact h.elim
  · unfold sh_query_Look.q at h; split at h
    · rename_i h0 s0 t0; obtain ⟨r, h1, h2⟩ := h; exact ⟨_, h2, fun w' e => sh_query_Look.calls CV h0 s0 t0 hcv (h1 w' e)⟩
    · exact h.elim
def sh_postroadref12_begin.plan : Plan := (.seq .o (.seq (.draw [] [.pure, .new, .pure, .alc, .pure, .alc, .big] [0, 2, 1, 3, 4, 5, 6]) (.join [] [] (.seq .o (.block (.loop [.slot 6 (.int .i64)] [] (.seq (.seq .o (.cond .o .o)) (.seq (.block .o) .o))))) (.seq .o (.seq .o .o)))))
theorem sh_postroadref12_begin.is (CV : CVT) (n0 : Int) (v0 : Int) (w : World) (R : Value → World → Prop) : sh_postroadref12_begin n0 v0 (fun r0 r1 w' => R (.agg #[(.slice r0.a r0.len r0.cap), (.slice r1.a r1.len r1.cap)]) w') w = denF (cx_query_Look.with CV) Try.f56 sh_postroadref12_begin.plan [.v (.int .i64 n0), .v (.int .i64 v0)] w R := by kernel_rfl
theorem sh_postroadref12_begin.calls (CV : CVT) (n0 : Int) (v0 : Int) (hcv : CVOk Try.prog CV) {w : World} {R : Ending → World → Prop} (h : sh_postroadref12_begin n0 v0 (fun r0 r1 w' => R (.returned (.agg #[(.slice r0.a r0.len r0.cap), (.slice r1.a r1.len r1.cap)])) w') w) : Calls Try.prog 56 #[(.int .i64 n0), (.int .i64 v0)] w R :=
  calls_is (cx := cx_query_Look.with CV) mixed_Try (cx_query_Look.ok.with CV) hcv Try.func56 sh_postroadref12_begin.plan (xs := [.v (.int .i64 n0), .v (.int .i64 v0)]) ((args_cons _ (args_cons _ args_nil))) (by kernel_rfl) (sh_postroadref12_begin.is CV n0 v0 w (fun v w' => R (.returned v) w')) h
def sh_postroadref12_begin.o : CVT → List X → (Value → World → Prop) → World → Prop
  | CV, [.v (.int .i64 n0), .v (.int .i64 v0)], K, w => sh_postroadref12_begin n0 v0 (fun r0 r1 w' => K (.agg #[(.slice r0.a r0.len r0.cap), (.slice r1.a r1.len r1.cap)]) w') w
  | _, _, _, _ => False
def sh_postroadref12_begin.q : CVT → List X → World → (Value → Prop) → Prop
  | CV, [.v (.int .i64 n0), .v (.int .i64 v0)], w, K => Quiet (SV × SV) (fun r => (.agg #[(.slice r.1.a r.1.len r.1.cap), (.slice r.2.a r.2.len r.2.cap)])) (fun K1 w' => sh_postroadref12_begin n0 v0 (fun r0 r1 w'' => K1 (r0, r1) w'') w') w (fun r => K (.agg #[(.slice r.1.a r.1.len r.1.cap), (.slice r.2.a r.2.len r.2.cap)]))
  | _, _, _, _ => False
noncomputable def cx_postroadref12_begin : Cx := Cx.add Try.prog cx_query_Look 56 sh_postroadref12_begin.o sh_postroadref12_begin.q
theorem cx_postroadref12_begin.ok : CxOk cx_postroadref12_begin := by
  refine CxOk.add cx_query_Look.ok rfl (fun CV hcv xs K w hx h => ?_) (fun CV hcv xs K w hx h => ?_)
  · unfold sh_postroadref12_begin.o at h; split at h
    · rename_i n0 v0; exact sh_postroadref12_begin.calls CV n0 v0 hcv h
    · exact h.elim
  · unfold sh_postroadref12_begin.q at h; split at h
    · rename_i n0 v0; obtain ⟨r, h1, h2⟩ := h; exact ⟨_, h2, fun w' e => sh_postroadref12_begin.calls CV n0 v0 hcv (h1 w' e)⟩
    · exact h.elim
def sh_postroadref12_first.plan : Plan := (.seq .o (.seq .o (.join [.slot 5 (.int .i64)] [] (.seq .o (.block (.loop [.slot 5 (.int .i64), .slot 6 (.int .i64)] [] (.seq (.seq .o (.cond .o .o)) (.join [.slot 5 (.int .i64)] [] (.block (.seq (.draw [] [.pure, .loc, .pure, .pure, .quiet, .pure, .pure, .pure, .loc, .pure, .pure, .quiet, .pure, .pure, .pure, .pure, .pure, .pure, .pure, .loc, .pure, .pure, .quiet, .pure, .loc, .pure, .pure, .quiet, .pure, .pure, .pure] [0, 1, 2, 3, 4, 5, 6, 7, 8, 9, 10, 11, 12, 13, 14, 15, 16, 17, 18, 19, 20, 21, 22, 23, 24, 25, 26, 27, 28, 29, 30]) (.cond .o .o))) .o))))) (.seq (.seq .o (.cond (.seq .o .o) .o)) (.seq .o .o)))))
theorem sh_postroadref12_first.is (CV : CVT) (x0_Done : SV) (x0_D : SV) (best0 : Int) (w : World) (R : Value → World → Prop) : sh_postroadref12_first x0_Done x0_D best0 (fun r0 w' => R (.int .i64 r0) w') w = denF (cx_postroadref12_begin.with CV) Try.f57 sh_postroadref12_first.plan [.v (.agg #[(.slice x0_Done.a x0_Done.len x0_Done.cap), (.slice x0_D.a x0_D.len x0_D.cap)]), .v (.int .i64 best0)] w R := by kernel_rfl
theorem sh_postroadref12_first.calls (CV : CVT) (x0_Done : SV) (x0_D : SV) (best0 : Int) (hcv : CVOk Try.prog CV) {w : World} {R : Ending → World → Prop} (h : sh_postroadref12_first x0_Done x0_D best0 (fun r0 w' => R (.returned (.int .i64 r0)) w') w) : Calls Try.prog 57 #[(.agg #[(.slice x0_Done.a x0_Done.len x0_Done.cap), (.slice x0_D.a x0_D.len x0_D.cap)]), (.int .i64 best0)] w R :=
  calls_is (cx := cx_postroadref12_begin.with CV) mixed_Try (cx_postroadref12_begin.ok.with CV) hcv Try.func57 sh_postroadref12_first.plan (xs := [.v (.agg #[(.slice x0_Done.a x0_Done.len x0_Done.cap), (.slice x0_D.a x0_D.len x0_D.cap)]), .v (.int .i64 best0)]) ((args_cons _ (args_cons _ args_nil))) (by kernel_rfl) (sh_postroadref12_first.is CV x0_Done x0_D best0 w (fun v w' => R (.returned v) w')) h
def sh_postroadref12_first.o : CVT → List X → (Value → World → Prop) → World → Prop
  | CV, [.v (.agg ⟨[.slice x0_Done_a x0_Done_l x0_Done_c, .slice x0_D_a x0_D_l x0_D_c]⟩), .v (.int .i64 best0)], K, w => sh_postroadref12_first ⟨x0_Done_a, x0_Done_l, x0_Done_c⟩ ⟨x0_D_a, x0_D_l, x0_D_c⟩ best0 (fun r0 w' => K (.int .i64 r0) w') w
  | _, _, _, _ => False
def sh_postroadref12_first.q : CVT → List X → World → (Value → Prop) → Prop
  | CV, [.v (.agg ⟨[.slice x0_Done_a x0_Done_l x0_Done_c, .slice x0_D_a x0_D_l x0_D_c]⟩), .v (.int .i64 best0)], w, K => Quiet (Int) (fun r => (.int .i64 r)) (fun K1 w' => sh_postroadref12_first ⟨x0_Done_a, x0_Done_l, x0_Done_c⟩ ⟨x0_D_a, x0_D_l, x0_D_c⟩ best0 (fun r0 w'' => K1 r0 w'') w') w (fun r => K (.int .i64 r))
  | _, _, _, _ => False
noncomputable def cx_postroadref12_first : Cx := Cx.add Try.prog cx_postroadref12_begin 57 sh_postroadref12_first.o sh_postroadref12_first.q
theorem cx_postroadref12_first.ok : CxOk cx_postroadref12_first := by
  refine CxOk.add cx_postroadref12_begin.ok rfl (fun CV hcv xs K w hx h => ?_) (fun CV hcv xs K w hx h => ?_)
  · unfold sh_postroadref12_first.o at h; split at h
    · rename_i x0_Done_a x0_Done_l x0_Done_c x0_D_a x0_D_l x0_D_c best0; exact sh_postroadref12_first.calls CV ⟨x0_Done_a, x0_Done_l, x0_Done_c⟩ ⟨x0_D_a, x0_D_l, x0_D_c⟩ best0 hcv h
    · exact h.elim
  · unfold sh_postroadref12_first.q at h; split at h
    · rename_i x0_Done_a x0_Done_l x0_Done_c x0_D_a x0_D_l x0_D_c best0; obtain ⟨r, h1, h2⟩ := h; exact ⟨_, h2, fun w' e => sh_postroadref12_first.calls CV ⟨x0_Done_a, x0_Done_l, x0_Done_c⟩ ⟨x0_D_a, x0_D_l, x0_D_c⟩ best0 hcv (h1 w' e)⟩
    · exact h.elim
def sh_postroadref10_put.plan : Plan := (.seq .o (.seq .o (.join [.slot 5 (.int .i64)] [] (.block (.loop [.slot 5 (.int .i64)] [] (.seq (.seq (.draw [] [.pure, .pure, .pure, .pure, .pure, .pure, .pure, .pure, .pure, .quiet, .pure, .loc, .pure, .pure] [0, 1, 2, 3, 4, 5, 6, 7, 8, 9, 10, 11, 12, 13]) (.cond .o .o)) (.block .o)))) (.seq .o (.seq .o (.seq .o (.seq .o .o)))))))
theorem sh_postroadref10_put.is (CV : CVT) (l0 : SV) (e0_V : Int) (e0_W : Int) (e0_Arc : Int) (w : World) (R : Value → World → Prop) : sh_postroadref10_put l0 e0_V e0_W e0_Arc (fun r0 w' => R (.slice r0.a r0.len r0.cap) w') w = denF (cx_postroadref12_first.with CV) Try.f88 sh_postroadref10_put.plan [.v (.slice l0.a l0.len l0.cap), .v (.agg #[(.int .i64 e0_V), (.int .i64 e0_W), (.int .i64 e0_Arc)])] w R := by kernel_rfl
theorem sh_postroadref10_put.calls (CV : CVT) (l0 : SV) (e0_V : Int) (e0_W : Int) (e0_Arc : Int) (hcv : CVOk Try.prog CV) {w : World} {R : Ending → World → Prop} (h : sh_postroadref10_put l0 e0_V e0_W e0_Arc (fun r0 w' => R (.returned (.slice r0.a r0.len r0.cap)) w') w) : Calls Try.prog 88 #[(.slice l0.a l0.len l0.cap), (.agg #[(.int .i64 e0_V), (.int .i64 e0_W), (.int .i64 e0_Arc)])] w R :=
  calls_is (cx := cx_postroadref12_first.with CV) mixed_Try (cx_postroadref12_first.ok.with CV) hcv Try.func88 sh_postroadref10_put.plan (xs := [.v (.slice l0.a l0.len l0.cap), .v (.agg #[(.int .i64 e0_V), (.int .i64 e0_W), (.int .i64 e0_Arc)])]) ((args_cons _ (args_cons _ args_nil))) (by kernel_rfl) (sh_postroadref10_put.is CV l0 e0_V e0_W e0_Arc w (fun v w' => R (.returned v) w')) h
def sh_postroadref10_put.o : CVT → List X → (Value → World → Prop) → World → Prop
  | CV, [.v (.slice l0_a l0_l l0_c), .v (.agg ⟨[.int .i64 e0_V, .int .i64 e0_W, .int .i64 e0_Arc]⟩)], K, w => sh_postroadref10_put ⟨l0_a, l0_l, l0_c⟩ e0_V e0_W e0_Arc (fun r0 w' => K (.slice r0.a r0.len r0.cap) w') w
  | _, _, _, _ => False
def sh_postroadref10_put.q : CVT → List X → World → (Value → Prop) → Prop
  | CV, [.v (.slice l0_a l0_l l0_c), .v (.agg ⟨[.int .i64 e0_V, .int .i64 e0_W, .int .i64 e0_Arc]⟩)], w, K => Quiet (SV) (fun r => (.slice r.a r.len r.cap)) (fun K1 w' => sh_postroadref10_put ⟨l0_a, l0_l, l0_c⟩ e0_V e0_W e0_Arc (fun r0 w'' => K1 r0 w'') w') w (fun r => K (.slice r.a r.len r.cap))
  | _, _, _, _ => False
noncomputable def cx_postroadref10_put : Cx := Cx.add Try.prog cx_postroadref12_first 88 sh_postroadref10_put.o sh_postroadref10_put.q
theorem cx_postroadref10_put.ok : CxOk cx_postroadref10_put := by
  refine CxOk.add cx_postroadref12_first.ok rfl (fun CV hcv xs K w hx h => ?_) (fun CV hcv xs K w hx h => ?_)
  · unfold sh_postroadref10_put.o at h; split at h
    · rename_i l0_a l0_l l0_c e0_V e0_W e0_Arc; exact sh_postroadref10_put.calls CV ⟨l0_a, l0_l, l0_c⟩ e0_V e0_W e0_Arc hcv h
    · exact h.elim
  · unfold sh_postroadref10_put.q at h; split at h
    · rename_i l0_a l0_l l0_c e0_V e0_W e0_Arc; obtain ⟨r, h1, h2⟩ := h; exact ⟨_, h2, fun w' e => sh_postroadref10_put.calls CV ⟨l0_a, l0_l, l0_c⟩ e0_V e0_W e0_Arc hcv (h1 w' e)⟩
    · exact h.elim
def sh_postroadref10_Up.plan : Plan := (.seq .o (.seq .o (.seq (.seq .o (.block (.loop [.slot 5 .slice, .slot 6 (.int .i64)] [] (.seq (.seq .o (.cond .o .o)) (.join [.slot 5 .slice] [] (.block (.seq .o (.seq (.draw [] [.pure, .loc, .pure, .pure, .pure, .pure, .loc, .pure, .loc, .pure, .quiet, .pure, .loc, .pure, .pure, .quiet, .pure, .pure] [0, 1, 2, 3, 4, 5, 6, 7, 8, 9, 10, 11, 12, 13, 14, 15, 16, 17]) (.cond .o .o)))) .o))))) (.seq .o .o))))
theorem sh_postroadref10_Up.is (CV : CVT) (h0_Rank : SV) (h0_Ways : SV) (v0 : Int) (w : World) (R : Value → World → Prop) : sh_postroadref10_Up h0_Rank h0_Ways v0 (fun r0 w' => R (.slice r0.a r0.len r0.cap) w') w = denF (cx_postroadref10_put.with CV) Try.f59 sh_postroadref10_Up.plan [.v (.agg #[(.slice h0_Rank.a h0_Rank.len h0_Rank.cap), (.slice h0_Ways.a h0_Ways.len h0_Ways.cap)]), .v (.int .i64 v0)] w R := by kernel_rfl
theorem sh_postroadref10_Up.calls (CV : CVT) (h0_Rank : SV) (h0_Ways : SV) (v0 : Int) (hcv : CVOk Try.prog CV) {w : World} {R : Ending → World → Prop} (h : sh_postroadref10_Up h0_Rank h0_Ways v0 (fun r0 w' => R (.returned (.slice r0.a r0.len r0.cap)) w') w) : Calls Try.prog 59 #[(.agg #[(.slice h0_Rank.a h0_Rank.len h0_Rank.cap), (.slice h0_Ways.a h0_Ways.len h0_Ways.cap)]), (.int .i64 v0)] w R :=
  calls_is (cx := cx_postroadref10_put.with CV) mixed_Try (cx_postroadref10_put.ok.with CV) hcv Try.func59 sh_postroadref10_Up.plan (xs := [.v (.agg #[(.slice h0_Rank.a h0_Rank.len h0_Rank.cap), (.slice h0_Ways.a h0_Ways.len h0_Ways.cap)]), .v (.int .i64 v0)]) ((args_cons _ (args_cons _ args_nil))) (by kernel_rfl) (sh_postroadref10_Up.is CV h0_Rank h0_Ways v0 w (fun v w' => R (.returned v) w')) h
def sh_postroadref10_Up.o : CVT → List X → (Value → World → Prop) → World → Prop
  | CV, [.v (.agg ⟨[.slice h0_Rank_a h0_Rank_l h0_Rank_c, .slice h0_Ways_a h0_Ways_l h0_Ways_c]⟩), .v (.int .i64 v0)], K, w => sh_postroadref10_Up ⟨h0_Rank_a, h0_Rank_l, h0_Rank_c⟩ ⟨h0_Ways_a, h0_Ways_l, h0_Ways_c⟩ v0 (fun r0 w' => K (.slice r0.a r0.len r0.cap) w') w
  | _, _, _, _ => False
def sh_postroadref10_Up.q : CVT → List X → World → (Value → Prop) → Prop
  | CV, [.v (.agg ⟨[.slice h0_Rank_a h0_Rank_l h0_Rank_c, .slice h0_Ways_a h0_Ways_l h0_Ways_c]⟩), .v (.int .i64 v0)], w, K => Quiet (SV) (fun r => (.slice r.a r.len r.cap)) (fun K1 w' => sh_postroadref10_Up ⟨h0_Rank_a, h0_Rank_l, h0_Rank_c⟩ ⟨h0_Ways_a, h0_Ways_l, h0_Ways_c⟩ v0 (fun r0 w'' => K1 r0 w'') w') w (fun r => K (.slice r.a r.len r.cap))
  | _, _, _, _ => False
noncomputable def cx_postroadref10_Up : Cx := Cx.add Try.prog cx_postroadref10_put 59 sh_postroadref10_Up.o sh_postroadref10_Up.q
theorem cx_postroadref10_Up.ok : CxOk cx_postroadref10_Up := by
  refine CxOk.add cx_postroadref10_put.ok rfl (fun CV hcv xs K w hx h => ?_) (fun CV hcv xs K w hx h => ?_)
  · unfold sh_postroadref10_Up.o at h; split at h
    · rename_i h0_Rank_a h0_Rank_l h0_Rank_c h0_Ways_a h0_Ways_l h0_Ways_c v0; exact sh_postroadref10_Up.calls CV ⟨h0_Rank_a, h0_Rank_l, h0_Rank_c⟩ ⟨h0_Ways_a, h0_Ways_l, h0_Ways_c⟩ v0 hcv h
    · exact h.elim
  · unfold sh_postroadref10_Up.q at h; split at h
    · rename_i h0_Rank_a h0_Rank_l h0_Rank_c h0_Ways_a h0_Ways_l h0_Ways_c v0; obtain ⟨r, h1, h2⟩ := h; exact ⟨_, h2, fun w' e => sh_postroadref10_Up.calls CV ⟨h0_Rank_a, h0_Rank_l, h0_Rank_c⟩ ⟨h0_Ways_a, h0_Ways_l, h0_Ways_c⟩ v0 hcv (h1 w' e)⟩
    · exact h.elim
def sh_postroadref12_settle.plan : Plan := (.seq .o (.seq .o (.seq .o (.seq .o (.seq .o (.join [] [] (.seq .o (.block (.loop [.slot 8 (.int .i64)] [] (.seq (.seq .o (.cond .o .o)) (.join [] [] (.block (.seq .o (.seq (.draw [] [.pure, .loc, .pure, .loc, .pure, .quiet, .pure, .pure, .pure, .loc, .pure, .loc, .pure, .quiet, .pure, .pure, .pure, .loc, .pure, .pure, .quiet, .pure, .loc, .pure, .pure, .loc, .pure, .loc, .pure, .quiet, .pure, .pure, .pure] [0, 1, 2, 3, 4, 5, 6, 7, 8, 9, 10, 11, 12, 13, 14, 15, 16, 17, 18, 19, 20, 21, 22, 23, 24, 25, 26, 27, 28, 29, 30, 31, 32]) (.cond (.draw [] [.pure, .loc, .pure, .loc, .pure, .loc, .pure, .pure, .quiet, .pure, .loc, .pure, .pure, .big] [0, 1, 2, 3, 4, 5, 6, 7, 8, 9, 10, 11, 12, 13]) .o)))) .o))))) (.seq .o .o)))))))
theorem sh_postroadref12_settle.is (CV : CVT) (x0_Done : SV) (x0_D : SV) (v0 : Int) (up0 : SV) (w : World) (R : Value → World → Prop) : sh_postroadref12_settle x0_Done x0_D v0 up0 (fun r0 r1 w' => R (.agg #[(.slice r0.a r0.len r0.cap), (.slice r1.a r1.len r1.cap)]) w') w = denF (cx_postroadref10_Up.with CV) Try.f58 sh_postroadref12_settle.plan [.v (.agg #[(.slice x0_Done.a x0_Done.len x0_Done.cap), (.slice x0_D.a x0_D.len x0_D.cap)]), .v (.int .i64 v0), .v (.slice up0.a up0.len up0.cap)] w R := by kernel_rfl
theorem sh_postroadref12_settle.calls (CV : CVT) (x0_Done : SV) (x0_D : SV) (v0 : Int) (up0 : SV) (hcv : CVOk Try.prog CV) {w : World} {R : Ending → World → Prop} (h : sh_postroadref12_settle x0_Done x0_D v0 up0 (fun r0 r1 w' => R (.returned (.agg #[(.slice r0.a r0.len r0.cap), (.slice r1.a r1.len r1.cap)])) w') w) : Calls Try.prog 58 #[(.agg #[(.slice x0_Done.a x0_Done.len x0_Done.cap), (.slice x0_D.a x0_D.len x0_D.cap)]), (.int .i64 v0), (.slice up0.a up0.len up0.cap)] w R :=
  calls_is (cx := cx_postroadref10_Up.with CV) mixed_Try (cx_postroadref10_Up.ok.with CV) hcv Try.func58 sh_postroadref12_settle.plan (xs := [.v (.agg #[(.slice x0_Done.a x0_Done.len x0_Done.cap), (.slice x0_D.a x0_D.len x0_D.cap)]), .v (.int .i64 v0), .v (.slice up0.a up0.len up0.cap)]) ((args_cons _ (args_cons _ (args_cons _ args_nil)))) (by kernel_rfl) (sh_postroadref12_settle.is CV x0_Done x0_D v0 up0 w (fun v w' => R (.returned v) w')) h
def sh_postroadref12_settle.o : CVT → List X → (Value → World → Prop) → World → Prop
  | CV, [.v (.agg ⟨[.slice x0_Done_a x0_Done_l x0_Done_c, .slice x0_D_a x0_D_l x0_D_c]⟩), .v (.int .i64 v0), .v (.slice up0_a up0_l up0_c)], K, w => sh_postroadref12_settle ⟨x0_Done_a, x0_Done_l, x0_Done_c⟩ ⟨x0_D_a, x0_D_l, x0_D_c⟩ v0 ⟨up0_a, up0_l, up0_c⟩ (fun r0 r1 w' => K (.agg #[(.slice r0.a r0.len r0.cap), (.slice r1.a r1.len r1.cap)]) w') w
  | _, _, _, _ => False
def sh_postroadref12_settle.q : CVT → List X → World → (Value → Prop) → Prop
  | CV, [.v (.agg ⟨[.slice x0_Done_a x0_Done_l x0_Done_c, .slice x0_D_a x0_D_l x0_D_c]⟩), .v (.int .i64 v0), .v (.slice up0_a up0_l up0_c)], w, K => Quiet (SV × SV) (fun r => (.agg #[(.slice r.1.a r.1.len r.1.cap), (.slice r.2.a r.2.len r.2.cap)])) (fun K1 w' => sh_postroadref12_settle ⟨x0_Done_a, x0_Done_l, x0_Done_c⟩ ⟨x0_D_a, x0_D_l, x0_D_c⟩ v0 ⟨up0_a, up0_l, up0_c⟩ (fun r0 r1 w'' => K1 (r0, r1) w'') w') w (fun r => K (.agg #[(.slice r.1.a r.1.len r.1.cap), (.slice r.2.a r.2.len r.2.cap)]))
  | _, _, _, _ => False
noncomputable def cx_postroadref12_settle : Cx := Cx.add Try.prog cx_postroadref10_Up 58 sh_postroadref12_settle.o sh_postroadref12_settle.q
theorem cx_postroadref12_settle.ok : CxOk cx_postroadref12_settle := by
  refine CxOk.add cx_postroadref10_Up.ok rfl (fun CV hcv xs K w hx h => ?_) (fun CV hcv xs K w hx h => ?_)
  · unfold sh_postroadref12_settle.o at h; split at h
    · rename_i x0_Done_a x0_Done_l x0_Done_c x0_D_a x0_D_l x0_D_c v0 up0_a up0_l up0_c; exact sh_postroadref12_settle.calls CV ⟨x0_Done_a, x0_Done_l, x0_Done_c⟩ ⟨x0_D_a, x0_D_l, x0_D_c⟩ v0 ⟨up0_a, up0_l, up0_c⟩ hcv h
    · exact h.elim
  · unfold sh_postroadref12_settle.q at h; split at h
    · rename_i x0_Done_a x0_Done_l x0_Done_c x0_D_a x0_D_l x0_D_c v0 up0_a up0_l up0_c; obtain ⟨r, h1, h2⟩ := h; exact ⟨_, h2, fun w' e => sh_postroadref12_settle.calls CV ⟨x0_Done_a, x0_Done_l, x0_Done_c⟩ ⟨x0_D_a, x0_D_l, x0_D_c⟩ v0 ⟨up0_a, up0_l, up0_c⟩ hcv (h1 w' e)⟩
    · exact h.elim
def sh_postroadref12_better.plan : Plan := (.seq .o (.seq (.seq (.draw [] [.pure, .loc, .pure, .pure, .quiet, .pure, .pure, .pure, .loc, .pure, .pure, .quiet, .pure, .pure, .pure, .pure, .pure, .pure, .pure, .loc, .pure, .pure, .quiet, .pure, .loc, .pure, .pure, .quiet, .pure, .pure, .pure, .pure, .pure] [0, 1, 2, 3, 4, 5, 6, 7, 8, 9, 10, 11, 12, 13, 14, 15, 16, 17, 18, 19, 20, 21, 22, 23, 24, 25, 26, 27, 28, 29, 30, 31, 32]) (.cond (.seq (.draw [] [.pure, .loc, .pure, .pure, .quiet, .pure, .loc, .pure, .pure, .quiet, .pure, .pure] [0, 1, 2, 3, 4, 5, 6, 7, 8, 9, 10, 11]) .o) .o)) (.seq .o .o)))
theorem sh_postroadref12_better.is (CV : CVT) (a0_Done : SV) (a0_D : SV) (b0_Done : SV) (b0_D : SV) (v0 : Int) (best0 : Int) (w : World) (R : Value → World → Prop) : sh_postroadref12_better a0_Done a0_D b0_Done b0_D v0 best0 (fun r0 w' => R (.int .i64 r0) w') w = denF (cx_postroadref12_settle.with CV) Try.f60 sh_postroadref12_better.plan [.v (.agg #[(.slice a0_Done.a a0_Done.len a0_Done.cap), (.slice a0_D.a a0_D.len a0_D.cap)]), .v (.agg #[(.slice b0_Done.a b0_Done.len b0_Done.cap), (.slice b0_D.a b0_D.len b0_D.cap)]), .v (.int .i64 v0), .v (.int .i64 best0)] w R := by kernel_rfl
theorem sh_postroadref12_better.calls (CV : CVT) (a0_Done : SV) (a0_D : SV) (b0_Done : SV) (b0_D : SV) (v0 : Int) (best0 : Int) (hcv : CVOk Try.prog CV) {w : World} {R : Ending → World → Prop} (h : sh_postroadref12_better a0_Done a0_D b0_Done b0_D v0 best0 (fun r0 w' => R (.returned (.int .i64 r0)) w') w) : Calls Try.prog 60 #[(.agg #[(.slice a0_Done.a a0_Done.len a0_Done.cap), (.slice a0_D.a a0_D.len a0_D.cap)]), (.agg #[(.slice b0_Done.a b0_Done.len b0_Done.cap), (.slice b0_D.a b0_D.len b0_D.cap)]), (.int .i64 v0), (.int .i64 best0)] w R :=
  calls_is (cx := cx_postroadref12_settle.with CV) mixed_Try (cx_postroadref12_settle.ok.with CV) hcv Try.func60 sh_postroadref12_better.plan (xs := [.v (.agg #[(.slice a0_Done.a a0_Done.len a0_Done.cap), (.slice a0_D.a a0_D.len a0_D.cap)]), .v (.agg #[(.slice b0_Done.a b0_Done.len b0_Done.cap), (.slice b0_D.a b0_D.len b0_D.cap)]), .v (.int .i64 v0), .v (.int .i64 best0)]) ((args_cons _ (args_cons _ (args_cons _ (args_cons _ args_nil))))) (by kernel_rfl) (sh_postroadref12_better.is CV a0_Done a0_D b0_Done b0_D v0 best0 w (fun v w' => R (.returned v) w')) h
def sh_postroadref12_better.o : CVT → List X → (Value → World → Prop) → World → Prop
  | CV, [.v (.agg ⟨[.slice a0_Done_a a0_Done_l a0_Done_c, .slice a0_D_a a0_D_l a0_D_c]⟩), .v (.agg ⟨[.slice b0_Done_a b0_Done_l b0_Done_c, .slice b0_D_a b0_D_l b0_D_c]⟩), .v (.int .i64 v0), .v (.int .i64 best0)], K, w => sh_postroadref12_better ⟨a0_Done_a, a0_Done_l, a0_Done_c⟩ ⟨a0_D_a, a0_D_l, a0_D_c⟩ ⟨b0_Done_a, b0_Done_l, b0_Done_c⟩ ⟨b0_D_a, b0_D_l, b0_D_c⟩ v0 best0 (fun r0 w' => K (.int .i64 r0) w') w
  | _, _, _, _ => False
def sh_postroadref12_better.q : CVT → List X → World → (Value → Prop) → Prop
  | CV, [.v (.agg ⟨[.slice a0_Done_a a0_Done_l a0_Done_c, .slice a0_D_a a0_D_l a0_D_c]⟩), .v (.agg ⟨[.slice b0_Done_a b0_Done_l b0_Done_c, .slice b0_D_a b0_D_l b0_D_c]⟩), .v (.int .i64 v0), .v (.int .i64 best0)], w, K => Quiet (Int) (fun r => (.int .i64 r)) (fun K1 w' => sh_postroadref12_better ⟨a0_Done_a, a0_Done_l, a0_Done_c⟩ ⟨a0_D_a, a0_D_l, a0_D_c⟩ ⟨b0_Done_a, b0_Done_l, b0_Done_c⟩ ⟨b0_D_a, b0_D_l, b0_D_c⟩ v0 best0 (fun r0 w'' => K1 r0 w'') w') w (fun r => K (.int .i64 r))
  | _, _, _, _ => False
noncomputable def cx_postroadref12_better : Cx := Cx.add Try.prog cx_postroadref12_settle 60 sh_postroadref12_better.o sh_postroadref12_better.q
theorem cx_postroadref12_better.ok : CxOk cx_postroadref12_better := by
  refine CxOk.add cx_postroadref12_settle.ok rfl (fun CV hcv xs K w hx h => ?_) (fun CV hcv xs K w hx h => ?_)
  · unfold sh_postroadref12_better.o at h; split at h
    · rename_i a0_Done_a a0_Done_l a0_Done_c a0_D_a a0_D_l a0_D_c b0_Done_a b0_Done_l b0_Done_c b0_D_a b0_D_l b0_D_c v0 best0; exact sh_postroadref12_better.calls CV ⟨a0_Done_a, a0_Done_l, a0_Done_c⟩ ⟨a0_D_a, a0_D_l, a0_D_c⟩ ⟨b0_Done_a, b0_Done_l, b0_Done_c⟩ ⟨b0_D_a, b0_D_l, b0_D_c⟩ v0 best0 hcv h
    · exact h.elim
  · unfold sh_postroadref12_better.q at h; split at h
    · rename_i a0_Done_a a0_Done_l a0_Done_c a0_D_a a0_D_l a0_D_c b0_Done_a b0_Done_l b0_Done_c b0_D_a b0_D_l b0_D_c v0 best0; obtain ⟨r, h1, h2⟩ := h; exact ⟨_, h2, fun w' e => sh_postroadref12_better.calls CV ⟨a0_Done_a, a0_Done_l, a0_Done_c⟩ ⟨a0_D_a, a0_D_l, a0_D_c⟩ ⟨b0_Done_a, b0_Done_l, b0_Done_c⟩ ⟨b0_D_a, b0_D_l, b0_D_c⟩ v0 best0 hcv (h1 w' e)⟩
    · exact h.elim
def sh_postroadref10_Down.plan : Plan := (.seq .o (.seq .o (.seq (.seq .o (.block (.loop [.slot 5 .slice, .slot 6 (.int .i64)] [] (.seq (.seq .o (.cond .o .o)) (.join [.slot 5 .slice] [] (.block (.seq .o (.seq (.draw [] [.pure, .loc, .pure, .pure, .pure, .pure, .loc, .pure, .loc, .pure, .quiet, .pure, .loc, .pure, .pure, .quiet, .pure, .pure] [0, 1, 2, 3, 4, 5, 6, 7, 8, 9, 10, 11, 12, 13, 14, 15, 16, 17]) (.cond .o .o)))) .o))))) (.seq .o .o))))
theorem sh_postroadref10_Down.is (CV : CVT) (h0_Rank : SV) (h0_Ways : SV) (v0 : Int) (w : World) (R : Value → World → Prop) : sh_postroadref10_Down h0_Rank h0_Ways v0 (fun r0 w' => R (.slice r0.a r0.len r0.cap) w') w = denF (cx_postroadref12_better.with CV) Try.f61 sh_postroadref10_Down.plan [.v (.agg #[(.slice h0_Rank.a h0_Rank.len h0_Rank.cap), (.slice h0_Ways.a h0_Ways.len h0_Ways.cap)]), .v (.int .i64 v0)] w R := by kernel_rfl
theorem sh_postroadref10_Down.calls (CV : CVT) (h0_Rank : SV) (h0_Ways : SV) (v0 : Int) (hcv : CVOk Try.prog CV) {w : World} {R : Ending → World → Prop} (h : sh_postroadref10_Down h0_Rank h0_Ways v0 (fun r0 w' => R (.returned (.slice r0.a r0.len r0.cap)) w') w) : Calls Try.prog 61 #[(.agg #[(.slice h0_Rank.a h0_Rank.len h0_Rank.cap), (.slice h0_Ways.a h0_Ways.len h0_Ways.cap)]), (.int .i64 v0)] w R :=
  calls_is (cx := cx_postroadref12_better.with CV) mixed_Try (cx_postroadref12_better.ok.with CV) hcv Try.func61 sh_postroadref10_Down.plan (xs := [.v (.agg #[(.slice h0_Rank.a h0_Rank.len h0_Rank.cap), (.slice h0_Ways.a h0_Ways.len h0_Ways.cap)]), .v (.int .i64 v0)]) ((args_cons _ (args_cons _ args_nil))) (by kernel_rfl) (sh_postroadref10_Down.is CV h0_Rank h0_Ways v0 w (fun v w' => R (.returned v) w')) h
def sh_postroadref10_Down.o : CVT → List X → (Value → World → Prop) → World → Prop
  | CV, [.v (.agg ⟨[.slice h0_Rank_a h0_Rank_l h0_Rank_c, .slice h0_Ways_a h0_Ways_l h0_Ways_c]⟩), .v (.int .i64 v0)], K, w => sh_postroadref10_Down ⟨h0_Rank_a, h0_Rank_l, h0_Rank_c⟩ ⟨h0_Ways_a, h0_Ways_l, h0_Ways_c⟩ v0 (fun r0 w' => K (.slice r0.a r0.len r0.cap) w') w
  | _, _, _, _ => False
def sh_postroadref10_Down.q : CVT → List X → World → (Value → Prop) → Prop
  | CV, [.v (.agg ⟨[.slice h0_Rank_a h0_Rank_l h0_Rank_c, .slice h0_Ways_a h0_Ways_l h0_Ways_c]⟩), .v (.int .i64 v0)], w, K => Quiet (SV) (fun r => (.slice r.a r.len r.cap)) (fun K1 w' => sh_postroadref10_Down ⟨h0_Rank_a, h0_Rank_l, h0_Rank_c⟩ ⟨h0_Ways_a, h0_Ways_l, h0_Ways_c⟩ v0 (fun r0 w'' => K1 r0 w'') w') w (fun r => K (.slice r.a r.len r.cap))
  | _, _, _, _ => False
noncomputable def cx_postroadref10_Down : Cx := Cx.add Try.prog cx_postroadref12_better 61 sh_postroadref10_Down.o sh_postroadref10_Down.q
theorem cx_postroadref10_Down.ok : CxOk cx_postroadref10_Down := by
  refine CxOk.add cx_postroadref12_better.ok rfl (fun CV hcv xs K w hx h => ?_) (fun CV hcv xs K w hx h => ?_)
  · unfold sh_postroadref10_Down.o at h; split at h
    · rename_i h0_Rank_a h0_Rank_l h0_Rank_c h0_Ways_a h0_Ways_l h0_Ways_c v0; exact sh_postroadref10_Down.calls CV ⟨h0_Rank_a, h0_Rank_l, h0_Rank_c⟩ ⟨h0_Ways_a, h0_Ways_l, h0_Ways_c⟩ v0 hcv h
    · exact h.elim
  · unfold sh_postroadref10_Down.q at h; split at h
    · rename_i h0_Rank_a h0_Rank_l h0_Rank_c h0_Ways_a h0_Ways_l h0_Ways_c v0; obtain ⟨r, h1, h2⟩ := h; exact ⟨_, h2, fun w' e => sh_postroadref10_Down.calls CV ⟨h0_Rank_a, h0_Rank_l, h0_Rank_c⟩ ⟨h0_Ways_a, h0_Ways_l, h0_Ways_c⟩ v0 hcv (h1 w' e)⟩
    · exact h.elim
def sh_postroadref12_Look.plan : Plan := (.seq .o (.seq .o (.seq (.seq .o (.cond (.seq .o .o) .o)) (.seq .o (.seq .o (.seq .o (.seq .o (.block (.loop [.slot 11 (.int .i64), .slot 12 (.int .i64), .box 9 [.slice, .slice], .box 10 [.slice, .slice]] [] (.block (.seq .o (.seq .o (.join [] [] (.seq .o (.cond (.seq .o .o) .o)) (.seq .o (.seq (.draw [] [.pure, .pure, .pure, .pure, .pure, .pure, .pure, .loc, .pure, .pure, .quiet, .pure, .loc, .pure, .pure, .quiet, .pure, .pure, .pure] [0, 1, 2, 3, 4, 5, 6, 7, 8, 9, 10, 11, 12, 13, 14, 15, 16, 17, 18]) (.cond (.seq (.draw [] [.rd, .pure, .loc, .pure, .big, .big, .big] [0, 1, 2, 3, 4, 5, 6]) .o) (.seq (.draw [] [.rd, .pure, .quiet, .pure, .big, .big, .big] [0, 1, 2, 3, 4, 5, 6]) .o)))))))))))))))))
theorem sh_postroadref12_Look.is (CV : CVT) (h0_Rank : SV) (h0_Ways : SV) (s0 : Int) (t0 : Int) (w : World) (R : Value → World → Prop) : sh_postroadref12_Look h0_Rank h0_Ways s0 t0 (fun r0 r1 w' => R (.tuple #[(.int .i64 r0), (.int .i64 r1)]) w') w = denF (cx_postroadref10_Down.with CV) Try.f30 sh_postroadref12_Look.plan [.v (.agg #[(.slice h0_Rank.a h0_Rank.len h0_Rank.cap), (.slice h0_Ways.a h0_Ways.len h0_Ways.cap)]), .v (.int .i64 s0), .v (.int .i64 t0)] w R := by kernel_rfl
theorem sh_postroadref12_Look.calls (CV : CVT) (h0_Rank : SV) (h0_Ways : SV) (s0 : Int) (t0 : Int) (hcv : CVOk Try.prog CV) {w : World} {R : Ending → World → Prop} (h : sh_postroadref12_Look h0_Rank h0_Ways s0 t0 (fun r0 r1 w' => R (.returned (.tuple #[(.int .i64 r0), (.int .i64 r1)])) w') w) : Calls Try.prog 30 #[(.agg #[(.slice h0_Rank.a h0_Rank.len h0_Rank.cap), (.slice h0_Ways.a h0_Ways.len h0_Ways.cap)]), (.int .i64 s0), (.int .i64 t0)] w R :=
  calls_is (cx := cx_postroadref10_Down.with CV) mixed_Try (cx_postroadref10_Down.ok.with CV) hcv Try.func30 sh_postroadref12_Look.plan (xs := [.v (.agg #[(.slice h0_Rank.a h0_Rank.len h0_Rank.cap), (.slice h0_Ways.a h0_Ways.len h0_Ways.cap)]), .v (.int .i64 s0), .v (.int .i64 t0)]) ((args_cons _ (args_cons _ (args_cons _ args_nil)))) (by kernel_rfl) (sh_postroadref12_Look.is CV h0_Rank h0_Ways s0 t0 w (fun v w' => R (.returned v) w')) h
def sh_postroadref12_Look.o : CVT → List X → (Value → World → Prop) → World → Prop
  | CV, [.v (.agg ⟨[.slice h0_Rank_a h0_Rank_l h0_Rank_c, .slice h0_Ways_a h0_Ways_l h0_Ways_c]⟩), .v (.int .i64 s0), .v (.int .i64 t0)], K, w => sh_postroadref12_Look ⟨h0_Rank_a, h0_Rank_l, h0_Rank_c⟩ ⟨h0_Ways_a, h0_Ways_l, h0_Ways_c⟩ s0 t0 (fun r0 r1 w' => K (.tuple #[(.int .i64 r0), (.int .i64 r1)]) w') w
  | _, _, _, _ => False
def sh_postroadref12_Look.q : CVT → List X → World → (Value → Prop) → Prop
  | CV, [.v (.agg ⟨[.slice h0_Rank_a h0_Rank_l h0_Rank_c, .slice h0_Ways_a h0_Ways_l h0_Ways_c]⟩), .v (.int .i64 s0), .v (.int .i64 t0)], w, K => Quiet (Int × Int) (fun r => (.tuple #[(.int .i64 r.1), (.int .i64 r.2)])) (fun K1 w' => sh_postroadref12_Look ⟨h0_Rank_a, h0_Rank_l, h0_Rank_c⟩ ⟨h0_Ways_a, h0_Ways_l, h0_Ways_c⟩ s0 t0 (fun r0 r1 w'' => K1 (r0, r1) w'') w') w (fun r => K (.tuple #[(.int .i64 r.1), (.int .i64 r.2)]))
  | _, _, _, _ => False
noncomputable def cx_postroadref12_Look : Cx := Cx.add Try.prog cx_postroadref10_Down 30 sh_postroadref12_Look.o sh_postroadref12_Look.q
theorem cx_postroadref12_Look.ok : CxOk cx_postroadref12_Look := by
  refine CxOk.add cx_postroadref10_Down.ok rfl (fun CV hcv xs K w hx h => ?_) (fun CV hcv xs K w hx h => ?_)
  · unfold sh_postroadref12_Look.o at h; split at h
    · rename_i h0_Rank_a h0_Rank_l h0_Rank_c h0_Ways_a h0_Ways_l h0_Ways_c s0 t0; exact sh_postroadref12_Look.calls CV ⟨h0_Rank_a, h0_Rank_l, h0_Rank_c⟩ ⟨h0_Ways_a, h0_Ways_l, h0_Ways_c⟩ s0 t0 hcv h
    · exact h.elim
  · unfold sh_postroadref12_Look.q at h; split at h
    · rename_i h0_Rank_a h0_Rank_l h0_Rank_c h0_Ways_a h0_Ways_l h0_Ways_c s0 t0; obtain ⟨r, h1, h2⟩ := h; exact ⟨_, h2, fun w' e => sh_postroadref12_Look.calls CV ⟨h0_Rank_a, h0_Rank_l, h0_Rank_c⟩ ⟨h0_Ways_a, h0_Ways_l, h0_Ways_c⟩ s0 t0 hcv (h1 w' e)⟩
    · exact h.elim
def sh_postroadlaw12_QueryFar.plan : Plan := (.seq .o (.seq (.seq .o (.cond (.seq .o .o) .o)) (.seq .o (.seq .o (.seq .o (.seq .o (.seq .o (.seq .o .o))))))))
theorem sh_postroadlaw12_QueryFar.is (CV : CVT) (h0_Rank : SV) (h0_Ways : SV) (s0 : Int) (t0 : Int) (w : World) (R : Value → World → Prop) : sh_postroadlaw12_QueryFar CV h0_Rank h0_Ways s0 t0 (fun r0 w' => R (.bool r0) w') w = denF (cx_postroadref12_Look.with CV) Try.f7 sh_postroadlaw12_QueryFar.plan [.v (.agg #[(.slice h0_Rank.a h0_Rank.len h0_Rank.cap), (.slice h0_Ways.a h0_Ways.len h0_Ways.cap)]), .v (.int .i64 s0), .v (.int .i64 t0)] w R := by kernel_rfl
theorem sh_postroadlaw12_QueryFar.calls (CV : CVT) (h0_Rank : SV) (h0_Ways : SV) (s0 : Int) (t0 : Int) (hcv : CVOk Try.prog CV) {w : World} {R : Ending → World → Prop} (h : sh_postroadlaw12_QueryFar CV h0_Rank h0_Ways s0 t0 (fun r0 w' => R (.returned (.bool r0)) w') w) : Calls Try.prog 7 #[(.agg #[(.slice h0_Rank.a h0_Rank.len h0_Rank.cap), (.slice h0_Ways.a h0_Ways.len h0_Ways.cap)]), (.int .i64 s0), (.int .i64 t0)] w R :=
  calls_is (cx := cx_postroadref12_Look.with CV) mixed_Try (cx_postroadref12_Look.ok.with CV) hcv Try.func7 sh_postroadlaw12_QueryFar.plan (xs := [.v (.agg #[(.slice h0_Rank.a h0_Rank.len h0_Rank.cap), (.slice h0_Ways.a h0_Ways.len h0_Ways.cap)]), .v (.int .i64 s0), .v (.int .i64 t0)]) ((args_cons _ (args_cons _ (args_cons _ args_nil)))) (by kernel_rfl) (sh_postroadlaw12_QueryFar.is CV h0_Rank h0_Ways s0 t0 w (fun v w' => R (.returned v) w')) h
def sh_postroadlaw12_QueryFar.o : CVT → List X → (Value → World → Prop) → World → Prop
  | CV, [.v (.agg ⟨[.slice h0_Rank_a h0_Rank_l h0_Rank_c, .slice h0_Ways_a h0_Ways_l h0_Ways_c]⟩), .v (.int .i64 s0), .v (.int .i64 t0)], K, w => sh_postroadlaw12_QueryFar CV ⟨h0_Rank_a, h0_Rank_l, h0_Rank_c⟩ ⟨h0_Ways_a, h0_Ways_l, h0_Ways_c⟩ s0 t0 (fun r0 w' => K (.bool r0) w') w
  | _, _, _, _ => False
def sh_postroadlaw12_QueryFar.q : CVT → List X → World → (Value → Prop) → Prop
  | CV, [.v (.agg ⟨[.slice h0_Rank_a h0_Rank_l h0_Rank_c, .slice h0_Ways_a h0_Ways_l h0_Ways_c]⟩), .v (.int .i64 s0), .v (.int .i64 t0)], w, K => Quiet (Bool) (fun r => (.bool r)) (fun K1 w' => sh_postroadlaw12_QueryFar CV ⟨h0_Rank_a, h0_Rank_l, h0_Rank_c⟩ ⟨h0_Ways_a, h0_Ways_l, h0_Ways_c⟩ s0 t0 (fun r0 w'' => K1 r0 w'') w') w (fun r => K (.bool r))
  | _, _, _, _ => False
noncomputable def cx_postroadlaw12_QueryFar : Cx := Cx.add Try.prog cx_postroadref12_Look 7 sh_postroadlaw12_QueryFar.o sh_postroadlaw12_QueryFar.q
theorem cx_postroadlaw12_QueryFar.ok : CxOk cx_postroadlaw12_QueryFar := by
  refine CxOk.add cx_postroadref12_Look.ok rfl (fun CV hcv xs K w hx h => ?_) (fun CV hcv xs K w hx h => ?_)
  · unfold sh_postroadlaw12_QueryFar.o at h; split at h
    · rename_i h0_Rank_a h0_Rank_l h0_Rank_c h0_Ways_a h0_Ways_l h0_Ways_c s0 t0; exact sh_postroadlaw12_QueryFar.calls CV ⟨h0_Rank_a, h0_Rank_l, h0_Rank_c⟩ ⟨h0_Ways_a, h0_Ways_l, h0_Ways_c⟩ s0 t0 hcv h
    · exact h.elim
  · unfold sh_postroadlaw12_QueryFar.q at h; split at h
    · rename_i h0_Rank_a h0_Rank_l h0_Rank_c h0_Ways_a h0_Ways_l h0_Ways_c s0 t0; obtain ⟨r, h1, h2⟩ := h; exact ⟨_, h2, fun w' e => sh_postroadlaw12_QueryFar.calls CV ⟨h0_Rank_a, h0_Rank_l, h0_Rank_c⟩ ⟨h0_Ways_a, h0_Ways_l, h0_Ways_c⟩ s0 t0 hcv (h1 w' e)⟩
    · exact h.elim
def sh_postroadlaw12_QuerySteps.plan : Plan := (.seq .o (.seq (.seq .o (.cond (.seq .o .o) .o)) (.seq .o (.seq .o (.seq (.draw [] [.loc, .pure, .big, .pure, .rd, .pure, .big, .pure, .pure, .pure] [0, 1, 4, 5, 2, 3, 6, 7, 8, 9]) (.seq .o (.seq (.seq .o (.cond (.seq .o .o) .o)) (.seq .o .o))))))))
theorem sh_postroadlaw12_QuerySteps.is (CV : CVT) (h0_Rank : SV) (h0_Ways : SV) (s0 : Int) (t0 : Int) (w : World) (R : Value → World → Prop) : sh_postroadlaw12_QuerySteps CV h0_Rank h0_Ways s0 t0 (fun r0 w' => R (.bool r0) w') w = denF (cx_postroadlaw12_QueryFar.with CV) Try.f8 sh_postroadlaw12_QuerySteps.plan [.v (.agg #[(.slice h0_Rank.a h0_Rank.len h0_Rank.cap), (.slice h0_Ways.a h0_Ways.len h0_Ways.cap)]), .v (.int .i64 s0), .v (.int .i64 t0)] w R := by kernel_rfl
theorem sh_postroadlaw12_QuerySteps.calls (CV : CVT) (h0_Rank : SV) (h0_Ways : SV) (s0 : Int) (t0 : Int) (hcv : CVOk Try.prog CV) {w : World} {R : Ending → World → Prop} (h : sh_postroadlaw12_QuerySteps CV h0_Rank h0_Ways s0 t0 (fun r0 w' => R (.returned (.bool r0)) w') w) : Calls Try.prog 8 #[(.agg #[(.slice h0_Rank.a h0_Rank.len h0_Rank.cap), (.slice h0_Ways.a h0_Ways.len h0_Ways.cap)]), (.int .i64 s0), (.int .i64 t0)] w R :=
  calls_is (cx := cx_postroadlaw12_QueryFar.with CV) mixed_Try (cx_postroadlaw12_QueryFar.ok.with CV) hcv Try.func8 sh_postroadlaw12_QuerySteps.plan (xs := [.v (.agg #[(.slice h0_Rank.a h0_Rank.len h0_Rank.cap), (.slice h0_Ways.a h0_Ways.len h0_Ways.cap)]), .v (.int .i64 s0), .v (.int .i64 t0)]) ((args_cons _ (args_cons _ (args_cons _ args_nil)))) (by kernel_rfl) (sh_postroadlaw12_QuerySteps.is CV h0_Rank h0_Ways s0 t0 w (fun v w' => R (.returned v) w')) h
def sh_postroadlaw12_QuerySteps.o : CVT → List X → (Value → World → Prop) → World → Prop
  | CV, [.v (.agg ⟨[.slice h0_Rank_a h0_Rank_l h0_Rank_c, .slice h0_Ways_a h0_Ways_l h0_Ways_c]⟩), .v (.int .i64 s0), .v (.int .i64 t0)], K, w => sh_postroadlaw12_QuerySteps CV ⟨h0_Rank_a, h0_Rank_l, h0_Rank_c⟩ ⟨h0_Ways_a, h0_Ways_l, h0_Ways_c⟩ s0 t0 (fun r0 w' => K (.bool r0) w') w
  | _, _, _, _ => False
def sh_postroadlaw12_QuerySteps.q : CVT → List X → World → (Value → Prop) → Prop
  | CV, [.v (.agg ⟨[.slice h0_Rank_a h0_Rank_l h0_Rank_c, .slice h0_Ways_a h0_Ways_l h0_Ways_c]⟩), .v (.int .i64 s0), .v (.int .i64 t0)], w, K => Quiet (Bool) (fun r => (.bool r)) (fun K1 w' => sh_postroadlaw12_QuerySteps CV ⟨h0_Rank_a, h0_Rank_l, h0_Rank_c⟩ ⟨h0_Ways_a, h0_Ways_l, h0_Ways_c⟩ s0 t0 (fun r0 w'' => K1 r0 w'') w') w (fun r => K (.bool r))
  | _, _, _, _ => False
noncomputable def cx_postroadlaw12_QuerySteps : Cx := Cx.add Try.prog cx_postroadlaw12_QueryFar 8 sh_postroadlaw12_QuerySteps.o sh_postroadlaw12_QuerySteps.q
theorem cx_postroadlaw12_QuerySteps.ok : CxOk cx_postroadlaw12_QuerySteps := by
  refine CxOk.add cx_postroadlaw12_QueryFar.ok rfl (fun CV hcv xs K w hx h => ?_) (fun CV hcv xs K w hx h => ?_)
  · unfold sh_postroadlaw12_QuerySteps.o at h; split at h
    · rename_i h0_Rank_a h0_Rank_l h0_Rank_c h0_Ways_a h0_Ways_l h0_Ways_c s0 t0; exact sh_postroadlaw12_QuerySteps.calls CV ⟨h0_Rank_a, h0_Rank_l, h0_Rank_c⟩ ⟨h0_Ways_a, h0_Ways_l, h0_Ways_c⟩ s0 t0 hcv h
    · exact h.elim
  · unfold sh_postroadlaw12_QuerySteps.q at h; split at h
    · rename_i h0_Rank_a h0_Rank_l h0_Rank_c h0_Ways_a h0_Ways_l h0_Ways_c s0 t0; obtain ⟨r, h1, h2⟩ := h; exact ⟨_, h2, fun w' e => sh_postroadlaw12_QuerySteps.calls CV ⟨h0_Rank_a, h0_Rank_l, h0_Rank_c⟩ ⟨h0_Ways_a, h0_Ways_l, h0_Ways_c⟩ s0 t0 hcv (h1 w' e)⟩
    · exact h.elim
def sh_postroadref07_All.plan : Plan := (.seq .o (.seq .o (.seq (.seq .o (.block (.loop [.slot 3 .slice, .slot 4 (.int .i64)] [] (.seq (.seq .o (.cond .o .o)) (.join [.slot 3 .slice] [] (.block (.seq .o (.join [] [] (.seq .o (.block (.loop [.slot 6 (.int .i64)] [] (.seq (.seq .o (.cond .o .o)) (.seq (.block .o) .o))))) (.seq .o (.join [] [] (.seq .o (.block (.loop [.slot 7 .bool] [] (.seq (.seq .o (.cond .o .o)) (.block (.seq .o (.seq .o (.block (.loop [.slot 7 .bool, .slot 8 (.int .i64)] [] (.seq (.seq .o (.cond .o .o)) (.join [.slot 7 .bool] [] (.block (.seq .o (.seq (.draw [] [.pure, .pure, .loc, .pure, .quiet, .pure, .pure, .pure, .pure, .loc, .pure, .quiet, .pure, .pure, .pure, .pure, .loc, .pure, .quiet, .pure, .loc, .pure, .pure, .pure, .loc, .pure, .quiet, .pure, .pure, .pure] [0, 1, 2, 3, 4, 5, 6, 7, 8, 9, 10, 11, 12, 13, 14, 15, 16, 17, 18, 19, 20, 21, 22, 23, 24, 25, 26, 27, 28, 29]) (.cond (.seq (.draw [] [.pure, .pure, .loc, .pure, .pure, .loc, .pure, .quiet, .pure, .loc, .pure, .pure, .big] [0, 1, 2, 3, 4, 5, 6, 7, 8, 9, 10, 11, 12]) .o) .o)))) .o))))))))))) .o))))) .o))))) (.seq .o .o))))
theorem sh_postroadref07_All.is (CV : CVT) (m0_N : Int) (m0_Arcs : SV) (w : World) (R : Value → World → Prop) : sh_postroadref07_All m0_N m0_Arcs (fun r0 w' => R (.slice r0.a r0.len r0.cap) w') w = denF (cx_postroadlaw12_QuerySteps.with CV) Try.f32 sh_postroadref07_All.plan [.v (.agg #[(.int .i64 m0_N), (.slice m0_Arcs.a m0_Arcs.len m0_Arcs.cap)])] w R := by kernel_rfl
theorem sh_postroadref07_All.calls (CV : CVT) (m0_N : Int) (m0_Arcs : SV) (hcv : CVOk Try.prog CV) {w : World} {R : Ending → World → Prop} (h : sh_postroadref07_All m0_N m0_Arcs (fun r0 w' => R (.returned (.slice r0.a r0.len r0.cap)) w') w) : Calls Try.prog 32 #[(.agg #[(.int .i64 m0_N), (.slice m0_Arcs.a m0_Arcs.len m0_Arcs.cap)])] w R :=
  calls_is (cx := cx_postroadlaw12_QuerySteps.with CV) mixed_Try (cx_postroadlaw12_QuerySteps.ok.with CV) hcv Try.func32 sh_postroadref07_All.plan (xs := [.v (.agg #[(.int .i64 m0_N), (.slice m0_Arcs.a m0_Arcs.len m0_Arcs.cap)])]) ((args_cons _ args_nil)) (by kernel_rfl) (sh_postroadref07_All.is CV m0_N m0_Arcs w (fun v w' => R (.returned v) w')) h
def sh_postroadref07_All.o : CVT → List X → (Value → World → Prop) → World → Prop
  | CV, [.v (.agg ⟨[.int .i64 m0_N, .slice m0_Arcs_a m0_Arcs_l m0_Arcs_c]⟩)], K, w => sh_postroadref07_All m0_N ⟨m0_Arcs_a, m0_Arcs_l, m0_Arcs_c⟩ (fun r0 w' => K (.slice r0.a r0.len r0.cap) w') w
  | _, _, _, _ => False
def sh_postroadref07_All.q : CVT → List X → World → (Value → Prop) → Prop
  | CV, [.v (.agg ⟨[.int .i64 m0_N, .slice m0_Arcs_a m0_Arcs_l m0_Arcs_c]⟩)], w, K => Quiet (SV) (fun r => (.slice r.a r.len r.cap)) (fun K1 w' => sh_postroadref07_All m0_N ⟨m0_Arcs_a, m0_Arcs_l, m0_Arcs_c⟩ (fun r0 w'' => K1 r0 w'') w') w (fun r => K (.slice r.a r.len r.cap))
  | _, _, _, _ => False
noncomputable def cx_postroadref07_All : Cx := Cx.add Try.prog cx_postroadlaw12_QuerySteps 32 sh_postroadref07_All.o sh_postroadref07_All.q
theorem cx_postroadref07_All.ok : CxOk cx_postroadref07_All := by
  refine CxOk.add cx_postroadlaw12_QuerySteps.ok rfl (fun CV hcv xs K w hx h => ?_) (fun CV hcv xs K w hx h => ?_)
  · unfold sh_postroadref07_All.o at h; split at h
    · rename_i m0_N m0_Arcs_a m0_Arcs_l m0_Arcs_c; exact sh_postroadref07_All.calls CV m0_N ⟨m0_Arcs_a, m0_Arcs_l, m0_Arcs_c⟩ hcv h
    · exact h.elim
  · unfold sh_postroadref07_All.q at h; split at h
    · rename_i m0_N m0_Arcs_a m0_Arcs_l m0_Arcs_c; obtain ⟨r, h1, h2⟩ := h; exact ⟨_, h2, fun w' e => sh_postroadref07_All.calls CV m0_N ⟨m0_Arcs_a, m0_Arcs_l, m0_Arcs_c⟩ hcv (h1 w' e)⟩
    · exact h.elim
def sh_postroadlaw12_QueryExact.plan : Plan := (.seq .o (.seq .o (.seq .o (.seq .o (.seq .o (.seq .o (.join [.slot 11 .slice] [] (.seq .o (.block (.loop [.slot 11 .slice, .slot 12 (.int .i64)] [] (.seq (.seq .o (.cond .o .o)) (.seq (.block (.seq .o (.seq .o (.seq (.draw [] [.pure, .pure, .pure, .big, .pure, .pure, .pure, .rd, .pure, .pure, .rd, .pure, .pure, .pure, .pure, .pure, .pure, .quiet, .pure, .pure, .quiet, .pure, .pure, .pure, .pure, .pure, .pure, .big, .pure, .pure, .pure, .rd, .pure, .pure, .rd, .pure, .pure] [0, 1, 2, 4, 5, 6, 7, 8, 9, 10, 3, 11, 12, 13, 14, 15, 16, 17, 18, 19, 20, 21, 22, 23, 24, 25, 26, 28, 29, 30, 31, 32, 33, 34, 27, 35, 36]) (.cond (.seq .o .o) .o))))) .o))))) (.seq (.draw [] [.pure, .pure, .pure, .big, .pure, .pure, .pure, .rd, .quiet, .pure, .big, .pure, .pure] [0, 1, 2, 4, 5, 6, 7, 3, 8, 9, 10, 11, 12]) .o))))))))
theorem sh_postroadlaw12_QueryExact.is (CV : CVT) (n0 : Int) (arcs0 : SV) (a0 : Int) (w : World) (R : Value → World → Prop) : sh_postroadlaw12_QueryExact CV n0 arcs0 a0 (fun r0 w' => R (.bool r0) w') w = denF (cx_postroadref07_All.with CV) Try.f9 sh_postroadlaw12_QueryExact.plan [.v (.int .i64 n0), .v (.slice arcs0.a arcs0.len arcs0.cap), .v (.int .u8 a0)] w R := by kernel_rfl
theorem sh_postroadlaw12_QueryExact.calls (CV : CVT) (n0 : Int) (arcs0 : SV) (a0 : Int) (hcv : CVOk Try.prog CV) {w : World} {R : Ending → World → Prop} (h : sh_postroadlaw12_QueryExact CV n0 arcs0 a0 (fun r0 w' => R (.returned (.bool r0)) w') w) : Calls Try.prog 9 #[(.int .i64 n0), (.slice arcs0.a arcs0.len arcs0.cap), (.int .u8 a0)] w R :=
  calls_is (cx := cx_postroadref07_All.with CV) mixed_Try (cx_postroadref07_All.ok.with CV) hcv Try.func9 sh_postroadlaw12_QueryExact.plan (xs := [.v (.int .i64 n0), .v (.slice arcs0.a arcs0.len arcs0.cap), .v (.int .u8 a0)]) ((args_cons _ (args_cons _ (args_cons _ args_nil)))) (by kernel_rfl) (sh_postroadlaw12_QueryExact.is CV n0 arcs0 a0 w (fun v w' => R (.returned v) w')) h
def sh_postroadlaw12_QueryExact.o : CVT → List X → (Value → World → Prop) → World → Prop
  | CV, [.v (.int .i64 n0), .v (.slice arcs0_a arcs0_l arcs0_c), .v (.int .u8 a0)], K, w => sh_postroadlaw12_QueryExact CV n0 ⟨arcs0_a, arcs0_l, arcs0_c⟩ a0 (fun r0 w' => K (.bool r0) w') w
  | _, _, _, _ => False
def sh_postroadlaw12_QueryExact.q : CVT → List X → World → (Value → Prop) → Prop
  | CV, [.v (.int .i64 n0), .v (.slice arcs0_a arcs0_l arcs0_c), .v (.int .u8 a0)], w, K => Quiet (Bool) (fun r => (.bool r)) (fun K1 w' => sh_postroadlaw12_QueryExact CV n0 ⟨arcs0_a, arcs0_l, arcs0_c⟩ a0 (fun r0 w'' => K1 r0 w'') w') w (fun r => K (.bool r))
  | _, _, _, _ => False
noncomputable def cx_postroadlaw12_QueryExact : Cx := Cx.add Try.prog cx_postroadref07_All 9 sh_postroadlaw12_QueryExact.o sh_postroadlaw12_QueryExact.q
theorem cx_postroadlaw12_QueryExact.ok : CxOk cx_postroadlaw12_QueryExact := by
  refine CxOk.add cx_postroadref07_All.ok rfl (fun CV hcv xs K w hx h => ?_) (fun CV hcv xs K w hx h => ?_)
  · unfold sh_postroadlaw12_QueryExact.o at h; split at h
    · rename_i n0 arcs0_a arcs0_l arcs0_c a0; exact sh_postroadlaw12_QueryExact.calls CV n0 ⟨arcs0_a, arcs0_l, arcs0_c⟩ a0 hcv h
    · exact h.elim
  · unfold sh_postroadlaw12_QueryExact.q at h; split at h
    · rename_i n0 arcs0_a arcs0_l arcs0_c a0; obtain ⟨r, h1, h2⟩ := h; exact ⟨_, h2, fun w' e => sh_postroadlaw12_QueryExact.calls CV n0 ⟨arcs0_a, arcs0_l, arcs0_c⟩ a0 hcv (h1 w' e)⟩
    · exact h.elim
def sh_postroadlaw12_QueryNone.plan : Plan := (.seq .o (.join [] [] (.seq .o (.cond (.seq .o .o) .o)) (.seq .o (.seq .o (.seq (.seq .o (.cond (.seq .o .o) .o)) (.join [] [] (.seq .o (.block (.loop [.slot 9 (.int .i64)] [] (.seq (.seq .o (.cond .o .o)) (.seq (.block (.seq .o (.seq .o (.cond (.seq .o .o) .o)))) .o))))) (.seq .o .o)))))))
theorem sh_postroadlaw12_QueryNone.is (CV : CVT) (h0_Rank : SV) (h0_Ways : SV) (ts0 : SV) (v0 : Int) (w : World) (R : Value → World → Prop) : sh_postroadlaw12_QueryNone CV h0_Rank h0_Ways ts0 v0 (fun r0 w' => R (.bool r0) w') w = denF (cx_postroadlaw12_QueryExact.with CV) Try.f10 sh_postroadlaw12_QueryNone.plan [.v (.agg #[(.slice h0_Rank.a h0_Rank.len h0_Rank.cap), (.slice h0_Ways.a h0_Ways.len h0_Ways.cap)]), .v (.slice ts0.a ts0.len ts0.cap), .v (.int .i64 v0)] w R := by kernel_rfl
theorem sh_postroadlaw12_QueryNone.calls (CV : CVT) (h0_Rank : SV) (h0_Ways : SV) (ts0 : SV) (v0 : Int) (hcv : CVOk Try.prog CV) {w : World} {R : Ending → World → Prop} (h : sh_postroadlaw12_QueryNone CV h0_Rank h0_Ways ts0 v0 (fun r0 w' => R (.returned (.bool r0)) w') w) : Calls Try.prog 10 #[(.agg #[(.slice h0_Rank.a h0_Rank.len h0_Rank.cap), (.slice h0_Ways.a h0_Ways.len h0_Ways.cap)]), (.slice ts0.a ts0.len ts0.cap), (.int .i64 v0)] w R :=
  calls_is (cx := cx_postroadlaw12_QueryExact.with CV) mixed_Try (cx_postroadlaw12_QueryExact.ok.with CV) hcv Try.func10 sh_postroadlaw12_QueryNone.plan (xs := [.v (.agg #[(.slice h0_Rank.a h0_Rank.len h0_Rank.cap), (.slice h0_Ways.a h0_Ways.len h0_Ways.cap)]), .v (.slice ts0.a ts0.len ts0.cap), .v (.int .i64 v0)]) ((args_cons _ (args_cons _ (args_cons _ args_nil)))) (by kernel_rfl) (sh_postroadlaw12_QueryNone.is CV h0_Rank h0_Ways ts0 v0 w (fun v w' => R (.returned v) w')) h
def sh_postroadlaw12_QueryNone.o : CVT → List X → (Value → World → Prop) → World → Prop
  | CV, [.v (.agg ⟨[.slice h0_Rank_a h0_Rank_l h0_Rank_c, .slice h0_Ways_a h0_Ways_l h0_Ways_c]⟩), .v (.slice ts0_a ts0_l ts0_c), .v (.int .i64 v0)], K, w => sh_postroadlaw12_QueryNone CV ⟨h0_Rank_a, h0_Rank_l, h0_Rank_c⟩ ⟨h0_Ways_a, h0_Ways_l, h0_Ways_c⟩ ⟨ts0_a, ts0_l, ts0_c⟩ v0 (fun r0 w' => K (.bool r0) w') w
  | _, _, _, _ => False
def sh_postroadlaw12_QueryNone.q : CVT → List X → World → (Value → Prop) → Prop
  | CV, [.v (.agg ⟨[.slice h0_Rank_a h0_Rank_l h0_Rank_c, .slice h0_Ways_a h0_Ways_l h0_Ways_c]⟩), .v (.slice ts0_a ts0_l ts0_c), .v (.int .i64 v0)], w, K => Quiet (Bool) (fun r => (.bool r)) (fun K1 w' => sh_postroadlaw12_QueryNone CV ⟨h0_Rank_a, h0_Rank_l, h0_Rank_c⟩ ⟨h0_Ways_a, h0_Ways_l, h0_Ways_c⟩ ⟨ts0_a, ts0_l, ts0_c⟩ v0 (fun r0 w'' => K1 r0 w'') w') w (fun r => K (.bool r))
  | _, _, _, _ => False
noncomputable def cx_postroadlaw12_QueryNone : Cx := Cx.add Try.prog cx_postroadlaw12_QueryExact 10 sh_postroadlaw12_QueryNone.o sh_postroadlaw12_QueryNone.q
theorem cx_postroadlaw12_QueryNone.ok : CxOk cx_postroadlaw12_QueryNone := by
  refine CxOk.add cx_postroadlaw12_QueryExact.ok rfl (fun CV hcv xs K w hx h => ?_) (fun CV hcv xs K w hx h => ?_)
  · unfold sh_postroadlaw12_QueryNone.o at h; split at h
    · rename_i h0_Rank_a h0_Rank_l h0_Rank_c h0_Ways_a h0_Ways_l h0_Ways_c ts0_a ts0_l ts0_c v0; exact sh_postroadlaw12_QueryNone.calls CV ⟨h0_Rank_a, h0_Rank_l, h0_Rank_c⟩ ⟨h0_Ways_a, h0_Ways_l, h0_Ways_c⟩ ⟨ts0_a, ts0_l, ts0_c⟩ v0 hcv h
    · exact h.elim
  · unfold sh_postroadlaw12_QueryNone.q at h; split at h
    · rename_i h0_Rank_a h0_Rank_l h0_Rank_c h0_Ways_a h0_Ways_l h0_Ways_c ts0_a ts0_l ts0_c v0; obtain ⟨r, h1, h2⟩ := h; exact ⟨_, h2, fun w' e => sh_postroadlaw12_QueryNone.calls CV ⟨h0_Rank_a, h0_Rank_l, h0_Rank_c⟩ ⟨h0_Ways_a, h0_Ways_l, h0_Ways_c⟩ ⟨ts0_a, ts0_l, ts0_c⟩ v0 hcv (h1 w' e)⟩
    · exact h.elim
noncomputable def cxAll : Cx := cx_postroadlaw12_QueryNone
theorem cxAll.ok : CxOk cxAll := cx_postroadlaw12_QueryNone.ok
end Go.Sh

/- Space's function values are known. -/
set_option maxRecDepth 100000
namespace Go.Sh
open Go.RowKit Go.Proofs

noncomputable def gCV : CVT := CVn cxAll 2
theorem gCV_cv : CVOk Try.prog gCV := CVn_ok cxAll.ok 2
set_option linter.unusedVariables false in
theorem mCV_ok : MayCV (CVn cxAll 1) where
  all r K w h := h
set_option linter.unusedVariables false in
theorem sCV_ok : SpaceCV gCV where
  way := ⟨fun h v K w q => q, fun h v K w q => q⟩
  rows := ⟨_, mCV_ok, fun v a b c K w q => q⟩
end Go.Sh

/- Query's function values are known. -/
set_option maxRecDepth 100000
namespace Go.Sh
open Go.RowKit Go.Proofs

set_option linter.unusedVariables false in
theorem qCV_ok : QueryCV gCV where
  sp := sCV_ok
  lk := ⟨fun h v K w q => q, fun h v K w q => q⟩
end Go.Sh

/- A law's arguments, opened; a law's row, shut. -/
namespace Go.Sh
open Go.RowKit Go.ChangeShapes Go.WideShapes Go.ChangeAt

section
variable {H : Type} {enc : TypeId × Value → H} {P : Program} {w : World} {base : Nat} {spare : Nat → Bool} {held : Bool}

/-- A slice that came in is read. -/
theorem open_view {α : Type} (R : Rc α) (Wf : α → Prop) {t e : TypeId} {fuel : Nat} {cs : List Value} {x : DataW H × List MemPlace} (ht : P.underlying t = some (.slice e)) (hc : P.cellsOf e = R.sz)
    (hel : ∀ (fuel : Nat) (cs : List Value) (y : DataW H × List MemPlace), DataW.trod enc P w base spare held fuel e cs = some y → ∃ a : α, cs = R.enc a ∧ Wf a)
    (h : DataW.trod enc P w base spare held fuel t cs = some x) : ∃ (s : SV) (xs : List α), cs = [.slice s.a s.len s.cap] ∧ View R w s xs ∧ (∀ a ∈ xs, Wf a) ∧ xs.length ≤ maxLen := by
  rcases DataW.trod_slice ht h with ⟨h0, _⟩ | ⟨a, len, cap, elems, rest, n, _, rfl, rfl, hb, hl, hm, hlen, hels, _, _⟩
  · exact ⟨⟨none, 0, 0⟩, [], h0, ⟨rfl, fun h => absurd rfl h, fun i x hx => by simp at hx⟩, fun _ h => by simp at h, by simp [maxLen]⟩
  · have each : ∀ i, i < len → ∃ z : α, Wf z ∧ ∀ j v, (R.enc z)[j]? = some v → w.cell? ((a.add (i * R.sz)).add j) = some v := by
      intro i hi
      have h1 := hels i hi
      rw [List.getElem?_eq_getElem (by omega), hc, Option.bind_eq_some_iff] at h1
      obtain ⟨cs', hcs, hy⟩ := h1
      obtain ⟨z, rfl, hz⟩ := hel _ _ _ hy
      refine ⟨z, hz, fun j v hv => ?_⟩
      have := (World.cells?_some hcs).2.2 j (by rw [← R.len z]; exact (List.getElem?_eq_some_iff.1 hv).1)
      rw [this]; exact hv
    have spot : 0 < len → a.spot = none := fun h0 => by
      obtain ⟨z, _, hz⟩ := each 0 h0
      have hp : 0 < (R.enc z).length := by rw [R.len]; exact R.pos
      have := hz 0 _ (List.getElem?_eq_getElem hp)
      rw [Nat.zero_mul] at this
      have e0 : (a.add 0).add 0 = a := by simp [Addr.add]
      rw [e0] at this
      unfold World.cell? at this
      split at this
      · split at this
        · cases this
        · rename_i hs; simpa using hs
      · cases this
    let f : Nat → α := fun i => if h : i < len then (each i h).choose else R.z
    have hf : ∀ i (hi : i < len), Wf (f i) ∧ ∀ j v, (R.enc (f i))[j]? = some v → w.cell? ((a.add (i * R.sz)).add j) = some v := fun i hi => by
      simp only [f, dif_pos hi]; exact (each i hi).choose_spec
    refine ⟨⟨some a, len, cap⟩, (List.range len).map f, rfl, ⟨by simp, fun hne p hp => ?_, fun i x hx => ?_⟩, fun x hx => ?_, by simp; omega⟩
    · cases hp
      refine spot ?_
      rcases Nat.eq_zero_or_pos len with h0 | h0
      · subst h0; simp at hne
      · exact h0
    · have hi : i < len := by have := (List.getElem?_eq_some_iff.1 hx).1; simpa using this
      rw [List.getElem?_map, List.getElem?_range hi] at hx
      injection hx with hx
      subst hx
      refine ⟨a, rfl, fun j v hv => ?_⟩
      have := (hf i hi).2 j v hv
      have hs := spot (by omega)
      rw [add_add _ hs, add_add _ rfl] at this
      exact this
    · obtain ⟨i, hi, rfl⟩ := List.mem_map.1 hx
      exact (hf i (List.mem_range.1 hi)).1

theorem in64_wf {n : Int} (hw : (Lit.int .i64 n).wf = true) : In64 n := by
  simp only [Lit.wf, Bool.and_eq_true, decide_eq_true_eq] at hw
  have h1 : IntKind.i64.min = -9223372036854775808 := by decide
  have h2 : IntKind.i64.max = 9223372036854775807 := by decide
  rw [h1, h2] at hw
  exact ⟨hw.1, by omega⟩

/-- A struct of ints that came in. -/
theorem trod_ints {t : TypeId} {fs : Array Field} {fuel : Nat} {cs : List Value} {x : DataW H × List MemPlace} (ht : P.underlying t = some (.struct fs)) (hc : P.cellsOf t = fs.size)
    (hf : ∀ (j : Nat) (f : Field), fs[j]? = some f → f.offset = j ∧ P.cellsOf f.type = 1 ∧ P.underlying f.type = some (.int .i64))
    (h : DataW.trod enc P w base spare held fuel t cs = some x) : ∃ xs : List Int, cs = xs.map (Value.int .i64) ∧ xs.length = fs.size ∧ ∀ n ∈ xs, In64 n := by
  obtain ⟨ys, n, _, _, hl, hyl, hel⟩ := DataW.trod_struct ht h
  have each : ∀ j, j < fs.size → ∃ n, cs[j]? = some (.int .i64 n) ∧ In64 n := fun j hj => by
    obtain ⟨h1, h2, h3⟩ := hf j fs[j] (Array.getElem?_eq_getElem hj)
    have h4 := hel j fs[j] (Array.getElem?_eq_getElem hj)
    rw [List.getElem?_eq_getElem (by omega), h1, h2] at h4
    obtain ⟨m, hm, _, hw⟩ := DataW.trod_int h3 h4
    have hjl : j < cs.length := by omega
    refine ⟨m, ?_, ?_⟩
    · have : (List.take 1 (List.drop j cs))[0]? = some (Value.int .i64 m) := by rw [hm]; rfl
      rw [List.getElem?_take, if_pos (by omega), List.getElem?_drop] at this
      simpa using this
    · simp only [Lit.wf, Bool.and_eq_true, decide_eq_true_eq] at hw
      have h1 : IntKind.i64.min = -9223372036854775808 := by decide
      have h2 : IntKind.i64.max = 9223372036854775807 := by decide
      rw [h1, h2] at hw
      exact ⟨hw.1, by omega⟩
  let f : Nat → Int := fun j => if h : j < fs.size then (each j h).choose else 0
  have hfj : ∀ j, j < fs.size → cs[j]? = some (.int .i64 (f j)) ∧ In64 (f j) := fun j hj => by
    simp only [f, dif_pos hj]; exact (each j hj).choose_spec
  refine ⟨(List.range fs.size).map f, ?_, by simp, fun n hn => ?_⟩
  · apply List.ext_getElem?
    intro j
    by_cases hj : j < fs.size
    · rw [(hfj j hj).1, List.getElem?_map, List.getElem?_map, List.getElem?_range hj]; rfl
    · rw [List.getElem?_eq_none (by omega), List.getElem?_eq_none (by simp; omega)]
  · obtain ⟨j, hj, rfl⟩ := List.mem_map.1 hn
    exact (hfj j (List.mem_range.1 hj)).2

theorem trodAll_below {W W' : World} (hl : laidOutB P = true) (hB : Below W.heap.size W W') : ∀ {ts : List TypeId} {vs : List Value} {ds : List (DataW H)} {ps : List MemPlace},
    (∀ t ∈ ts, P.readableRec t = true ∧ t < P.types.size) → DataW.TrodAll enc P W 0 (fun _ => true) true ts vs ds ps → (∀ x ∈ ps, x.block < W.heap.size) →
    DataW.TrodAll enc P W' 0 (fun b => decide (b < W.heap.size)) true ts vs ds ps
  | [], vs, ds, ps, _, h, _ => by
    obtain ⟨rfl, rfl, rfl⟩ := trodAll_nil h
    exact trodAll_mk0
  | t :: ts, vs, ds, ps, hr, h, hp => by
    obtain ⟨v, vs', d, ds', p, q, rfl, rfl, rfl, h1, h2⟩ := trodAll_cons h
    exact trodAll_cons_mk (Below.trod hl (hr t List.mem_cons_self).1 (hr t List.mem_cons_self).2 h1 hB fun x hx => hp x (List.mem_append_left _ hx))
      (trodAll_below hl hB (fun t' ht' => hr t' (List.mem_cons_of_mem _ ht')) h2 fun x hx => hp x (List.mem_append_right _ hx))

/-- A law's row, behind its walk. -/
theorem law_post {f : Func} {s : ChangeSpec} {W W' : World} {args : Array Value} {ds gs : List (DataW H)} {before : List MemPlace} {tb : TypeId} (hl : laidOutB P = true) (hrb : (f.params.toList.all fun t => P.readableRec t && Nat.blt t P.types.size) = true)
    (hres : f.resultTypes = #[tb]) (htb : P.underlying tb = some .bool) (hv : s.vars = []) (hspec : s.fn H ds = { results := [.lit (.bool true)], args := ds })
    (hW : DataW.Whole enc P f.params.toList s.vars false W args.toList ds gs before) (hB : Below W.heap.size W W') : s.post enc P f false true false false W args (.bool true) W' := by
  have hr : ∀ t ∈ f.params.toList, P.readableRec t = true ∧ t < P.types.size := fun t ht => by
    have := List.all_eq_true.1 hrb t ht
    simpa using this
  have hlt := fun x hx => hW.lt x hx
  have hW' := hW
  obtain ⟨p, q, hA, hV, rfl, _, _⟩ := hW
  rw [hv] at hV
  obtain ⟨rfl, rfl⟩ := trodVars_none hV
  rw [List.append_nil] at hW' hlt
  refine ⟨ds, [], p, [], p, [], hW', ?_, ?_, ?_, hB.frame _, fun h => by cases h⟩
  · rw [hres, List.append_nil, hspec]
    exact trodAll_mk1 (shut_bool htb true)
  · rw [List.append_nil, hspec]
    exact trodAll_below hl hB hr hA hlt
  · rw [hv, List.append_nil, hspec]; rfl
end
end Go.Sh

/- What this seat's rows lean on: inputs, opened; printed by row.py of these sessions. -/
set_option maxRecDepth 100000
set_option linter.unusedVariables false
namespace Go.Proofs.Ytnonlclcjdmecaa
open Go.ChangeShapes Go.WideShapes Go.ChangeAt Go.RowKit Go.Sh

theorem ownK : ownKnob Try.prog.godebug = none := by kernel_rfl
theorem laidK : laidOutB Try.prog = true := by kernel_rfl
def OkY (y : Wy) : Prop := In64 (yF y) ∧ In64 (yT y) ∧ In64 (yW y) ∧ In64 (yM y) ∧ In64 (yA y)

section
variable {H : Type} {enc : TypeId × Value → H} {w : World} {base : Nat} {spare : Nat → Bool} {held : Bool}
theorem int_el (fuel : Nat) (cs : List Value) (y : DataW H × List MemPlace)
    (h : DataW.trod enc Try.prog w base spare held fuel 3 cs = some y) : ∃ a : Int, cs = RI.enc a ∧ In64 a := by
  obtain ⟨m, rfl, _, hw⟩ := DataW.trod_int Try.underlying3 h
  exact ⟨m, rfl, in64_wf hw⟩
theorem short_el (fuel : Nat) (cs : List Value) (y : DataW H × List MemPlace)
    (h : DataW.trod enc Try.prog w base spare held fuel 68 cs = some y) : ∃ a : Wy, cs = RW.enc a ∧ OkY a := by
  obtain ⟨ys, n, _, _, hl, hyl, hel⟩ := DataW.trod_struct Try.underlying68 h
  have hl2 : cs.length = 5 := by rw [hl]; kernel_rfl
  have h0 := hel 0 _ rfl
  have h1 := hel 1 _ rfl
  have h2 := hel 2 _ rfl
  match cs, hl2 with
  | [c0, c1, c2, c3, c4], _ =>
    have hy : ys.length = 3 := by rw [hyl]; rfl
    match ys, hy with
    | [y0, y1, y2], _ =>
      change DataW.trod enc Try.prog w base spare held n 3 (List.take (Try.prog.cellsOf 3) [c0, c1, c2, c3, c4]) = some y0 at h0
      change DataW.trod enc Try.prog w base spare held n 3 (List.take (Try.prog.cellsOf 3) [c1, c2, c3, c4]) = some y1 at h1
      change DataW.trod enc Try.prog w base spare held n 66 (List.take (Try.prog.cellsOf 66) [c2, c3, c4]) = some y2 at h2
      have q3 : Try.prog.cellsOf 3 = 1 := by kernel_rfl
      have q44 : Try.prog.cellsOf 66 = 3 := by kernel_rfl
      rw [q3] at h0 h1; rw [q44] at h2
      change DataW.trod enc Try.prog w base spare held n 3 [c0] = some y0 at h0
      change DataW.trod enc Try.prog w base spare held n 3 [c1] = some y1 at h1
      change DataW.trod enc Try.prog w base spare held n 66 [c2, c3, c4] = some y2 at h2
      obtain ⟨f, hf, _, wf⟩ := DataW.trod_int Try.underlying3 h0
      obtain ⟨t, ht, _, wt⟩ := DataW.trod_int Try.underlying3 h1
      obtain ⟨xs, hxs, hl3, hw⟩ := trod_ints Try.underlying66 (by kernel_rfl) (fun j f hj => by
        match j, hj with
        | 0, hj => cases hj; exact ⟨rfl, by kernel_rfl, Try.underlying3⟩
        | 1, hj => cases hj; exact ⟨rfl, by kernel_rfl, Try.underlying3⟩
        | 2, hj => cases hj; exact ⟨rfl, by kernel_rfl, Try.underlying3⟩
        | n + 3, hj => simp at hj) h2
      match xs, hl3, hw, hxs with
      | [a, b, c], _, hw, hxs =>
        simp only [List.map_cons, List.map_nil, List.cons.injEq, and_true] at hf ht hxs
        obtain ⟨rfl, rfl, rfl⟩ := hxs
        subst hf ht
        exact ⟨(f, t, a, b, c), rfl, in64_wf wf, in64_wf wt, hw a (by simp), hw b (by simp), hw c (by simp)⟩
theorem hier_el {fuel : Nat} {cs : List Value} {y : DataW H × List MemPlace}
    (h : DataW.trod enc Try.prog w base spare held fuel 31 cs = some y) : ∃ (sr sy : SV) (rank : List Int) (ways : List Wy), cs = [.slice sr.a sr.len sr.cap, .slice sy.a sy.len sy.cap] ∧ View RI w sr rank ∧ View RW w sy ways ∧
      (∀ a ∈ rank, In64 a) ∧ (∀ a ∈ ways, OkY a) ∧ rank.length ≤ maxLen ∧ ways.length ≤ maxLen := by
  obtain ⟨ys, n, _, _, hl, hyl, hel⟩ := DataW.trod_struct Try.underlying31 h
  have hl2 : cs.length = 2 := by rw [hl]; kernel_rfl
  have h0 := hel 0 _ rfl
  have h1 := hel 1 _ rfl
  match cs, hl2 with
  | [c0, c1], _ =>
    have hy : ys.length = 2 := by rw [hyl]; rfl
    match ys, hy with
    | [y0, y1], _ =>
      change DataW.trod enc Try.prog w base spare held n 28 (List.take (Try.prog.cellsOf 28) [c0, c1]) = some y0 at h0
      change DataW.trod enc Try.prog w base spare held n 29 (List.take (Try.prog.cellsOf 29) [c1]) = some y1 at h1
      have q22 : Try.prog.cellsOf 28 = 1 := by kernel_rfl
      have q23 : Try.prog.cellsOf 29 = 1 := by kernel_rfl
      rw [q22] at h0; rw [q23] at h1
      change DataW.trod enc Try.prog w base spare held n 28 [c0] = some y0 at h0
      change DataW.trod enc Try.prog w base spare held n 29 [c1] = some y1 at h1
      obtain ⟨sr, rank, hs, hv, hx, hle⟩ := open_view RI In64 Try.underlying28 (by kernel_rfl) int_el h0
      obtain ⟨sy, ways, hs2, hv2, hx2, hle2⟩ := open_view RW OkY Try.underlying29 (by kernel_rfl) short_el h1
      simp only [List.cons.injEq, and_true] at hs hs2
      subst hs hs2
      exact ⟨sr, sy, rank, ways, rfl, hv, hv2, hx, hx2, hle, hle2⟩
end
end Go.Proofs.Ytnonlclcjdmecaa
