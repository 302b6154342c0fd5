/- The graph's counting sort. -/
import Derived.Test.YtoomennincfkgaaGraphPure
import Derived.Test.YtoomennincfkgaaAllDef
set_option maxRecDepth 100000
namespace Go.Sh
open Go.RowKit

theorem fl_rd {w : World} {s : SV} {n : Nat} {f : Nat → Nat} (h : View RI w s (fl n f)) {i : Nat} (hi : i < n) {K : Addr → Prop} (hk : ∀ a, w.cell? a = some (.int .i64 (f i)) → K a) : Idx s.a s.len (i : Int) 1 K :=
  int_idx h (by rw [fl_len]; exact hi) fun a ha => hk a (by rw [fl_get] at ha; exact ha)
theorem fl_wr {w : World} {s : SV} {n : Nat} {f : Nat → Nat} (h : Own RI w s (fl n f)) {i : Nat} (hi : i < n) {K : Addr → Prop}
    (hk : ∀ a, (∀ (w1 : World) (v : Int) (x : Nat) (K' : World → Prop), v = (x : Int) → Own RI w1 s (fl n f) → (∀ w', Chg s.blk w1 w' → Own RI w' s (fl n (fun j => if j = i then x else f j)) → K' w') → stL w1 a [.int .i64 v] 0 K') → K a) :
    Idx s.a s.len (i : Int) 1 K := by
  refine own_wr (R := RI) h (by rw [fl_len]; exact hi) fun b hb hput => ?_
  refine hk _ fun w1 v x K' hv hO hK => ?_
  subst hv
  refine hput (x : Int) w1 K' hO fun w' o hO' => hK w' (.of_off o ⟨_, hb, rfl⟩) ?_
  rw [fl_set hi] at hO'; exact hO'

theorem cnt_le (l : List Nat) (e : Nat → Nat) (v : Nat) : cnt l e v ≤ l.length := List.length_filter_le _ _
theorem pre_le {l : List Nat} {e : Nat → Nat} {n v : Nat} (h : ∀ k ∈ l, e k < n) (hv : v ≤ n) : pre l e v ≤ l.length := by
  rw [← pre_all h]; exact pre_mono l e hv

end Go.Sh
