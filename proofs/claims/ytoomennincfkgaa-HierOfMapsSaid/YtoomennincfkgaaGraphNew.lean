/- A graph in memory; New and Kept. -/
import Derived.Test.YtoomennincfkgaaGraphLay
set_option maxRecDepth 100000
namespace Go.Sh
open Go.RowKit

structure GraphM (w : World) (gb : Nat) (sA f1 e1 f2 e2 sc : SV) (n : Nat) (arcs : List Arc) (c : Nat → Bool) : Prop where
  hd : Blk w gb [.int .i64 (n : Int), .slice sA.a sA.len sA.cap, .slice f1.a f1.len f1.cap, .slice e1.a e1.len e1.cap, .slice f2.a f2.len f2.cap, .slice e2.a e2.len e2.cap, .slice sc.a sc.len sc.cap]
  a : Own RD w sA arcs
  f1 : Own RI w f1 (fl (n + 1) (pre (byBoth n (keptL arcs) (frA arcs) (toA arcs)) (frA arcs)))
  e1 : Own RD w e1 (edgeL arcs (toA arcs) (byBoth n (keptL arcs) (frA arcs) (toA arcs)))
  f2 : Own RI w f2 (fl (n + 1) (pre (byBoth n (keptL arcs) (toA arcs) (frA arcs)) (toA arcs)))
  e2 : Own RD w e2 (edgeL arcs (frA arcs) (byBoth n (keptL arcs) (toA arcs) (frA arcs)))
  cn : Own RB w sc (bl arcs.length c)
  kept : (List.range arcs.length).filter c = keptL arcs
def gF (gb : Nat) (sA f1 e1 f2 e2 sc : SV) (k : Nat) : Prop := k = gb ∨ sA.blk k ∨ f1.blk k ∨ e1.blk k ∨ f2.blk k ∨ e2.blk k ∨ sc.blk k
theorem GraphM.chg {w w' : World} {gb : Nat} {sA f1 e1 f2 e2 sc : SV} {n : Nat} {arcs : List Arc} {c : Nat → Bool} {G : Nat → Prop} (h : GraphM w gb sA f1 e1 f2 e2 sc n arcs c) (g : Chg G w w') (hd : ∀ k, gF gb sA f1 e1 f2 e2 sc k → ¬ G k) : GraphM w' gb sA f1 e1 f2 e2 sc n arcs c :=
  ⟨g.blk h.hd (hd _ (.inl rfl)), h.a.chg g fun k hk => hd k (.inr (.inl hk)), h.f1.chg g fun k hk => hd k (.inr (.inr (.inl hk))), h.e1.chg g fun k hk => hd k (.inr (.inr (.inr (.inl hk)))),
    h.f2.chg g fun k hk => hd k (.inr (.inr (.inr (.inr (.inl hk))))), h.e2.chg g fun k hk => hd k (.inr (.inr (.inr (.inr (.inr (.inl hk)))))), h.cn.chg g fun k hk => hd k (.inr (.inr (.inr (.inr (.inr (.inr hk)))))), h.kept⟩

/-- A graph of a map; F: its blocks. -/
def GraphA (w : World) (p : Option Addr) (N : Int) (arcs : List Arc) (F : Nat → Prop) : Prop :=
  OkMap N arcs ∧ ∃ gb sA f1 e1 f2 e2 sc, ∃ n c, p = some ⟨gb, 0, none⟩ ∧ N = ((n : Nat) : Int) ∧ GraphM w gb sA f1 e1 f2 e2 sc n arcs c ∧ F = gF gb sA f1 e1 f2 e2 sc
section
variable {w w' : World} {p : Option Addr} {N : Int} {arcs : List Arc} {F : Nat → Prop}
theorem GraphA.chg {G : Nat → Prop} (h : GraphA w p N arcs F) (g : Chg G w w') (hd : ∀ k, F k → ¬ G k) : GraphA w' p N arcs F := by
  obtain ⟨ok, gb, sA, f1, e1, f2, e2, sc, n, c, hp, hn, hM, rfl⟩ := h
  exact ⟨ok, gb, sA, f1, e1, f2, e2, sc, n, c, hp, hn, hM.chg g hd, rfl⟩
theorem GraphA.ext (h : GraphA w p N arcs F) (e : Ext w w') : GraphA w' p N arcs F := h.chg (G := fun _ => False) (.of_ext e) fun _ _ h => h
theorem GraphA.off {b : Nat} (h : GraphA w p N arcs F) (o : Off b w w') (hb : ¬ F b) : GraphA w' p N arcs F := h.chg (G := fun k => k = b) (.of_off o rfl) fun _ hk e => hb (e ▸ hk)
theorem GraphA.lt (h : GraphA w p N arcs F) {k : Nat} (hk : F k) : k < w.heap.size := by
  obtain ⟨ok, gb, sA, f1, e1, f2, e2, sc, n, c, hp, hn, hM, rfl⟩ := h
  rcases hk with rfl | hk | hk | hk | hk | hk | hk
  · exact blk_lt hM.hd
  · exact hM.a.lt hk
  · exact hM.f1.lt hk
  · exact hM.e1.lt hk
  · exact hM.f2.lt hk
  · exact hM.e2.lt hk
  · exact hM.cn.lt hk
theorem GraphA.ok (h : GraphA w p N arcs F) : OkMap N arcs := h.1
end

theorem noLoops_pw (arcs : List Arc) : (noLoops arcs).Pairwise (· < ·) := List.Pairwise.filter _ List.pairwise_lt_range
theorem noLoops_lt {arcs : List Arc} {k : Nat} (h : k ∈ noLoops arcs) : k < arcs.length := by simp [noLoops, List.mem_filter] at h; exact h.1
theorem noLoops_len (arcs : List Arc) : (noLoops arcs).length ≤ arcs.length := by
  have := List.length_filter_le (fun k => (arcA arcs k).1 != (arcA arcs k).2.1) (List.range arcs.length)
  simpa [noLoops] using this

/-- What New has laid. -/
structure NewM (w0 w : World) (b1 b11 D : Nat) (s5 s9 : SV) (n : Nat) (arcs : List Arc) (c : Nat → Bool) : Prop where
  e : Ext w0 w
  m : Blk w b1 [.int .i64 (n : Int), .slice s5.a s5.len s5.cap]
  g : Blk w b11 [.int .i64 (n : Int), .slice s5.a s5.len s5.cap, .slice none 0 0, .slice none 0 0, .slice none 0 0, .slice none 0 0, .slice s9.a s9.len s9.cap]
  a : Own RD w s5 arcs
  cn : Own RB w s9 (bl arcs.length c)
  g1 : w0.heap.size ≤ b1
  g11 : w0.heap.size ≤ b11
  gD : w0.heap.size ≤ D
  g5 : Fsh w0 s5
  g9 : Fsh w0 s9
  d1 : ¬ s9.blk b1
  d11 : ¬ s9.blk b11
  d5 : ∀ k, s9.blk k → ¬ s5.blk k
  D9 : ¬ s9.blk D
  D5 : ¬ s5.blk D
  D1 : D ≠ b1
  D11 : D ≠ b11
  lD : D < w.heap.size
section
variable {w0 w w' : World} {b1 b11 D : Nat} {s5 s9 : SV} {n : Nat} {arcs : List Arc} {c : Nat → Bool}
theorem NewM.ext (h : NewM w0 w b1 b11 D s5 s9 n arcs c) (e : Ext w w') : NewM w0 w' b1 b11 D s5 s9 n arcs c :=
  ⟨h.e.trans e, e.blkE h.m, e.blkE h.g, h.a.ext e, h.cn.ext e, h.g1, h.g11, h.gD, h.g5, h.g9, h.d1, h.d11, h.d5, h.D9, h.D5, h.D1, h.D11, Nat.lt_of_lt_of_le h.lD e.size⟩
theorem NewM.kD (h : NewM w0 w b1 b11 D s5 s9 n arcs c) (e : Ext w w') : Keeps [D] w w' := kp_ext e (by have := h.lD; (intro b hb; simp only [List.mem_cons, List.not_mem_nil, or_false] at hb; omega))
theorem NewM.put (h : NewM w0 w b1 b11 D s5 s9 n arcs c) {i : Nat} (hi : i < arcs.length) {x : Bool} {K : World → Prop} (hk : ∀ w', Chg s9.blk w w' → Keeps [D] w w' → NewM w0 w' b1 b11 D s5 s9 n arcs (fun j => if j = i then x else c j) → K w') :
    Idx s9.a s9.len (i : Int) 1 (fun a => stL w a [.bool x] 0 K) := by
  refine own_wr (R := RB) h.cn (by rw [bl_len]; exact hi) fun b hb hput => ?_
  refine hput x w K h.cn fun w' o hO => ?_
  have cc : Chg s9.blk w w' := .of_off o ⟨_, hb, rfl⟩
  rw [bl_set hi] at hO
  exact hk w' cc (kp_chg cc fun k hk => by simp only [List.mem_cons, List.not_mem_nil, or_false] at hk; subst hk; exact ⟨h.lD, h.D9⟩)
    ⟨ext_chg h.e cc h.g9, cc.blk h.m h.d1, cc.blk h.g h.d11, h.a.chg cc fun k hk h9 => h.d5 k h9 hk, hO, h.g1, h.g11, h.gD, h.g5, h.g9, h.d1, h.d11, h.d5, h.D9, h.D5, h.D1, h.D11, Nat.lt_of_lt_of_le h.lD cc.size⟩
end

end Go.Sh
