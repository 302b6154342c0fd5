/- The graph's methods. -/
import Derived.Test.YtachbdfhbpmaeaaGraphNew
set_option maxRecDepth 100000
namespace Go.Sh
open Go.RowKit

/-- The edges out of a place, and into it. -/
def outE (N : Int) (arcs : List Arc) (v : Int) : List Arc := if 0 ≤ v ∧ v < N then edgeL arcs (toA arcs) (outK N.toNat (keptL arcs) (frA arcs) (toA arcs) v.toNat) else []
def inE (N : Int) (arcs : List Arc) (v : Int) : List Arc := if 0 ≤ v ∧ v < N then edgeL arcs (frA arcs) (outK N.toNat (keptL arcs) (toA arcs) (frA arcs) v.toNat) else []

theorem edgeL_part (arcs : List Arc) (to : Nat → Nat) (S : List Nat) (a b : Nat) : ((edgeL arcs to S).drop a).take b = edgeL arcs to ((S.drop a).take b) := by
  unfold edgeL; rw [← List.map_drop, ← List.map_take]

section
variable {w w' : World} {p : Option Addr} {N : Int} {arcs : List Arc} {F : Nat → Prop}

theorem GraphA.some (h : GraphA w p N arcs F) : p.isNone = false := by
  obtain ⟨_, gb, _, _, _, _, _, _, _, _, rfl, _⟩ := h; rfl

theorem N_ok {K : Int → World → Prop} (h : GraphA w p N arcs F) (hk : K N w) : sh_graph_Graph_N p K w := by
  obtain ⟨ok, gb, sA, f1, e1, f2, e2, sc, n, c, rfl, rfl, hM, rfl⟩ := h
  unfold sh_graph_Graph_N
  simp only [Option.isNone_some, cond_false]
  exact ⟨_, rfl, _, by rw [addm, addm, cell_blk hM.hd]; rfl, hk⟩
theorem N_nil {K : Int → World → Prop} (hk : K 0 w) : sh_graph_Graph_N none K w := hk
theorem is_ok {v : Int} {K : Bool → World → Prop} (h : GraphA w p N arcs F) (hk : K (decide (0 ≤ v ∧ v < N)) w) : sh_graph_Graph_is p v K w := by
  unfold sh_graph_Graph_is
  rw [Bool.cond_decide]
  split
  · rename_i h0
    refine N_ok h ?_
    have : decide (0 ≤ v ∧ v < N) = decide (v < N) := decide_eq_decide.2 ⟨fun h => h.2, fun h => ⟨h0, h⟩⟩
    rw [this] at hk; exact hk
  · rename_i h0
    rw [decide_eq_false (fun h => h0 h.1)] at hk; exact hk
theorem is_nil {v : Int} {K : Bool → World → Prop} (hk : K false w) : sh_graph_Graph_is none v K w := by
  unfold sh_graph_Graph_is
  rw [Bool.cond_decide]
  split
  · refine N_nil ?_
    rw [decide_eq_false (by omega)]; exact hk
  · exact hk

theorem all_ok {gb off : Nat} {cs : List Value} {f1 e1 : SV} {n : Nat} {S : List Nat} {arcs : List Arc} {fr to : Nat → Nat} {v : Nat} {K : SV → World → Prop} (hB : Blk w gb cs) (h0 : cs[off]? = some (.slice f1.a f1.len f1.cap)) (h1 : cs[off + 1]? = some (.slice e1.a e1.len e1.cap))
    (hf : Own RI w f1 (fl (n + 1) (pre S fr))) (he : Own RD w e1 (edgeL arcs to S)) (hv : v < n) (hn : n < 2 ^ 30) (hS : S.length < 2 ^ 30) (hfr : ∀ k ∈ S, fr k < n)
    (hk : ∀ s w', Ext w w' → Own RD w' s (edgeL arcs to ((S.drop (pre S fr v)).take (pre S fr (v + 1) - pre S fr v))) → Fsh w s → K s w') : sh_graph_side_all (some ⟨gb, off, none⟩) (v : Int) K w := by
  unfold sh_graph_side_all
  have hpl := pre_le hfr (show v + 1 ≤ n by omega)
  have hps := pre_succ S fr v
  refine ⟨_, rfl, e1, by rw [addm, cell_blk hB]; exact h1, _, rfl, f1, by rw [addm, cell_blk hB]; exact h0, ?_⟩
  refine fl_rd hf.view (by omega) fun a ha => ⟨_, ha, ?_⟩
  refine ⟨_, rfl, f1, by rw [addm, cell_blk hB]; exact h0, ?_⟩
  rw [wsucc (m := 2 ^ 40) (by omega) (by omega)]
  refine fl_rd hf.view (by omega) fun a ha => ⟨_, ha, ?_⟩
  refine Own.slice (R := RD) he (by omega) (by rw [edgeL_len]; exact hpl) fun t ht _ => ?_
  intro w12 e12
  rw [edgeL_part] at ht
  have hl : (edgeL arcs to ((S.drop (pre S fr v)).take (pre S fr (v + 1) - pre S fr v))).length ≤ S.length := by rw [edgeL_len]; simp; omega
  refine Own.app (R := RD) Own.nil (ht.ext e12) (by simp only [List.length_nil]; omega) (by simp only [List.length_nil]; omega) fun s13 w14 c14 hs hO => ?_
  rw [List.nil_append] at hO
  intro w15 e15
  have e14 : Ext w12 w14 := c14.ext fun k _ ⟨q, hq, _⟩ => by cases hq
  refine hk s13 w15 ((e12.trans e14).trans e15) (hO.ext e15) fun k hk => ?_
  have := e12.size
  rcases hs k hk with ⟨q, hq, _⟩ | h'
  · cases hq
  · omega

theorem kept_lt {arcs : List Arc} {k : Nat} (h : k ∈ keptL arcs) : k < arcs.length := (mem_keptL.1 h).1

theorem Out_ok {v : Int} {K : SV → World → Prop} (h : GraphA w p N arcs F) (hk : ∀ s w', Ext w w' → Own RD w' s (outE N arcs v) → Fsh w s → K s w') : sh_graph_Graph_Out p v K w := by
  unfold sh_graph_Graph_Out
  refine is_ok h ?_
  by_cases hv : 0 ≤ v ∧ v < N
  · rw [decide_eq_true hv]
    simp only [Bool.not_true, cond_false]
    obtain ⟨ok, gb, sA, f1, e1, f2, e2, sc, n, c, rfl, rfl, hM, rfl⟩ := h
    obtain ⟨u, rfl⟩ := Int.eq_ofNat_of_zero_le hv.1
    refine ⟨_, rfl, ?_⟩
    simp only [addm]
    have hb : ∀ k ∈ keptL arcs, frA arcs k < n ∧ toA arcs k < n := fun k hk => ⟨(ok.fr (kept_lt hk)).2, (ok.to (kept_lt hk)).2⟩
    have hp := byBoth_perm hb
    have hl := keptL_len arcs
    have hlen := ok.len; have hn1 := ok.n1
    refine all_ok (off := 0 + 2) hM.hd rfl rfl hM.f1 hM.e1 (by omega) (by omega) (by rw [hp.length_eq]; omega) (fun k hk => (hb k (hp.mem_iff.1 hk)).1) fun s w' e hO hF => hk s w' e ?_ hF
    rw [byBoth_part hb (by omega)] at hO
    unfold outE
    rw [if_pos hv]
    exact hO
  · rw [decide_eq_false hv]
    simp only [Bool.not_false, cond_true]
    refine hk _ w (.refl _) ?_ fsh_nil
    unfold outE; rw [if_neg hv]; exact Own.nil
theorem In_ok {v : Int} {K : SV → World → Prop} (h : GraphA w p N arcs F) (hk : ∀ s w', Ext w w' → Own RD w' s (inE N arcs v) → Fsh w s → K s w') : sh_graph_Graph_In p v K w := by
  unfold sh_graph_Graph_In
  refine is_ok h ?_
  by_cases hv : 0 ≤ v ∧ v < N
  · rw [decide_eq_true hv]
    simp only [Bool.not_true, cond_false]
    obtain ⟨ok, gb, sA, f1, e1, f2, e2, sc, n, c, rfl, rfl, hM, rfl⟩ := h
    obtain ⟨u, rfl⟩ := Int.eq_ofNat_of_zero_le hv.1
    refine ⟨_, rfl, ?_⟩
    simp only [addm]
    have hb : ∀ k ∈ keptL arcs, toA arcs k < n ∧ frA arcs k < n := fun k hk => ⟨(ok.to (kept_lt hk)).2, (ok.fr (kept_lt hk)).2⟩
    have hp := byBoth_perm hb
    have hl := keptL_len arcs
    have hlen := ok.len; have hn1 := ok.n1
    refine all_ok (off := 0 + 4) hM.hd rfl rfl hM.f2 hM.e2 (by omega) (by omega) (by rw [hp.length_eq]; omega) (fun k hk => (hb k (hp.mem_iff.1 hk)).1) fun s w' e hO hF => hk s w' e ?_ hF
    rw [byBoth_part hb (by omega)] at hO
    unfold inE
    rw [if_pos hv]
    exact hO
  · rw [decide_eq_false hv]
    simp only [Bool.not_false, cond_true]
    refine hk _ w (.refl _) ?_ fsh_nil
    unfold inE; rw [if_neg hv]; exact Own.nil
theorem Out_nil {v : Int} {K : SV → World → Prop} (hk : K ⟨none, 0, 0⟩ w) : sh_graph_Graph_Out none v K w := by
  unfold sh_graph_Graph_Out; exact is_nil hk
theorem In_nil {v : Int} {K : SV → World → Prop} (hk : K ⟨none, 0, 0⟩ w) : sh_graph_Graph_In none v K w := by
  unfold sh_graph_Graph_In; exact is_nil hk

theorem Kept_ok {CV : CVT} (hcv : GraphCV CV) {K : SV → World → Prop} (h : GraphA w p N arcs F) (hk : ∀ s w', Ext w w' → Own RI w' s (ints (keptL arcs)) → Fsh w s → K s w') : sh_graph_Graph_Kept CV p K w := by
  obtain ⟨ok, gb, sA, f1, e1, f2, e2, sc, n, c, rfl, rfl, hM, rfl⟩ := h
  have hlen := ok.len
  refine keptB_ok hcv hM.hd rfl hM.cn (by omega) fun s w' e hO hF => hk s w' e ?_ hF
  rw [hM.kept] at hO; exact hO

/-- One number more. -/
def stirF (h x : Int) : Int := bxor .u64 (IntKind.u64.wrap (bxor .u64 h (IntKind.u64.wrap x) * 1099511628211)) (bshr .u64 (IntKind.u64.wrap (bxor .u64 h (IntKind.u64.wrap x) * 1099511628211)) 32)
def stirA (h : Int) (a : Arc) : Int := stirF (stirF (stirF h a.1) a.2.1) a.2.2
def printF (N : Int) (arcs : List Arc) : Int := arcs.foldl stirA (stirF 14695981039346656037 N)
/-- What is told of two places. -/
def bestF (N : Int) (arcs : List Arc) (u v : Int) : Option Arc := (outE N arcs u).find? (fun e => e.1 == v)

theorem outE_pw (N : Int) (arcs : List Arc) (u : Int) : (outE N arcs u).Pairwise fun a b => a.1 < b.1 := by
  unfold outE
  split
  · unfold edgeL
    rw [List.pairwise_map]
    have h := outK_pw (n := N.toNat) (fr := frA arcs) (to := toA arcs) (v := u.toNat) (keptL_sorted arcs)
    refine (List.Pairwise.and_mem.1 h).imp fun {a b} ⟨ha, hb, hab⟩ => ?_
    rw [mem_outK] at ha hb
    have ka := mem_keptL.1 ha.1
    have kb := mem_keptL.1 hb.1
    simp only
    rcases hab with hab | ⟨hab, hlt⟩
    · omega
    · exfalso
      have hs : Same arcs a b := ⟨ha.2.2.trans hb.2.2.symm, hab⟩
      have := Less.total (kb.2.2 a ka.1 hs) (ka.2.2 b kb.1 hs.symm)
      omega
  · exact List.Pairwise.nil

theorem find_none {xs : List Arc} {v : Int} (h : ∀ i (hi : i < xs.length), xs[i].1 ≠ v) : xs.find? (fun e => e.1 == v) = none := by
  rw [List.find?_eq_none]
  intro x hx
  obtain ⟨i, hi, rfl⟩ := List.getElem_of_mem hx
  simpa using h i hi
theorem find_at {xs : List Arc} {v : Int} {i : Nat} (hi : i < xs.length) (h : xs[i].1 = v) (hb : ∀ j (hj : j < i), (xs[j]'(by omega)).1 ≠ v) : xs.find? (fun e => e.1 == v) = some xs[i] := by
  rw [List.find?_eq_some_iff_getElem]
  refine ⟨by simpa using h, i, hi, rfl, fun j hj => ?_⟩
  simpa using hb j hj

end
end Go.Sh
