/- The graph's methods. -/
import Derived.Test.YthpbelgmppaafaaGraphNew
set_option maxRecDepth 100000
namespace Go.Sh
open Go.RowKit

/-- The edges out of a place, and into it. -/
def outE (N : Int) (arcs : List Arc) (v : Int) : List Arc := if 0 ≤ v ∧ v < N then edgeL arcs (toA arcs) (outK N.toNat (keptL arcs) (frA arcs) (toA arcs) v.toNat) else []
def inE (N : Int) (arcs : List Arc) (v : Int) : List Arc := if 0 ≤ v ∧ v < N then edgeL arcs (frA arcs) (outK N.toNat (keptL arcs) (toA arcs) (frA arcs) v.toNat) else []

theorem edgeL_part (arcs : List Arc) (to : Nat → Nat) (S : List Nat) (a b : Nat) : ((edgeL arcs to S).drop a).take b = edgeL arcs to ((S.drop a).take b) := by
  unfold edgeL; rw [← List.map_drop, ← List.map_take]

section
variable {w w' : World} {p : Option Addr} {N : Int} {arcs : List Arc} {F : Nat → Prop}

theorem GraphA.some (h : GraphA w p N arcs F) : p.isNone = false := by
  obtain ⟨_, gb, _, _, _, _, _, _, _, _, rfl, _⟩ := h; rfl

theorem N_ok {K : Int → World → Prop} (h : GraphA w p N arcs F) (hk : K N w) : sh_graph_Graph_N p K w := by
  obtain ⟨ok, gb, sA, f1, e1, f2, e2, sc, n, c, rfl, rfl, hM, rfl⟩ := h
  unfold sh_graph_Graph_N
  simp only [Option.isNone_some, cond_false]
  exact ⟨_, rfl, _, by rw [addm, addm, cell_blk hM.hd]; rfl, hk⟩
theorem N_nil {K : Int → World → Prop} (hk : K 0 w) : sh_graph_Graph_N none K w := hk
theorem is_ok {v : Int} {K : Bool → World → Prop} (h : GraphA w p N arcs F) (hk : K (decide (0 ≤ v ∧ v < N)) w) : sh_graph_Graph_is p v K w := by
  unfold sh_graph_Graph_is
  rw [Bool.cond_decide]
  split
  · rename_i h0
    refine N_ok h ?_
    have : decide (0 ≤ v ∧ v < N) = decide (v < N) := decide_eq_decide.2 ⟨fun h => h.2, fun h => ⟨h0, h⟩⟩
    rw [this] at hk; exact hk
  · rename_i h0
    rw [decide_eq_false (fun h => h0 h.1)] at hk; exact hk
theorem is_nil {v : Int} {K : Bool → World → Prop} (hk : K false w) : sh_graph_Graph_is none v K w := by
  unfold sh_graph_Graph_is
  rw [Bool.cond_decide]
  split
  · refine N_nil ?_
    rw [decide_eq_false (by omega)]; exact hk
  · exact hk

theorem all_ok {gb off : Nat} {cs : List Value} {f1 e1 : SV} {n : Nat} {S : List Nat} {arcs : List Arc} {fr to : Nat → Nat} {v : Nat} {K : SV → World → Prop} (hB : Blk w gb cs) (h0 : cs[off]? = some (.slice f1.a f1.len f1.cap)) (h1 : cs[off + 1]? = some (.slice e1.a e1.len e1.cap))
    (hf : Own RI w f1 (fl (n + 1) (pre S fr))) (he : Own RD w e1 (edgeL arcs to S)) (hv : v < n) (hn : n < 2 ^ 30) (hS : S.length < 2 ^ 30) (hfr : ∀ k ∈ S, fr k < n)
    (hk : ∀ s w', Ext w w' → Own RD w' s (edgeL arcs to ((S.drop (pre S fr v)).take (pre S fr (v + 1) - pre S fr v))) → Fsh w s → K s w') : sh_graph_side_all (some ⟨gb, off, none⟩) (v : Int) K w := by
  unfold sh_graph_side_all
  have hpl := pre_le hfr (show v + 1 ≤ n by omega)
  have hps := pre_succ S fr v
  refine ⟨_, rfl, e1, by rw [addm, cell_blk hB]; exact h1, _, rfl, f1, by rw [addm, cell_blk hB]; exact h0, ?_⟩
  refine fl_rd hf.view (by omega) fun a ha => ⟨_, ha, ?_⟩
  refine ⟨_, rfl, f1, by rw [addm, cell_blk hB]; exact h0, ?_⟩
  rw [wsucc (m := 2 ^ 40) (by omega) (by omega)]
  refine fl_rd hf.view (by omega) fun a ha => ⟨_, ha, ?_⟩
  refine Own.slice (R := RD) he (by omega) (by rw [edgeL_len]; exact hpl) fun t ht _ => ?_
  intro w12 e12
  rw [edgeL_part] at ht
  have hl : (edgeL arcs to ((S.drop (pre S fr v)).take (pre S fr (v + 1) - pre S fr v))).length ≤ S.length := by rw [edgeL_len]; simp; omega
  refine Own.app (R := RD) Own.nil (ht.ext e12) (by simp only [List.length_nil]; omega) (by simp only [List.length_nil]; omega) fun s13 w14 c14 hs hO => ?_
  rw [List.nil_append] at hO
  intro w15 e15
  have e14 : Ext w12 w14 := c14.ext fun k _ ⟨q, hq, _⟩ => by cases hq
  refine hk s13 w15 ((e12.trans e14).trans e15) (hO.ext e15) fun k hk => ?_
  have := e12.size
  rcases hs k hk with ⟨q, hq, _⟩ | h'
  · cases hq
  · omega

theorem kept_lt {arcs : List Arc} {k : Nat} (h : k ∈ keptL arcs) : k < arcs.length := (mem_keptL.1 h).1

theorem Out_ok {v : Int} {K : SV → World → Prop} (h : GraphA w p N arcs F) (hk : ∀ s w', Ext w w' → Own RD w' s (outE N arcs v) → Fsh w s → K s w') : sh_graph_Graph_Out p v K w := by
  unfold sh_graph_Graph_Out
  refine is_ok h ?_
  by_cases hv : 0 ≤ v ∧ v < N
  · rw [decide_eq_true hv]
    simp only [Bool.not_true, cond_false]
    obtain ⟨ok, gb, sA, f1, e1, f2, e2, sc, n, c, rfl, rfl, hM, rfl⟩ := h
    obtain ⟨u, rfl⟩ := Int.eq_ofNat_of_zero_le hv.1
    refine ⟨_, rfl, ?_⟩
    simp only [addm]
    have hb : ∀ k ∈ keptL arcs, frA arcs k < n ∧ toA arcs k < n := fun k hk => ⟨(ok.fr (kept_lt hk)).2, (ok.to (kept_lt hk)).2⟩
    have hp := byBoth_perm hb
    have hl := keptL_len arcs
    have hlen := ok.len; have hn1 := ok.n1
    refine all_ok (off := 0 + 2) hM.hd rfl rfl hM.f1 hM.e1 (by omega) (by omega) (by rw [hp.length_eq]; omega) (fun k hk => (hb k (hp.mem_iff.1 hk)).1) fun s w' e hO hF => hk s w' e ?_ hF
    rw [byBoth_part hb (by omega)] at hO
    unfold outE
    rw [if_pos hv]
    exact hO
  · rw [decide_eq_false hv]
    simp only [Bool.not_false, cond_true]
    refine hk _ w (.refl _) ?_ fsh_nil
    unfold outE; rw [if_neg hv]; exact Own.nil
theorem In_ok {v : Int} {K : SV → World → Prop} (h : GraphA w p N arcs F) (hk : ∀ s w', Ext w w' → Own RD w' s (inE N arcs v) → Fsh w s → K s w') : sh_graph_Graph_In p v K w := by
  unfold sh_graph_Graph_In
  refine is_ok h ?_
  by_cases hv : 0 ≤ v ∧ v < N
  · rw [decide_eq_true hv]
    simp only [Bool.not_true, cond_false]
    obtain ⟨ok, gb, sA, f1, e1, f2, e2, sc, n, c, rfl, rfl, hM, rfl⟩ := h
    obtain ⟨u, rfl⟩ := Int.eq_ofNat_of_zero_le hv.1
    refine ⟨_, rfl, ?_⟩
    simp only [addm]
    have hb : ∀ k ∈ keptL arcs, toA arcs k < n ∧ frA arcs k < n := fun k hk => ⟨(ok.to (kept_lt hk)).2, (ok.fr (kept_lt hk)).2⟩
    have hp := byBoth_perm hb
    have hl := keptL_len arcs
    have hlen := ok.len; have hn1 := ok.n1
    refine all_ok (off := 0 + 4) hM.hd rfl rfl hM.f2 hM.e2 (by omega) (by omega) (by rw [hp.length_eq]; omega) (fun k hk => (hb k (hp.mem_iff.1 hk)).1) fun s w' e hO hF => hk s w' e ?_ hF
    rw [byBoth_part hb (by omega)] at hO
    unfold inE
    rw [if_pos hv]
    exact hO
  · rw [decide_eq_false hv]
    simp only [Bool.not_false, cond_true]
    refine hk _ w (.refl _) ?_ fsh_nil
    unfold inE; rw [if_neg hv]; exact Own.nil
theorem Out_nil {v : Int} {K : SV → World → Prop} (hk : K ⟨none, 0, 0⟩ w) : sh_graph_Graph_Out none v K w := by
  unfold sh_graph_Graph_Out; exact is_nil hk
theorem In_nil {v : Int} {K : SV → World → Prop} (hk : K ⟨none, 0, 0⟩ w) : sh_graph_Graph_In none v K w := by
  unfold sh_graph_Graph_In; exact is_nil hk

theorem Kept_ok {CV : CVT} (hcv : GraphCV CV) {K : SV → World → Prop} (h : GraphA w p N arcs F) (hk : ∀ s w', Ext w w' → Own RI w' s (ints (keptL arcs)) → Fsh w s → K s w') : sh_graph_Graph_Kept CV p K w := by
  obtain ⟨ok, gb, sA, f1, e1, f2, e2, sc, n, c, rfl, rfl, hM, rfl⟩ := h
  have hlen := ok.len
  refine keptB_ok hcv hM.hd rfl hM.cn (by omega) fun s w' e hO hF => hk s w' e ?_ hF
  rw [hM.kept] at hO; exact hO

theorem Arc_ok {k : Int} {K : Int → Int → Int → Bool → World → Prop} (h : GraphA w p N arcs F)
    (h1 : ∀ i : Nat, k = (i : Int) → i < arcs.length → ∀ w', Ext w w' → K (arcA arcs i).1 (arcA arcs i).2.1 (arcA arcs i).2.2 true w') (h2 : ¬ (0 ≤ k ∧ k < (arcs.length : Int)) → ∀ w', Ext w w' → K 0 0 0 false w') : sh_graph_Graph_Arc p k K w := by
  obtain ⟨ok, gb, sA, f1, e1, f2, e2, sc, n, c, rfl, rfl, hM, rfl⟩ := h
  unfold sh_graph_Graph_Arc
  intro b1 w2 e2 hb hb'
  simp only [Option.isNone_some, cond_false]
  rw [Bool.cond_decide]
  split
  · rename_i hc; intro w4 o4; exact h2 (by omega) w4 (ext_off e2 o4 hb)
  · rename_i hc
    have hB := e2.blkE hM.hd
    have hA := hM.a.ext e2
    have hl := hA.view.len
    refine ⟨_, rfl, sA, by rw [addm, addm, cell_blk hB]; rfl, ?_⟩
    rw [Bool.cond_decide]
    split
    · rename_i hc2; intro w4 o4; exact h2 (by omega) w4 (ext_off e2 o4 hb)
    · rename_i hc2
      refine ⟨_, rfl, sA, by rw [addm, addm, cell_blk hB]; rfl, ?_⟩
      obtain ⟨i, rfl⟩ := Int.eq_ofNat_of_zero_le (show 0 ≤ k by omega)
      refine do_idx hA.view (by omega) fun a a0 a1 a2 => ⟨_, a0, _, a1, _, a2, ?_⟩
      intro w14 o14
      rw [arcA_get (by omega)]
      exact h1 i rfl (by omega) w14 (ext_off e2 o14 hb)

/-- One number more. -/
def stirF (h x : Int) : Int := bxor .u64 (IntKind.u64.wrap (bxor .u64 h (IntKind.u64.wrap x) * 1099511628211)) (bshr .u64 (IntKind.u64.wrap (bxor .u64 h (IntKind.u64.wrap x) * 1099511628211)) 32)
def stirA (h : Int) (a : Arc) : Int := stirF (stirF (stirF h a.1) a.2.1) a.2.2
def printF (N : Int) (arcs : List Arc) : Int := arcs.foldl stirA (stirF 14695981039346656037 N)
theorem stir_ok {b : Nat} {h x : Int} {K : World → Prop} (hB : Blk w b [.int .u64 h]) (hk : ∀ w', Off b w w' → Blk w' b [.int .u64 (stirF h x)] → K w') : sh_graph_Graph_Print_c1 x ⟨b, 0, none⟩ K w := by
  unfold sh_graph_Graph_Print_c1
  refine ⟨h, by rw [cell_blk hB]; rfl, ?_⟩
  refine stL_blk (b := b) (o := 0) [_] 0 w _ _ hB (by simp) fun w2 o2 hB2 => ?_
  simp only [setL, List.set] at hB2
  refine ⟨_, by rw [cell_blk hB2]; rfl, _, by rw [cell_blk hB2]; rfl, by omega, ?_⟩
  refine stL_blk (b := b) (o := 0) [_] 0 w2 _ _ hB2 (by simp) fun w5 o5 hB5 => ?_
  simp only [setL, List.set] at hB5
  exact hk w5 ⟨o5.os.trans o2.os, o5.tape.trans o2.tape, o5.output.trans o2.output, o5.size.trans o2.size, fun k hk => (o5.block k hk).trans (o2.block k hk)⟩ hB5

theorem Print_ok {K : Int → World → Prop} (h : GraphA w p N arcs F) (hk : ∀ w', Ext w w' → K (printF N arcs) w') : sh_graph_Graph_Print p K w := by
  obtain ⟨ok, gb, sA, f1, e1, f2, e2, sc, n, c, rfl, rfl, hM, rfl⟩ := h
  unfold sh_graph_Graph_Print
  simp only [Option.isNone_some, cond_false]
  intro b1 w2 e2 h1 h1' w3 o3 hB1
  have z2 := e2.size; have z3 := o3.size
  have e3 : Ext w w3 := ext_off e2 o3 h1
  refine ⟨_, rfl, _, by rw [addm, addm, cell_blk (e3.blkE hM.hd)]; rfl, ?_⟩
  refine stir_ok hB1 fun w6 o6 hB6 => ?_
  have z6 := o6.size
  have e6 : Ext w w6 := ext_off e3 o6 h1
  refine ⟨_, rfl, sA, by rw [addm, addm, cell_blk (e6.blkE hM.hd)]; rfl, ?_⟩
  have hl := hM.a.view.len
  have hlen := ok.len
  refine LoopT.gh (γ := Nat) (fun i (st : Int × Unit) w' => st.1 = i ∧ i ≤ arcs.length ∧ Ext w w' ∧ b1 < w'.heap.size ∧ Blk w' b1 [.int .u64 ((arcs.take i).foldl stirA (stirF 14695981039346656037 (n : Int)))]) (fun i => arcs.length - i) 0
    ⟨rfl, Nat.zero_le _, e6, by omega, hB6⟩ ?_
  rintro i ⟨x, _⟩ w11 ⟨hx, hi, e11, z11, hB11⟩ J1 hJ1
  simp only at hx; subst hx
  rw [Bool.cond_decide]
  by_cases hc : (i : Int) < (sA.len : Int)
  · rw [if_pos hc]
    have hi' : i < arcs.length := by omega
    refine do_idx (hM.a.ext e11).view hi' fun a a0 a1 a2 => ⟨_, a0, _, a1, _, a2, ?_⟩
    intro b16 w17 e17 h16 h16' w18 o18
    have z17 := e17.size; have z18 := o18.size
    have hne : b1 ≠ b16 := by omega
    have hB18 := (e17.blkE hB11).off o18 hne
    have e18 : Ext w w18 := ext_off (e11.trans e17) o18 (by have := e11.size; omega)
    refine stir_ok hB18 fun w19 o19 hB19 => ⟨fun c hc => by simp only [List.mem_cons, List.not_mem_nil, or_false] at hc; subst hc; exact o19.block _ hne.symm, ?_⟩
    refine stir_ok hB19 fun w20 o20 hB20 => ⟨fun c hc => by simp only [List.mem_cons, List.not_mem_nil, or_false] at hc; subst hc; exact o20.block _ hne.symm, ?_⟩
    refine stir_ok hB20 fun w21 o21 hB21 => ⟨fun c hc => by simp only [List.mem_cons, List.not_mem_nil, or_false] at hc; subst hc; exact o21.block _ hne.symm, ?_⟩
    have z19 := o19.size; have z20 := o20.size; have z21 := o21.size
    refine hJ1 (i + 1) _ _ ⟨wsucc (m := 2 ^ 40) (by omega) (by omega), by omega, ext_off (ext_off (ext_off e18 o19 h1) o20 h1) o21 h1, by omega, ?_⟩ (by omega)
    rw [take_snoc hi', List.foldl_append]
    exact hB21
  · rw [if_neg hc]
    have : i = arcs.length := by omega
    subst this
    rw [List.take_length] at hB11
    exact ⟨_, by rw [cell_blk hB11]; rfl, hk w11 e11⟩

/-- What is told of two places. -/
def bestF (N : Int) (arcs : List Arc) (u v : Int) : Option Arc := (outE N arcs u).find? (fun e => e.1 == v)

theorem outE_pw (N : Int) (arcs : List Arc) (u : Int) : (outE N arcs u).Pairwise fun a b => a.1 < b.1 := by
  unfold outE
  split
  · unfold edgeL
    rw [List.pairwise_map]
    have h := outK_pw (n := N.toNat) (fr := frA arcs) (to := toA arcs) (v := u.toNat) (keptL_sorted arcs)
    refine (List.Pairwise.and_mem.1 h).imp fun {a b} ⟨ha, hb, hab⟩ => ?_
    rw [mem_outK] at ha hb
    have ka := mem_keptL.1 ha.1
    have kb := mem_keptL.1 hb.1
    simp only
    rcases hab with hab | ⟨hab, hlt⟩
    · omega
    · exfalso
      have hs : Same arcs a b := ⟨ha.2.2.trans hb.2.2.symm, hab⟩
      have := Less.total (kb.2.2 a ka.1 hs) (ka.2.2 b kb.1 hs.symm)
      omega
  · exact List.Pairwise.nil

theorem find_none {xs : List Arc} {v : Int} (h : ∀ i (hi : i < xs.length), xs[i].1 ≠ v) : xs.find? (fun e => e.1 == v) = none := by
  rw [List.find?_eq_none]
  intro x hx
  obtain ⟨i, hi, rfl⟩ := List.getElem_of_mem hx
  simpa using h i hi
theorem find_at {xs : List Arc} {v : Int} {i : Nat} (hi : i < xs.length) (h : xs[i].1 = v) (hb : ∀ j (hj : j < i), (xs[j]'(by omega)).1 ≠ v) : xs.find? (fun e => e.1 == v) = some xs[i] := by
  rw [List.find?_eq_some_iff_getElem]
  refine ⟨by simpa using h, i, hi, rfl, fun j hj => ?_⟩
  simpa using hb j hj

theorem Best_ok {CV : CVT} (hcv : GraphCV CV) {u v : Int} {K : Int → Int → Int → Bool → World → Prop} (h : GraphA w p N arcs F)
    (h1 : ∀ e, bestF N arcs u v = some e → ∀ w', Ext w w' → K e.1 e.2.1 e.2.2 true w') (h2 : bestF N arcs u v = none → ∀ w', Ext w w' → K 0 0 0 false w') : sh_graph_Graph_Best CV p u v K w := by
  unfold sh_graph_Graph_Best
  intro b1 w2 e2 g1 g1' b3 w4 e4 g3 g3' b5 w6 e6 g5 g5'
  have z2 := e2.size; have z4 := e4.size; have z6 := e6.size
  refine Out_ok (h.ext ((e2.trans e4).trans e6)) fun s7 w8 e8 hO fO => ⟨kp_ext e8 (by (intro b hb; simp only [List.mem_cons, List.not_mem_nil, or_false] at hb; omega)), ?_⟩
  intro b9 w10 e10 g9 g9' w11 o11 hB1 b12 w13 e13 g12 g12' b14 w15 e15 g14 g14' hB12 hB14
  have z8 := e8.size; have z10 := e10.size; have z11 := o11.size; have z13 := e13.size; have z15 := e15.size
  refine ⟨kp_ext (e13.trans e15) (by (intro b hb; simp only [List.mem_cons, List.not_mem_nil, or_false] at hb; omega)), fun hB3 hB5 hB9 D l w18 e18 gD gDl gl => ?_⟩
  have z18 := e18.size
  have e08 := ((e2.trans e4).trans e6).trans e8
  have e11 : Ext w w11 := ext_off (e08.trans e10) o11 (by omega)
  have e1118 := (e13.trans e15).trans e18
  have e18' := e11.trans e1118
  have n9 : ¬ s7.blk b9 := fun hk => by have := hO.lt hk; omega
  have hO18 := ((hO.ext e10).off o11 n9).ext e1118
  have hB1' := e1118.blkE hB1
  have hB3' := e18.blkE hB3
  have hB5' := e18.blkE hB5
  have hB9' := e18.blkE hB9
  have hlen7 : (outE N arcs u).length < 2 ^ 40 := by
    have hl := h.ok.len
    unfold outE
    split
    · rw [edgeL_len]
      have h1 := List.length_filter_le (frA arcs · == u.toNat) (sortedL N.toNat (keptL arcs) (toA arcs))
      have h2 := sortedL_len (n := N.toNat) (l := keptL arcs) (e := toA arcs) fun k hk => (h.ok.to (kept_lt hk)).2
      have h3 := keptL_len arcs
      unfold outK; omega
    · simp
  have hpw := outE_pw N arcs u
  have gt_of : ∀ {i j : Nat} (hi : i < (outE N arcs u).length) (hj : j < (outE N arcs u).length), i < j → (outE N arcs u)[i].1 < (outE N arcs u)[j].1 := fun hi hj hij => List.pairwise_iff_getElem.1 hpw _ _ hi hj hij
  have sl : (s7.len) = (outE N arcs u).length := hO.view.len
  unfold bestF at h1 h2
  generalize hxs : outE N arcs u = xs at *
  -- the end, as nothing was found
  have miss : xs.find? (fun e => e.1 == v) = none → ∀ w52, Ext w w52 → Blk w52 b3 [.int .i64 (0 : Int), .int .i64 (0 : Int), .int .i64 (0 : Int)] → Blk w52 b5 [.bool false] → stL w52 (⟨b3, 0, none⟩ : Addr) [.int .i64 (0 : Int), .int .i64 (0 : Int), .int .i64 (0 : Int)] 0 (fun w1053 =>
      Keeps [D] w52 w1053 ∧ stL w1053 (⟨b5, 0, none⟩ : Addr) [.bool false] 0 (fun w1054 => Keeps [D] w1053 w1054 ∧ ∀ w1055, Off D w1054 w1055 →
        ∃ x1056 : Int, w1055.cell? ((⟨b3, 0, none⟩ : Addr).add 0) = some (.int .i64 x1056) ∧ ∃ x1057 : Int, w1055.cell? ((⟨b3, 0, none⟩ : Addr).add 1) = some (.int .i64 x1057) ∧
          ∃ x1058 : Int, w1055.cell? ((⟨b3, 0, none⟩ : Addr).add 2) = some (.int .i64 x1058) ∧ ∃ x1059 : Bool, w1055.cell? (⟨b5, 0, none⟩ : Addr) = some (.bool x1059) ∧ K x1056 x1057 x1058 x1059 w1055)) := by
    intro hnone w52 e52 c3 c5
    refine stL_blk (b := b3) (o := 0) [_, _, _] 0 w52 _ _ c3 (by simp) fun w53 o53 c3' => ?_
    refine ⟨fun c hc => by simp only [List.mem_cons, List.not_mem_nil, or_false] at hc; subst hc; exact o53.block _ (by omega), ?_⟩
    refine stL_blk (b := b5) (o := 0) [_] 0 w53 _ _ (c5.off o53 (by omega)) (by simp) fun w54 o54 c5' => ?_
    refine ⟨fun c hc => by simp only [List.mem_cons, List.not_mem_nil, or_false] at hc; subst hc; exact o54.block _ (by omega), fun w55 o55 => ?_⟩
    simp only [setL, List.set, Nat.zero_add] at c3' c5'
    have d3 := (c3'.off o54 (by omega)).off o55 (by omega)
    have d5 := c5'.off o55 (by omega)
    refine ⟨_, by rw [addm, cell_blk d3]; rfl, _, by rw [addm, cell_blk d3]; rfl, _, by rw [addm, cell_blk d3]; rfl, _, by rw [cell_blk d5]; rfl, ?_⟩
    exact h2 hnone w55 (ext_off (ext_off (ext_off e52 o53 (by omega)) o54 (by omega)) o55 (by omega))
  refine numEdge_ok (s := s7) (xs := xs) (fv := .func (.func fn_graph_Graph_Best_c1) #[] #[.pointer (some ⟨b1, 0, none⟩)]) (fun i w' => Ext w18 w' ∧ ∀ j (hj : j < xs.length), j < i → xs[j].1 < v) (fun i => decide ((xs.getD i (0, 0, 0)).1 ≥ v)) hlen7
    ⟨.refl _, fun j _ hj => by omega⟩ (by rw [cell_blk (e18.blkE hB12)]; rfl) (fun i w' hI => ⟨(hO18.ext hI.1).view, by rw [cell_blk (hI.1.blkE (e18.blkE hB14))]; rfl⟩) (fun i w' w'' hI e => ⟨hI.1.trans e, hI.2⟩) (fun i hi w' K' hI hK' => ?_) (fun i hi hp w0 w' K' hI e hK' => ?_) (fun i hi hp w' hI => ?_) (fun w37 hI => ?_)
  · refine hcv.best _ _ _ _ _ _ _ ?_
    unfold sh_graph_Graph_Best_c1
    intro b w'' e'' _ _
    refine ⟨v, by rw [cell_blk (e''.blkE (hI.1.blkE hB1'))]; rfl, ?_⟩
    have := hK' w'' e''
    rw [List.getD_eq_getElem?_getD, List.getElem?_eq_getElem hi] at this
    exact this
  · rw [List.getD_eq_getElem?_getD, List.getElem?_eq_getElem hi] at hp
    simp only [Option.getD_some, ge_iff_le, decide_eq_true_eq] at hp
    have ew : Ext w18 w' := hI.1.trans e
    have z0 := hI.1.size; have z' := e.size
    refine ⟨ew.blk (by omega), fun w22 o22 => ?_⟩
    have z22 := o22.size
    have nl : ¬ s7.blk l := fun hk => by have := hO.lt hk; omega
    have hO22 := (hO18.ext ew).off o22 nl
    have d9 := (ew.blkE hB9').off o22 (by omega)
    have d1 := (ew.blkE hB1').off o22 (by omega)
    refine ⟨s7, by rw [cell_blk d9]; rfl, ?_⟩
    refine do_idx hO22.view hi fun a a0 _ _ => ⟨_, a0, v, by rw [cell_blk d1]; rfl, ?_⟩
    intro w27 e27
    have z27 := e27.size
    have bef : ∀ j (hj : j < i), (xs[j]'(by omega)).1 ≠ v := fun j hj => by have := hI.2 j (by omega) hj; omega
    by_cases hv : xs[i].1 = v
    · rw [show (xs[i].1 == v) = true by simpa using hv, cond_true]
      refine ⟨s7, by rw [cell_blk (e27.blkE d9)]; rfl, ?_⟩
      refine do_idx (hO22.ext e27).view hi fun a a0 a1 a2 => ⟨_, a0, _, a1, _, a2, ?_⟩
      have c3 := e27.blkE ((ew.blkE hB3').off o22 (by omega))
      have c5 := e27.blkE ((ew.blkE hB5').off o22 (by omega))
      refine stL_blk (b := b3) (o := 0) [_, _, _] 0 w27 _ _ c3 (by simp) fun w33 o33 c3' => ?_
      refine ⟨fun c hc => by simp only [List.mem_cons, List.not_mem_nil, or_false] at hc; subst hc; exact o33.block _ (by omega), ?_⟩
      refine stL_blk (b := b5) (o := 0) [_] 0 w33 _ _ (c5.off o33 (by omega)) (by simp) fun w34 o34 c5' => ?_
      refine ⟨fun c hc => by simp only [List.mem_cons, List.not_mem_nil, or_false] at hc; subst hc; exact o34.block _ (by omega), fun w35 o35 hpend => ?_⟩
      simp only [setL, List.set, Nat.zero_add] at c3' c5'
      have z33 := o33.size; have z34 := o34.size; have z35 := o35.size
      have e27' := e18'.trans ew
      have e35 : Ext w w35 := ext_off (ext_off (ext_off ((ext_off e27' o22 (by omega)).trans e27) o33 (by omega)) o34 (by omega)) o35 (by omega)
      have same : ∀ c, c ≠ l → c ≠ b3 → c ≠ b5 → c < w'.heap.size → w35.heap[c]? = w'.heap[c]? := fun c h1 h2 h3 h4 => by
        rw [o35.block c h1, o34.block c h3, o33.block c h2, e27.blk (by omega), o22.block c h1]
      refine hK' false w35 (fun h => by cases h) (fun _ => ⟨fun c hc => ?_, .inr (.inl ⟨hpend, fun w38 o38 w39 o39 => ?_⟩)⟩) fun c hc1 hc2 => same c (by omega) (by omega) (by omega) hc2
      · simp only [List.mem_cons, List.not_mem_nil, or_false] at hc; subst hc
        rw [same _ (by omega) (by omega) (by omega) (by omega)]; exact ew.blk (by omega)
      · have q3 := (((c3'.off o34 (by omega)).off o35 (by omega)).off o38 (by omega)).off o39 (by omega)
        have q5 := ((c5'.off o35 (by omega)).off o38 (by omega)).off o39 (by omega)
        refine ⟨_, by rw [addm, cell_blk q3]; rfl, _, by rw [addm, cell_blk q3]; rfl, _, by rw [addm, cell_blk q3]; rfl, _, by rw [cell_blk q5]; rfl, ?_⟩
        exact h1 _ (find_at hi hv bef) w39 (ext_off (ext_off e35 o38 (by omega)) o39 (by omega))
    · rw [show (xs[i].1 == v) = false by simpa using hv, cond_false]
      intro w36 o36 hpend
      have z36 := o36.size
      have hnone : xs.find? (fun e => e.1 == v) = none := find_none fun j hj => by
        rcases Nat.lt_trichotomy j i with h' | h' | h'
        · exact bef j h'
        · subst h'; exact hv
        · have := gt_of hi hj h'; omega
      have same : ∀ c, c ≠ l → c < w'.heap.size → w36.heap[c]? = w'.heap[c]? := fun c h1 h4 => by
        rw [o36.block c h1, e27.blk (by omega), o22.block c h1]
      refine hK' false w36 (fun h => by cases h) (fun _ => ⟨fun c hc => ?_, .inr (.inr ⟨hpend, fun w44 o44 => ?_⟩)⟩) fun c hc1 hc2 => same c (by omega) hc2
      · simp only [List.mem_cons, List.not_mem_nil, or_false] at hc; subst hc
        rw [same _ (by omega) (by omega)]; exact ew.blk (by omega)
      · have c3 := ((e27.blkE ((ew.blkE hB3').off o22 (by omega))).off o36 (by omega)).off o44 (by omega)
        have c5 := ((e27.blkE ((ew.blkE hB5').off o22 (by omega))).off o36 (by omega)).off o44 (by omega)
        exact miss hnone w44 (ext_off (ext_off ((ext_off (e18'.trans ew) o22 (by omega)).trans e27) o36 (by omega)) o44 (by omega)) c3 c5
  · rw [List.getD_eq_getElem?_getD, List.getElem?_eq_getElem hi] at hp
    simp only [Option.getD_some, ge_iff_le, decide_eq_false_iff_not] at hp
    refine ⟨hI.1, fun j hj hji => ?_⟩
    by_cases e : j = i
    · subst e; omega
    · exact hI.2 j hj (by omega)
  · have z37 := hI.1.size
    refine ⟨kp_ext hI.1 (by (intro b hb; simp only [List.mem_cons, List.not_mem_nil, or_false] at hb; omega)), .inl ⟨hI.1.blk (by omega), fun w52 o52 => ?_⟩⟩
    exact miss (find_none fun j hj => by have := hI.2 j hj hj; omega) w52 (ext_off (e18'.trans hI.1) o52 (by omega)) ((hI.1.blkE hB3').off o52 (by omega)) ((hI.1.blkE hB5').off o52 (by omega))
end
end Go.Sh
