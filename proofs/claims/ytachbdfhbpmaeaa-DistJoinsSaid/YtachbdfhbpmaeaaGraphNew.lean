/- A graph in memory; New and Kept. -/
import Derived.Test.YtachbdfhbpmaeaaGraphLay
set_option maxRecDepth 100000
namespace Go.Sh
open Go.RowKit

structure GraphM (w : World) (gb : Nat) (sA f1 e1 f2 e2 sc : SV) (n : Nat) (arcs : List Arc) (c : Nat → Bool) : Prop where
  hd : Blk w gb [.int .i64 (n : Int), .slice sA.a sA.len sA.cap, .slice f1.a f1.len f1.cap, .slice e1.a e1.len e1.cap, .slice f2.a f2.len f2.cap, .slice e2.a e2.len e2.cap, .slice sc.a sc.len sc.cap]
  a : Own RD w sA arcs
  f1 : Own RI w f1 (fl (n + 1) (pre (byBoth n (keptL arcs) (frA arcs) (toA arcs)) (frA arcs)))
  e1 : Own RD w e1 (edgeL arcs (toA arcs) (byBoth n (keptL arcs) (frA arcs) (toA arcs)))
  f2 : Own RI w f2 (fl (n + 1) (pre (byBoth n (keptL arcs) (toA arcs) (frA arcs)) (toA arcs)))
  e2 : Own RD w e2 (edgeL arcs (frA arcs) (byBoth n (keptL arcs) (toA arcs) (frA arcs)))
  cn : Own RB w sc (bl arcs.length c)
  kept : (List.range arcs.length).filter c = keptL arcs
def gF (gb : Nat) (sA f1 e1 f2 e2 sc : SV) (k : Nat) : Prop := k = gb ∨ sA.blk k ∨ f1.blk k ∨ e1.blk k ∨ f2.blk k ∨ e2.blk k ∨ sc.blk k
theorem GraphM.chg {w w' : World} {gb : Nat} {sA f1 e1 f2 e2 sc : SV} {n : Nat} {arcs : List Arc} {c : Nat → Bool} {G : Nat → Prop} (h : GraphM w gb sA f1 e1 f2 e2 sc n arcs c) (g : Chg G w w') (hd : ∀ k, gF gb sA f1 e1 f2 e2 sc k → ¬ G k) : GraphM w' gb sA f1 e1 f2 e2 sc n arcs c :=
  ⟨g.blk h.hd (hd _ (.inl rfl)), h.a.chg g fun k hk => hd k (.inr (.inl hk)), h.f1.chg g fun k hk => hd k (.inr (.inr (.inl hk))), h.e1.chg g fun k hk => hd k (.inr (.inr (.inr (.inl hk)))),
    h.f2.chg g fun k hk => hd k (.inr (.inr (.inr (.inr (.inl hk))))), h.e2.chg g fun k hk => hd k (.inr (.inr (.inr (.inr (.inr (.inl hk)))))), h.cn.chg g fun k hk => hd k (.inr (.inr (.inr (.inr (.inr (.inr hk)))))), h.kept⟩

/-- A graph of a map; F: its blocks. -/
def GraphA (w : World) (p : Option Addr) (N : Int) (arcs : List Arc) (F : Nat → Prop) : Prop :=
  OkMap N arcs ∧ ∃ gb sA f1 e1 f2 e2 sc, ∃ n c, p = some ⟨gb, 0, none⟩ ∧ N = ((n : Nat) : Int) ∧ GraphM w gb sA f1 e1 f2 e2 sc n arcs c ∧ F = gF gb sA f1 e1 f2 e2 sc
section
variable {w w' : World} {p : Option Addr} {N : Int} {arcs : List Arc} {F : Nat → Prop}
theorem GraphA.chg {G : Nat → Prop} (h : GraphA w p N arcs F) (g : Chg G w w') (hd : ∀ k, F k → ¬ G k) : GraphA w' p N arcs F := by
  obtain ⟨ok, gb, sA, f1, e1, f2, e2, sc, n, c, hp, hn, hM, rfl⟩ := h
  exact ⟨ok, gb, sA, f1, e1, f2, e2, sc, n, c, hp, hn, hM.chg g hd, rfl⟩
theorem GraphA.ext (h : GraphA w p N arcs F) (e : Ext w w') : GraphA w' p N arcs F := h.chg (G := fun _ => False) (.of_ext e) fun _ _ h => h
theorem GraphA.off {b : Nat} (h : GraphA w p N arcs F) (o : Off b w w') (hb : ¬ F b) : GraphA w' p N arcs F := h.chg (G := fun k => k = b) (.of_off o rfl) fun _ hk e => hb (e ▸ hk)
theorem GraphA.lt (h : GraphA w p N arcs F) {k : Nat} (hk : F k) : k < w.heap.size := by
  obtain ⟨ok, gb, sA, f1, e1, f2, e2, sc, n, c, hp, hn, hM, rfl⟩ := h
  rcases hk with rfl | hk | hk | hk | hk | hk | hk
  · exact blk_lt hM.hd
  · exact hM.a.lt hk
  · exact hM.f1.lt hk
  · exact hM.e1.lt hk
  · exact hM.f2.lt hk
  · exact hM.e2.lt hk
  · exact hM.cn.lt hk
theorem GraphA.ok (h : GraphA w p N arcs F) : OkMap N arcs := h.1
end

/-- Kept, of a block that holds the counts. -/
theorem keptB_ok {CV : CVT} (hcv : GraphCV CV) {w : World} {gb n : Nat} {sc : SV} {cs : List Value} {c : Nat → Bool} {K : SV → World → Prop} (hB : Blk w gb cs) (h6 : cs[6]? = some (.slice sc.a sc.len sc.cap)) (hc : Own RB w sc (bl n c)) (hn : n < 2 ^ 30)
    (hk : ∀ s w', Ext w w' → Own RI w' s (ints ((List.range n).filter c)) → Fsh w s → K s w') : sh_graph_Graph_Kept CV (some ⟨gb, 0, none⟩) K w := by
  unfold sh_graph_Graph_Kept
  intro b1 w2 e2 h1 h1'
  simp only [Option.isNone_some, cond_false]
  refine ⟨_, rfl, sc, by rw [addm, cell_blk (e2.blkE hB)]; simpa using h6, ?_⟩
  intro b3 w4 e4 h3 h3' b5 w6 e6 h5 h5' hB3 hB5
  have z2 := e2.size; have z4 := e4.size; have z6 := e6.size
  have e26 := e4.trans e6
  refine ⟨kp_ext e26 (by (intro b hb; simp only [List.mem_cons, List.not_mem_nil, or_false] at hb; omega)), fun hB1 D l w11 e11 hD hDl hl => ?_⟩
  have z11 := e11.size
  have hc11 : Own RB w11 sc (bl n c) := ((hc.ext e2).ext e26).ext e11
  have nsc : ¬ sc.blk b1 := fun hk => by have := hc.lt hk; omega
  refine numBool_ok (s := sc) (xs := bl n c) (fv := .func (.func fn_graph_Graph_Kept_c1) #[] #[]) (fun i w' => Coll w11 b1 ((List.range i).filter c) w') c (by rw [bl_len]; omega)
    (.start (e11.blkE hB1)) (by rw [cell_blk (e11.blkE hB3)]; rfl) (fun i w' hI => ⟨(hc11.chg hI.1 fun k hk e => nsc (e ▸ hk)).view, ?_⟩) (fun i w' w'' hI e => hI.ext e) (fun i hi w' K' hI hK' => ?_) (fun i hi hp w0 w' K' hI e hK' => ?_) (fun i hi hp w' hI => ?_) (fun w' hI => ?_)
  · rw [cell_blk (hI.1.blk (e11.blkE hB5) (by omega))]; rfl
  · refine hcv.kept _ _ _ _ ?_
    rw [bl_get]
    exact hK' w' (.refl _)
  · have := @coll_body w11 w0 w' b1 l ((List.range i).filter c) i K' hI e (by omega) (by omega) (by omega) (by have := List.length_filter_le c (List.range i); rw [bl_len] at hi; simp at this; omega) fun w'' hI' hb => hK' true w'' (fun _ => by
      rw [List.range_succ, List.filter_append, show [i].filter c = [i] by simp [hp]]; exact hI') (fun h => by cases h) hb
    exact this
  · rw [List.range_succ, List.filter_append, show [i].filter c = [] by simp [hp], List.append_nil]; exact hI
  · have z' := hI.1.size
    have e' : Ext w w' := ((Chg.of_ext (F := fun k => k = b1) ((e2.trans e26).trans e11)).trans hI.1 fun _ _ h => h).ext fun k hk e => by omega
    refine ⟨fun x hx => ?_, .inl ⟨hI.1.block l (by omega) (by omega), fun w24 o24 => ?_⟩⟩
    · simp only [List.mem_cons, List.not_mem_nil, or_false] at hx; subst hx
      exact hI.1.block _ (by omega) (by omega)
    obtain ⟨c', s, hBs, hO, hF⟩ := hI
    rw [bl_len] at hO
    have nl : ¬ s.blk l := fun hk => by have := hF l hk; omega
    have nD : ¬ s.blk D := fun hk => by have := hF D hk; omega
    refine ⟨s, by rw [cell_blk (hBs.off o24 (by omega))]; rfl, fun w26 o26 => ?_⟩
    exact hk s w26 (ext_off (ext_off e' o24 (by omega)) o26 (by omega)) ((hO.off o24 nl).off o26 nD) (hF.ext ((e2.trans e26).trans e11))

theorem noLoops_pw (arcs : List Arc) : (noLoops arcs).Pairwise (· < ·) := List.Pairwise.filter _ List.pairwise_lt_range
theorem noLoops_lt {arcs : List Arc} {k : Nat} (h : k ∈ noLoops arcs) : k < arcs.length := by simp [noLoops, List.mem_filter] at h; exact h.1
theorem noLoops_len (arcs : List Arc) : (noLoops arcs).length ≤ arcs.length := by
  have := List.length_filter_le (fun k => (arcA arcs k).1 != (arcA arcs k).2.1) (List.range arcs.length)
  simpa [noLoops] using this

/-- What New has laid. -/
structure NewM (w0 w : World) (b1 b11 D : Nat) (s5 s9 : SV) (n : Nat) (arcs : List Arc) (c : Nat → Bool) : Prop where
  e : Ext w0 w
  m : Blk w b1 [.int .i64 (n : Int), .slice s5.a s5.len s5.cap]
  g : Blk w b11 [.int .i64 (n : Int), .slice s5.a s5.len s5.cap, .slice none 0 0, .slice none 0 0, .slice none 0 0, .slice none 0 0, .slice s9.a s9.len s9.cap]
  a : Own RD w s5 arcs
  cn : Own RB w s9 (bl arcs.length c)
  g1 : w0.heap.size ≤ b1
  g11 : w0.heap.size ≤ b11
  gD : w0.heap.size ≤ D
  g5 : Fsh w0 s5
  g9 : Fsh w0 s9
  d1 : ¬ s9.blk b1
  d11 : ¬ s9.blk b11
  d5 : ∀ k, s9.blk k → ¬ s5.blk k
  D9 : ¬ s9.blk D
  D5 : ¬ s5.blk D
  D1 : D ≠ b1
  D11 : D ≠ b11
  lD : D < w.heap.size
section
variable {w0 w w' : World} {b1 b11 D : Nat} {s5 s9 : SV} {n : Nat} {arcs : List Arc} {c : Nat → Bool}
theorem NewM.ext (h : NewM w0 w b1 b11 D s5 s9 n arcs c) (e : Ext w w') : NewM w0 w' b1 b11 D s5 s9 n arcs c :=
  ⟨h.e.trans e, e.blkE h.m, e.blkE h.g, h.a.ext e, h.cn.ext e, h.g1, h.g11, h.gD, h.g5, h.g9, h.d1, h.d11, h.d5, h.D9, h.D5, h.D1, h.D11, Nat.lt_of_lt_of_le h.lD e.size⟩
theorem NewM.kD (h : NewM w0 w b1 b11 D s5 s9 n arcs c) (e : Ext w w') : Keeps [D] w w' := kp_ext e (by have := h.lD; (intro b hb; simp only [List.mem_cons, List.not_mem_nil, or_false] at hb; omega))
theorem NewM.put (h : NewM w0 w b1 b11 D s5 s9 n arcs c) {i : Nat} (hi : i < arcs.length) {x : Bool} {K : World → Prop} (hk : ∀ w', Chg s9.blk w w' → Keeps [D] w w' → NewM w0 w' b1 b11 D s5 s9 n arcs (fun j => if j = i then x else c j) → K w') :
    Idx s9.a s9.len (i : Int) 1 (fun a => stL w a [.bool x] 0 K) := by
  refine own_wr (R := RB) h.cn (by rw [bl_len]; exact hi) fun b hb hput => ?_
  refine hput x w K h.cn fun w' o hO => ?_
  have cc : Chg s9.blk w w' := .of_off o ⟨_, hb, rfl⟩
  rw [bl_set hi] at hO
  exact hk w' cc (kp_chg cc fun k hk => by simp only [List.mem_cons, List.not_mem_nil, or_false] at hk; subst hk; exact ⟨h.lD, h.D9⟩)
    ⟨ext_chg h.e cc h.g9, cc.blk h.m h.d1, cc.blk h.g h.d11, h.a.chg cc fun k hk h9 => h.d5 k h9 hk, hO, h.g1, h.g11, h.gD, h.g5, h.g9, h.d1, h.d11, h.d5, h.D9, h.D5, h.D1, h.D11, Nat.lt_of_lt_of_le h.lD cc.size⟩
theorem NewM.c1 (h : NewM w0 w b1 b11 D s5 s9 n arcs c) (ok : OkMap (n : Int) arcs) {k : Nat} (hk : k < arcs.length) {K : Int → World → Prop} (hK : K (frA arcs k : Int) w) : sh_graph_New_c1 k ⟨b1, 0, none⟩ K w :=
  c1_ok h.m h.a.view hk (by rw [(ok.fr hk).1]; exact hK)
theorem NewM.c2 (h : NewM w0 w b1 b11 D s5 s9 n arcs c) (ok : OkMap (n : Int) arcs) {k : Nat} (hk : k < arcs.length) {K : Int → World → Prop} (hK : K (toA arcs k : Int) w) : sh_graph_New_c2 k ⟨b1, 0, none⟩ K w :=
  c2_ok h.m h.a.view hk (by rw [(ok.to hk).1]; exact hK)
end

theorem GNew_ok {CV : CVT} (hcv : GraphCV CV) {w : World} {N : Int} {s : SV} {arcs : List Arc} {K : Option Addr → World → Prop} (h : View RD w s arcs)
    (hk : OkMap N arcs → ∀ p w' F, Ext w w' → GraphA w' p N arcs F → (∀ k, F k → w.heap.size ≤ k) → K p w') (hno : ¬ OkMap N arcs → ∀ w', Ext w w' → K none w') : sh_graph_New CV N s K w := by
  unfold sh_graph_New
  intro b1 w2 e2 h1 h1'
  have z2 := e2.size
  refine gcheck_ok (h.ext e2) fun c w4 e4 hc => ⟨kp_ext e4 (by (intro b hb; simp only [List.mem_cons, List.not_mem_nil, or_false] at hb; omega)), ?_⟩
  have e04 := e2.trans e4
  by_cases hc0 : c ≠ 0
  · rw [show (c != 0) = true by simpa using hc0, cond_true]
    exact hno (fun ok => hc0 (hc.2 ok)) w4 e04
  have hc0 : c = 0 := by omega
  have ok := hc.1 hc0
  rw [show (c != 0) = false by simpa using hc0, cond_false]
  obtain ⟨n, rfl⟩ := Int.eq_ofNat_of_zero_le ok.n0
  have hn1 := ok.n1; have hlen := ok.len
  have hk := hk ok
  refine Own.app (R := RD) Own.nil (h.ext e04) (by simp only [List.length_nil]; omega) (by simp only [List.length_nil]; omega) fun s5 w6 c6 hs5 hA => ?_
  rw [List.nil_append] at hA
  have z4 := e4.size
  have f5 : Fsh w4 s5 := fun k hk => by
    rcases hs5 k hk with ⟨q, hq, _⟩ | h'
    · cases hq
    · exact h'
  have e46 : Ext w4 w6 := c6.ext fun k _ ⟨q, hq, _⟩ => by cases hq
  have z6 := e46.size
  refine ⟨kp_ext e46 (by (intro b hb; simp only [List.mem_cons, List.not_mem_nil, or_false] at hb; omega)), ?_⟩
  intro w7 o7 w8 e8
  have z7 := o7.size; have z8 := e8.size
  have e8' : Ext w w8 := (ext_off (e04.trans e46) o7 (by omega)).trans e8
  have n1 : ¬ s5.blk b1 := fun hk => by have := f5 b1 hk; omega
  have hA8 := (hA.off o7 n1).ext e8
  have l5 := hA8.view.len
  rw [l5]
  refine own_mk (R := RB) (bytes := 1) (by omega) (by omega) (by omega) fun s9 w10 e10 g9 hC => ?_
  simp only [Int.toNat_natCast] at hC
  rw [show RB.z = false from rfl, bl_rep] at hC
  intro b11 w12 e12 h11 h11' w13 e13 hB1 b14 w15 e15 h14 h14'
  have z10 := e10.size; have z12 := e12.size; have z13 := e13.size; have z15 := e15.size
  refine ⟨s5, by rw [cell_blk (e15.blkE hB1)]; rw [l5]; rfl, ?_⟩
  intro b17 w18 e18 h17 h17' b19 w20 e20 h19 h19' hB17 hB19
  have z18 := e18.size; have z20 := e20.size
  refine ⟨kp_ext (e18.trans e20) (by (intro b hb; simp only [List.mem_cons, List.not_mem_nil, or_false] at hb; omega)), fun hB11 hB14 D l w23 e23 hD hDl hl => ?_⟩
  have z23 := e23.size
  have eo : Ext w w23 := ((((((e8'.trans e10).trans e12).trans e13).trans e15).trans e18).trans e20).trans e23
  have b5 : ∀ k, s5.blk k → k < w8.heap.size := fun k hk => hA8.lt hk
  have b9 : ∀ k, s9.blk k → k < w10.heap.size := fun k hk => hC.lt hk
  have e1023 := (((((e12.trans e13).trans e15).trans e18).trans e20).trans e23)
  have e823 := e10.trans e1023
  have M : NewM w w23 b1 b11 D s5 s9 n arcs (fun _ => false) :=
    ⟨eo, by have := ((e15.trans e18).trans e20).trans e23 |>.blkE hB1; rw [l5]; exact this, by have := e23.blkE hB11; rw [l5]; exact this, hA8.ext e823, hC.ext e1023, by omega, by omega, by omega, f5.ext e04, g9.ext e8',
      fun hk => by have := g9 _ hk; omega, fun hk => by have := b9 _ hk; omega, fun k h9 h5 => by have := g9 _ h9; have := b5 k h5; omega, fun hk => by have := b9 _ hk; omega, fun hk => by have := b5 _ hk; omega, by omega, by omega, by omega⟩
  have hB17' := e23.blkE hB17; have hB19' := e23.blkE hB19
  refine numArc_ok (s := s5) (xs := arcs) (fv := .func (.func fn_graph_New_c3) #[] #[]) (fun i w' => Coll w23 b14 ((List.range i).filter fun k => (arcA arcs k).1 != (arcA arcs k).2.1) w') (fun k => (arcA arcs k).1 != (arcA arcs k).2.1) (by omega)
    (.start (e23.blkE hB14)) (by rw [cell_blk hB17', l5]; rfl) (fun i w' hI => ⟨(M.a.chg hI.1 fun k hk e => by have := b5 k hk; omega).view, ?_⟩) (fun i w' w'' hI e => hI.ext e) (fun i hi w' K' hI hK' => ?_) (fun i hi hp w0 w' K' hI e hK' => ?_) (fun i hi hp w' hI => ?_) (fun w35 hI => ?_)
  · rw [cell_blk (hI.1.blk hB19' (by omega))]; rfl
  · refine hcv.c3 _ _ _ _ _ _ ?_
    unfold sh_graph_New_c3
    intro b w'' e'' _ _
    rw [arcA_get hi]
    exact hK' w'' e''
  · exact @coll_body w23 w0 w' b14 l ((List.range i).filter fun k => (arcA arcs k).1 != (arcA arcs k).2.1) i K' hI e (by omega) (by omega) (by omega)
      (by have := List.length_filter_le (fun k => (arcA arcs k).1 != (arcA arcs k).2.1) (List.range i); simp at this; omega) fun w'' hI' hb => hK' true w'' (fun _ => by
        rw [List.range_succ, List.filter_append, List.filter_cons, if_pos hp]; exact hI') (fun h => by cases h) hb
  · rw [List.range_succ, List.filter_append, List.filter_cons, if_neg (by rw [hp]; exact Bool.false_ne_true), List.filter_nil, List.append_nil]; exact hI
  have z35 := hI.1.size
  refine ⟨fun x hx => ?_, .inl ⟨hI.1.block l (by omega) (by omega), fun w36 o36 => ?_⟩⟩
  · simp only [List.mem_cons, List.not_mem_nil, or_false] at hx; subst hx
    exact hI.1.block _ (by omega) (by omega)
  obtain ⟨c35, sl, hB14', hSl, fSl⟩ := hI
  have z36 := o36.size
  -- New's own blocks, behind the gathering
  have cc : Chg (fun k => k = b14 ∨ k = l) w23 w36 := (c35.mono (G := fun k => k = b14 ∨ k = l) fun _ _ h => .inl h).trans (.of_off (F := fun k => k = l) o36 rfl) fun _ _ h => .inr h
  have M36 : NewM w w36 b1 b11 D s5 s9 n arcs (fun _ => false) :=
    ⟨ext_chg eo cc (fun k hk => by omega), cc.blk M.m (by omega), cc.blk M.g (by omega), M.a.chg cc fun k hk h => by have := b5 k hk; omega, M.cn.chg cc fun k hk h => by have := b9 k hk; omega,
      M.g1, M.g11, M.gD, M.g5, M.g9, M.d1, M.d11, M.d5, M.D9, M.D5, M.D1, M.D11, by have := cc.size; omega⟩
  have nl : ¬ sl.blk l := fun hk => by have := fSl l hk; omega
  have hSl36 := hSl.off o36 nl
  have hB14'' := hB14'.off o36 (by omega)
  have hnl : (List.range arcs.length).filter (fun k => (arcA arcs k).1 != (arcA arcs k).2.1) = noLoops arcs := rfl
  rw [hnl] at hSl36
  refine Join.cut (fun _ w' => ∃ c last, NewM w w' b1 b11 D s5 s9 n arcs c ∧ Scan arcs (byBoth n (noLoops arcs) (frA arcs) (toA arcs)) last c) (fun J hJ => ?_) ?_
  · refine ⟨_, by rw [addm, cell_blk M36.m]; rfl, _, by rw [addm, cell_blk M36.m]; rfl, sl, by rw [cell_blk hB14'']; rfl, ?_⟩
    intro w43 e43
    have M43 := M36.ext e43
    have hlN := noLoops_len arcs
    refine sorted_ok (L := noLoops arcs) (e := toA arcs) (hSl36.ext e43).view (by omega) (by omega) (fun k hk => (ok.to (noLoops_lt hk)).2) (fun w' e' k hk K hK => hcv.c2 _ _ _ _ ((M43.ext e').c2 ok (noLoops_lt hk) hK)) fun s42 w44 e44 hO44 _ => ⟨M43.kD e44, ?_⟩
    have M44 := M43.ext e44
    refine ⟨⟨_, by rw [addm, cell_blk M44.m]; rfl, rfl⟩, ?_⟩
    intro w46 e46
    have M46 := M44.ext e46
    have hp1 := sortedL_perm (l := noLoops arcs) (e := toA arcs) (n := n) fun k hk => (ok.to (noLoops_lt hk)).2
    have hlt : ∀ k ∈ sortedL n (noLoops arcs) (toA arcs), k < arcs.length := fun k hk => noLoops_lt (hp1.mem_iff.1 hk)
    refine sorted_ok (L := sortedL n (noLoops arcs) (toA arcs)) (e := frA arcs) (hO44.ext e46).view (by omega) (by rw [hp1.length_eq]; omega) (fun k hk => (ok.fr (hlt k hk)).2) (fun w' e' k hk K hK => hcv.c1 _ _ _ _ ((M46.ext e').c1 ok (hlt k hk) hK)) fun s45 w47 e47 hO47 f45 => ⟨M46.kD e47, ?_⟩
    intro w48 e48
    have M48 := (M46.ext e47).ext e48
    have hO48 := hO47.ext e48
    rw [show sortedL n (sortedL n (noLoops arcs) (toA arcs)) (frA arcs) = byBoth n (noLoops arcs) (frA arcs) (toA arcs) from rfl] at hO48
    have hpS : (byBoth n (noLoops arcs) (frA arcs) (toA arcs)).Perm (noLoops arcs) := byBoth_perm fun k hk => ⟨(ok.fr (noLoops_lt hk)).2, (ok.to (noLoops_lt hk)).2⟩
    have hlex : (byBoth n (noLoops arcs) (frA arcs) (toA arcs)).Pairwise (Lex arcs) := byBoth_lex (noLoops_pw arcs)
    generalize byBoth n (noLoops arcs) (frA arcs) (toA arcs) = S at hJ hO48 hpS hlex
    have hSlen : S.length ≤ arcs.length := by rw [hpS.length_eq]; omega
    have hSm : ∀ k ∈ S, k < arcs.length := fun k hk => noLoops_lt (hpS.mem_iff.1 hk)
    have l45 := hO48.view.len
    rw [ints_len] at l45
    have d45 : ∀ k, s45.blk k → ¬ s9.blk k := fun k hk h9 => by have := f45 k hk; have := M46.cn.lt h9; omega
    refine LoopT.gh (γ := Nat × (Nat → Bool)) (fun gh (st : Int × Int × Unit) w' => st.2.1 = gh.1 ∧ gh.1 ≤ S.length ∧ Chg s9.blk w48 w' ∧ NewM w w' b1 b11 D s5 s9 n arcs gh.2 ∧ Scan arcs (S.take gh.1) st.1 gh.2) (fun gh => S.length - gh.1) (0, fun _ => false)
      ⟨rfl, Nat.zero_le _, .refl _ _, M48, scan_start arcs⟩ ?_
    rintro ⟨i, c⟩ ⟨last, x, _⟩ w51 ⟨hx, hi, c51, M51, sc⟩ J1 hJ1
    simp only at hx hi M51 sc
    subst hx
    rw [Bool.cond_decide]
    by_cases hcc : (i : Int) < (s45.len : Int)
    · rw [if_pos hcc]
      have hi' : i < S.length := by omega
      have hk0 := hSm _ (List.getElem_mem hi')
      refine int_idx (hO48.chg c51 d45).view (by rw [ints_len]; exact hi') fun q hq => ⟨_, hq, ?_⟩
      rw [ints_get]
      have hpw : (S.take i ++ [S[i]]).Pairwise (Lex arcs) := by rw [← take_snoc hi']; exact hlex.take
      refine Join.cut (fun _ w' => ∃ c', Chg s9.blk w48 w' ∧ NewM w w' b1 b11 D s5 s9 n arcs c' ∧ Scan arcs (S.take i ++ [S[i]]) (S[i] : Int) (fun j => if j = S[i] then true else c' j)) (fun J2 hJ2 => ?_) ?_
      · by_cases hT : S.take i = []
        · have hl1 := sc.none hT
          subst hl1
          simp only [show decide ((-1 : Int) ≥ 0) = false from rfl, cond_false]
          exact hJ2 _ _ ⟨c, c51, M51, sc.fresh hpw fun j hj => by omega⟩
        · obtain ⟨lk, rfl, hbest, _⟩ := sc.last hT
          have hlk := hSm _ (List.mem_of_mem_take hbest.1)
          rw [show decide ((lk : Int) ≥ 0) = true by simp, cond_true]
          refine M51.c1 ok hlk ⟨M51.kD (.refl _), ?_⟩
          refine M51.c1 ok hk0 ⟨M51.kD (.refl _), ?_⟩
          by_cases hf : frA arcs lk = frA arcs S[i]
          · rw [show ((frA arcs lk : Int) == (frA arcs S[i] : Int)) = true by rw [beq_iff_eq]; omega, cond_true]
            refine M51.c2 ok hlk ⟨M51.kD (.refl _), ?_⟩
            refine M51.c2 ok hk0 ⟨M51.kD (.refl _), ?_⟩
            by_cases ht : toA arcs lk = toA arcs S[i]
            · rw [show ((toA arcs lk : Int) == (toA arcs S[i] : Int)) = true by rw [beq_iff_eq]; omega, cond_true]
              refine ⟨_, by rw [addm, cell_blk M51.m]; rfl, s5, by rw [addm, cell_blk M51.m]; rfl, ?_⟩
              refine better_ok M51.a.view hk0 hlk fun w66 e66 => ⟨M51.kD e66, ?_⟩
              have M66 := M51.ext e66
              have c66 : Chg s9.blk w48 w66 := c51.trans (.of_ext (F := fun _ => False) e66) fun _ _ h => h.elim
              by_cases hw : wtA arcs S[i] < wtA arcs lk
              · rw [decide_eq_true hw]
                simp only [Bool.not_true, cond_false]
                refine ⟨_, rfl, s9, by rw [addm, cell_blk M66.g]; rfl, ?_⟩
                refine M66.put hlk fun w70 c70 k70 M70 => ⟨k70, ?_⟩
                exact hJ2 _ _ ⟨_, c66.trans c70 fun _ _ h => h, M70, sc.less hpw ⟨hf, ht⟩ hw⟩
              · rw [decide_eq_false hw]
                simp only [Bool.not_false, cond_true]
                refine hJ1 (i + 1, c) _ _ ⟨wsucc (m := 2 ^ 40) (by omega) (by omega), by simp only; omega, c66, M66, ?_⟩ (by simp only; omega)
                simp only
                rw [take_snoc hi']
                exact sc.more hpw ⟨hf, ht⟩ hw
            · rw [show ((toA arcs lk : Int) == (toA arcs S[i] : Int)) = false by rw [beq_eq_false_iff_ne]; omega, cond_false]
              exact hJ2 _ _ ⟨c, c51, M51, sc.fresh hpw fun j hj hs => by
                obtain rfl : j = lk := by omega
                exact ht hs.2⟩
          · rw [show ((frA arcs lk : Int) == (frA arcs S[i] : Int)) = false by rw [beq_eq_false_iff_ne]; omega, cond_false]
            exact hJ2 _ _ ⟨c, c51, M51, sc.fresh hpw fun j hj hs => by
              obtain rfl : j = lk := by omega
              exact hf hs.1⟩
      · rintro _ w72 ⟨c', c72, M72, sc'⟩
        refine ⟨_, rfl, s9, by rw [addm, cell_blk M72.g]; rfl, ?_⟩
        refine M72.put hk0 fun w76 c76 k76 M76 => ⟨k76, ?_⟩
        refine hJ1 (i + 1, _) _ _ ⟨wsucc (m := 2 ^ 40) (by omega) (by omega), by simp only; omega, c72.trans c76 fun _ _ h => h, M76, ?_⟩ (by simp only; omega)
        simp only
        rw [take_snoc hi']
        exact sc'
    · rw [if_neg hcc]
      have : i = S.length := by omega
      subst this
      rw [List.take_length] at sc
      exact hJ _ _ ⟨c, last, M51, sc⟩
  rintro _ w78 ⟨c, last, M78, sc⟩
  have hkept := sc.all (n := (n : Int)) ok
  refine keptB_ok hcv (n := arcs.length) M78.g rfl M78.cn (by omega) fun s79 w80 e80 hO80 _ => ⟨M78.kD e80, ?_⟩
  rw [hkept] at hO80
  have M80 := M78.ext e80
  refine ⟨_, by rw [addm, cell_blk M80.m]; rfl, s5, by rw [addm, cell_blk M80.m]; rfl, _, by rw [addm, cell_blk M80.m]; rfl, s5, by rw [addm, cell_blk M80.m]; rfl, ?_⟩
  intro w89 e89
  have M89 := M80.ext e89
  have hkl := keptL_len arcs
  have hkm : ∀ k ∈ keptL arcs, k < arcs.length := fun k hk => (mem_keptL.1 hk).1
  refine lay_ok (L := keptL arcs) (fr := frA arcs) (to := toA arcs) rfl M89.a.view (hO80.ext e89).view (by omega) (by omega) (fun k hk => ⟨hkm k hk, (ok.fr (hkm k hk)).2, (ok.to (hkm k hk)).2⟩)
    (fun w' e' k hk K hK => hcv.c1 _ _ _ _ ((M89.ext e').c1 ok (hkm k hk) hK)) (fun w' e' k hk K hK => hcv.c2 _ _ _ _ ((M89.ext e').c2 ok (hkm k hk) hK)) fun f1 e1 w90 e90 hf1 he1 ff1 fe1 => ⟨M89.kD e90, ?_⟩
  have M90 := M89.ext e90
  refine ⟨⟨_, by rw [addm, cell_blk M90.m]; rfl, s5, by rw [addm, cell_blk M90.m]; rfl, rfl⟩, ?_⟩
  intro w93 e93
  have M93 := M90.ext e93
  refine lay_ok (L := keptL arcs) (fr := toA arcs) (to := frA arcs) rfl M93.a.view (((hO80.ext e89).ext e90).ext e93).view (by omega) (by omega) (fun k hk => ⟨hkm k hk, (ok.to (hkm k hk)).2, (ok.fr (hkm k hk)).2⟩)
    (fun w' e' k hk K hK => hcv.c2 _ _ _ _ ((M93.ext e').c2 ok (hkm k hk) hK)) (fun w' e' k hk K hK => hcv.c1 _ _ _ _ ((M93.ext e').c1 ok (hkm k hk) hK)) fun f2 e2' w94 e94 hf2 he2 ff2 fe2 => ⟨M93.kD e94, ?_⟩
  have M94 := M93.ext e94
  refine ⟨_, rfl, ?_⟩
  intro w96 e96
  have M96 := M94.ext e96
  have hf1' := ((hf1.ext e93).ext e94).ext e96
  have he1' := ((he1.ext e93).ext e94).ext e96
  have hf2' := hf2.ext e96
  have he2' := he2.ext e96
  have k11 : b11 < w89.heap.size := blk_lt M89.g
  have kD := M89.lD
  have z90 := e90.size; have z93 := e93.size
  have nn : ∀ b, b < w89.heap.size → ¬ f1.blk b ∧ ¬ e1.blk b ∧ ¬ f2.blk b ∧ ¬ e2'.blk b := fun b hb =>
    ⟨fun hk => by have := ff1 b hk; omega, fun hk => by have := fe1 b hk; omega, fun hk => by have := ff2 b hk; omega, fun hk => by have := fe2 b hk; omega⟩
  obtain ⟨q1, q2, q3, q4⟩ := nn b11 k11
  obtain ⟨r1, r2, r3, r4⟩ := nn D kD
  have n5 : ¬ s5.blk b11 := fun hk => by have := b5 _ hk; omega
  rw [addm]
  refine stL_blk (b := b11) (o := 0 + 2) [.slice f1.a f1.len f1.cap, .slice e1.a e1.len e1.cap] 0 w96 _ _ M96.g (by simp) fun w97 o97 hB97 => ?_
  have D11 := M89.D11
  refine ⟨fun x hx => by simp only [List.mem_cons, List.not_mem_nil, or_false] at hx; subst hx; exact o97.block _ D11, _, rfl, ?_⟩
  intro w99 e99
  rw [addm]
  refine stL_blk (b := b11) (o := 0 + 4) [.slice f2.a f2.len f2.cap, .slice e2'.a e2'.len e2'.cap] 0 w99 _ _ (e99.blkE hB97) (by simp [setL]) fun w100 o100 hB100 => ?_
  refine ⟨fun x hx => by simp only [List.mem_cons, List.not_mem_nil, or_false] at hx; subst hx; exact o100.block _ D11, ?_⟩
  intro w101 e101 w102 o102
  have fin : ∀ {α : Type} {R : Rc α} {s : SV} {xs : List α}, Own R w96 s xs → ¬ s.blk b11 → ¬ s.blk D → Own R w102 s xs := fun hO hb hD => (((((hO.off o97 hb).ext e99).off o100 hb).ext e101).off o102 hD)
  have g11 := M89.g11; have gD := M89.gD
  have e102 : Ext w w102 := ext_off ((ext_off ((ext_off M96.e o97 g11).trans e99) o100 g11).trans e101) o102 gD
  refine hk _ w102 _ e102 ⟨ok, b11, s5, f1, e1, f2, e2', s9, n, c, rfl, rfl, ⟨?_, fin M96.a n5 M96.D5, fin hf1' q1 r1, fin he1' q2 r2, fin hf2' q3 r3, fin he2' q4 r4, fin M96.cn M96.d11 M96.D9, hkept⟩, rfl⟩ fun k hk => ?_
  · have := (e101.blkE hB100).off o102 D11.symm
    simpa [setL] using this
  · have q := M89.e.size
    rcases hk with rfl | hk | hk | hk | hk | hk | hk
    · exact g11
    · exact M89.g5 k hk
    · have := ff1 k hk; omega
    · have := fe1 k hk; omega
    · have := ff2 k hk; omega
    · have := fe2 k hk; omega
    · exact M89.g9 k hk
end Go.Sh
