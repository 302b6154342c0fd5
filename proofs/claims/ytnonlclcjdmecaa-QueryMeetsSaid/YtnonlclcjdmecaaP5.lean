/- RefBuild2, HierOfMaps, GraphTurned, GraphLoops, GraphLeast, DistPure, DistSum, DistApi, DistRef, DistRef2, SpMaps, SpMeet, SpBoth, SpTurned, QuFar: merged into one text. -/
import Derived.Test.YtnonlclcjdmecaaP4
import Derived.Test.YtnonlclcjdmecaaP3
/- The reference hierarchy of a map: its walk. -/
set_option maxRecDepth 100000
namespace Go.Sh
open Go.RowKit

/-- The blocks of what is left. -/
def Lblk (sI sL sO : SV) (k : Nat) : Prop := sI.blk k ∨ sL.blk k ∨ sO.blk k
/-- Ranks as they lie in memory: 0 where none is told. -/
def rk0 (n : Nat) (r : Nat → Int) (v : Nat) : Int := if r v = n then 0 else r v

/-- Between two places taken. -/
structure BldM (w0 : World) (n0 b10 b13 : Nat) (arcs : List Arc) (n : Nat) (w : World) (sI sL sO sR sW : SV) (inn lost r : Nat → Int) (L H : List Wy) (k : Nat) : Prop where
  l : LeftV w n sI sL sO inn L lost
  rk : Acc RI w0 n0 w sR (fi n (rk0 n r))
  wy : Acc RW w0 n0 w sW H
  lb : ∀ i, Lblk sI sL sO i → i ≠ b10 ∧ i ≠ b13 ∧ i < w.heap.size
  dR : Dj (Lblk sI sL sO) sR.blk
  dW : Dj (Lblk sI sL sO) sW.blk
  dRW : Dj sR.blk sW.blk
  inn : ∀ v, v < n → (inn v = 1 ↔ r v = n)
  c : Ctr (EA arcs) arcs n k (BB k) L H r

section
variable {w : World} {n : Nat} {arcs : List Arc}
theorem LeftV.chgL {w w' : World} {n : Nat} {sI sL sO : SV} {inn lost : Nat → Int} {L : List Wy} {F : Nat → Prop} (h : LeftV w n sI sL sO inn L lost) (c : Chg F w w') (d : Dj (Lblk sI sL sO) F) : LeftV w' n sI sL sO inn L lost :=
  h.chg c (fun k hk => d k (.inl hk)) (fun k hk => d k (.inr (.inl hk))) (fun k hk => d k (.inr (.inr hk)))

/-- The ways that stand in are put, one by one. -/
theorem putLoop_ok {w0 w37 : World} {sI sL sO sR sW s36 : SV} {n0 b1 b3 b10 b13 : Nat} {inn lost r : Nat → Int} {L H N : List Wy} {v : Nat} {rl : List Int} {M : Int} {J : (Int × SV × SV × SV × Unit) × Unit → World → Prop}
    (hl : LeftV w37 n sI sL sO inn L lost) (hR : Acc RI w0 n0 w37 sR rl) (hW : Acc RW w0 n0 w37 sW H) (hlb : ∀ i, Lblk sI sL sO i → i ≠ b10 ∧ i ≠ b13 ∧ i < w37.heap.size) (hdR : Dj (Lblk sI sL sO) sR.blk) (hdW : Dj (Lblk sI sL sO) sW.blk)
    (hn : n ≤ 12) (hM : 0 ≤ M) (hq : Uq L) (hE : ∀ y ∈ L, Ends (fun u => u < n ∧ r u = n) M y) (hin : ∀ v, v < n → (inn v = 1 ↔ r v = n)) (hN : View RW w37 s36 N) (hNl : N.length ≤ n * n) (hNo : ∀ y ∈ N, OfN L v y)
    (l1 : b1 < n0) (l3 : b3 < n0) (l10 : b10 < n0) (l13 : b13 < n0) (f10 : w0.heap.size ≤ b10) (fN : ∀ i, s36.blk i → i ≠ b10)
    (hJ : ∀ sL' L1 w', LeftV w' n sI sL' sO inn L1 lost → Acc RI w0 n0 w' sR rl → Acc RW w0 n0 w' sW H → (∀ i, Lblk sI sL' sO i → i ≠ b10 ∧ i ≠ b13 ∧ i < w'.heap.size) → Dj (Lblk sI sL' sO) sR.blk → Dj (Lblk sI sL' sO) sW.blk → Puts L N L1 → J (((n : Int), sI, sL', sO, ()), ()) w') :
    LoopT (Int × (Int × SV × SV × SV × Unit) × Unit) (fun t40 again39 w41 =>
  (cond (decide (t40.1 < (s36.len : Int))) (Idx s36.a s36.len t40.1 5 (fun a42 =>
  (∃ x43 : Int, w41.cell? (a42.add 0) = some (.int .i64 x43) ∧
  (Idx s36.a s36.len t40.1 5 (fun a44 =>
  (∃ x45 : Int, w41.cell? (a44.add 1) = some (.int .i64 x45) ∧
  (Idx s36.a s36.len t40.1 5 (fun a46 =>
  (∃ x47 : Int, w41.cell? ((a46.add 2).add 0) = some (.int .i64 x47) ∧
  (Idx s36.a s36.len t40.1 5 (fun a48 =>
  (∃ x49 : Int, w41.cell? ((a48.add 2).add 1) = some (.int .i64 x49) ∧
  (∀ w55, Ext w41 w55 →
  (sh_postroadref08_Put t40.2.1.1 t40.2.1.2.1 t40.2.1.2.2.1 t40.2.1.2.2.2.1 x43 x45 x47 x49 (fun x50 s51 s52 s53 t54 w56 =>
  (KeepZ (zI (fun _ => False) w41 w55) w55 w56 ∧
  (Keeps [b10, b13, b3, b1] w55 w56 ∧
  (∀ b57 w58, Ext w56 w58 →
  ((zI (fun _ => False) w41 w55) b57 ∨ w56.heap.size ≤ b57) → b57 < w58.heap.size →
  (∀ w59, Ext w58 w59 →
  (∀ w60, Off b57 w59 w60 →
  (∀ w61, Ext w60 w61 →
  (∀ w62, Off b10 w61 w62 →
  (again39 ((IntKind.i64.wrap (t40.1 + (1 : Int))), (x50, s51, s52, s53, ()), ()) w62))))))))) w55)))))))))))))) (J ((t40.2.1.1, t40.2.1.2.1, t40.2.1.2.2.1, t40.2.1.2.2.2.1, ()), ()) w41))) ((0 : Int), ((n : Int), sI, sL, sO, ()), ()) w37 := by
  have hl36 := hN.len
  have n2 : n * n ≤ 12 * 12 := Nat.mul_le_mul hn hn
  refine LoopT.gh (γ := Nat × List Wy) (fun g (st : Int × (Int × SV × SV × SV × Unit) × Unit) w' => st.1 = g.1 ∧ g.1 ≤ N.length ∧ st.2.1.1 = n ∧ st.2.1.2.1 = sI ∧ st.2.1.2.2.2.1 = sO ∧ LeftV w' n sI st.2.1.2.2.1 sO inn g.2 lost ∧ Acc RI w0 n0 w' sR rl ∧ Acc RW w0 n0 w' sW H ∧
      (∀ i, Lblk sI st.2.1.2.2.1 sO i → i ≠ b10 ∧ i ≠ b13 ∧ i < w'.heap.size) ∧ Dj (Lblk sI st.2.1.2.2.1 sO) sR.blk ∧ Dj (Lblk sI st.2.1.2.2.1 sO) sW.blk ∧ View RW w' s36 N ∧ w37.heap.size ≤ w'.heap.size ∧ (∀ i, s36.blk i → i < w37.heap.size → True) ∧ Puts L (N.take g.1) g.2) (fun g => N.length - g.1) (0, L)
    ⟨rfl, Nat.zero_le _, rfl, rfl, rfl, hl, hR, hW, hlb, hdR, hdW, hN, Nat.le_refl _, fun _ _ _ => trivial, Puts.nil hq⟩ ?_
  rintro ⟨j, Lj⟩ ⟨x, ⟨m, tI, tL, tO, _⟩, _⟩ w41 ⟨hx, hj, hm, htI, htO, hl, hR, hW, hlb, hdR, hdW, hN, z41, _, hP⟩ J1 hJ1
  simp only at hx hj hm htI htO hl hR hW hlb hdR hdW hP
  subst hx hm htI htO
  dsimp only
  rw [Bool.cond_decide]
  by_cases hc : (j : Int) < (s36.len : Int)
  · rw [if_pos hc]
    have hj' : j < N.length := by omega
    obtain ⟨p, hp, q, hqm, p1, p2, q1, q2, hw, hm, ha, hne⟩ := hNo N[j] (List.getElem_mem hj')
    have ep := hE p hp; have eq := hE q hqm
    obtain ⟨a, ⟨ha1, ha2⟩, ha3⟩ := ep.1
    obtain ⟨c, ⟨hc1, hc2⟩, hc3⟩ := eq.2.1
    refine way_idx hN hj' fun _ _ a0 _ _ _ _ => ⟨_, a0, ?_⟩
    refine way_idx hN hj' fun _ _ _ a1 _ _ _ => ⟨_, a1, ?_⟩
    refine way_idx hN hj' fun p' hsp _ _ a2 _ _ => ⟨yW N[j], ?_, ?_⟩
    · obtain ⟨b, o, sp⟩ := p'
      simp only at hsp; subst hsp
      rw [addm] at a2 ⊢; rw [addm]; exact a2
    refine way_idx hN hj' fun p' hsp _ _ _ a3 _ => ⟨yM N[j], ?_, ?_⟩
    · obtain ⟨b, o, sp⟩ := p'
      simp only at hsp; subst hsp
      rw [addm] at a3 ⊢; rw [addm, Nat.add_assoc]; exact a3
    intro w55 e55
    have z55 := e55.size
    have hyF : yF N[j] = (a : Int) := by rw [← p1, ha3]
    have hyT : yT N[j] = (c : Int) := by rw [← q2, hc3]
    rw [hyF, hyT]
    have hL1 := hP.ends (fun y hy => hNo y (List.mem_of_mem_take hy)) hE hM
    refine Put8_ok (hl.ext e55) ha1 ((hin a ha1).2 ha2) hc1 ((hin c hc1).2 hc2) (by omega) (by have := ep.2.2.2.1; have := eq.2.2.2.1; omega) (by omega) hP.u fun s52 b54 w56 e56 hcase => ?_
    have z56 := e56.size
    refine ⟨⟨z56, fun b hb => e56.blk (by rcases hb with h | ⟨_, h⟩; exact h.elim; exact h)⟩, kp_ext e56 (by have := hR.z; (intro b hb; simp only [List.mem_cons, List.not_mem_nil, or_false] at hb; omega)), ?_⟩
    intro b57 w58 e58 g57 g57' w59 e59 w60 o60 w61 e61 w62 o62
    have z58 := e58.size; have z59 := e59.size; have z60 := o60.size; have z61 := e61.size; have z62 := o62.size
    have g57'' : w41.heap.size ≤ b57 := by
      rcases g57 with (h | h) | h
      · exact h.elim
      · exact h.1
      · omega
    have e41 : Ext w41 w59 := ((e55.trans e56).trans e58).trans e59
    have e41' : Ext w41 w61 := (ext_off e41 o60 g57'').trans e61
    have c62 : Chg (fun i => i = b10) w61 w62 := .of_off o62 rfl
    have hR' := (hR.ext e41').off o62 f10 l10
    have hW' := (hW.ext e41').off o62 f10 l10
    have hN' : View RW w62 s36 N := (hN.ext e41').chg c62 fun i hi e => fN i hi e
    have hz : w37.heap.size ≤ w62.heap.size := by omega
    rcases hcase with ⟨rfl, z, hz1, hz2, hz3, hz4⟩ | ⟨hO, hF, hmin⟩
    · refine hJ1 (j + 1, Lj) _ _ ⟨wsucc (m := 2 ^ 40) (by omega) (by omega), by simp only; omega, rfl, rfl, rfl, (hl.ext e41').chgL c62 fun i hi e => (hlb i hi).1 e, hR', hW', fun i hi => ⟨(hlb i hi).1, (hlb i hi).2.1, by have := (hlb i hi).2.2; omega⟩, hdR, hdW, hN', hz, fun _ _ _ => trivial, ?_⟩ (by simp only; omega)
      simp only
      rw [take_snoc' hj']
      exact hP.skip hz1 (by rw [hyF, hz2]) (by rw [hyT, hz3]) hz4
    · have hy : ((a : Int), (c : Int), yW N[j], yM N[j], (-1 : Int)) = N[j] := by rw [← hyF, ← hyT, ← ha]; rfl
      have hP' : Puts L (N.take (j + 1)) (Lj.filter (offE (a : Int) (c : Int)) ++ [N[j]]) := by
        have := hP.put (y := N[j]) fun z hz h1 h2 => hmin z hz (by rw [h1, hyF]) (by rw [h2, hyT])
        rw [hyF, hyT, ← take_snoc' hj'] at this
        exact this
      have hL2 := hP'.ends (fun y hy => hNo y (List.mem_of_mem_take hy)) hE hM
      have hlen := hP'.u.len (fun y hy => (hL2 y hy).lt)
      rw [hy] at hO
      have n57 : ∀ i, s52.blk i → i ≠ b57 := fun i hi e => by
        have h1 := hF i hi; have h2 := hO.lt hi
        subst e
        rcases g57 with (h | h) | h
        · exact h.elim
        · omega
        · omega
      have hO' : Own RW w61 s52 (Lj.filter (offE (a : Int) (c : Int)) ++ [N[j]]) := ((((hO.ext e58).ext e59).off o60 fun h => n57 _ h rfl).ext e61)
      have n52 : ∀ i, s52.blk i → w41.heap.size ≤ i := fun i hi => by have := hF i hi; omega
      have lb52 : ∀ i, Lblk tI s52 tO i → i ≠ b10 ∧ i ≠ b13 ∧ i < w62.heap.size := fun i hi => by
        have hrz := hR.z
        rcases hi with hi | hi | hi
        · have := hlb i (.inl hi); exact ⟨this.1, this.2.1, by omega⟩
        · have := n52 i hi; have := hO'.lt hi; exact ⟨by omega, by omega, by omega⟩
        · have := hlb i (.inr (.inr hi)); exact ⟨this.1, this.2.1, by omega⟩
      refine hJ1 (j + 1, Lj.filter (offE (a : Int) (c : Int)) ++ [N[j]]) _ _ ⟨wsucc (m := 2 ^ 40) (by omega) (by omega), by simp only; omega, rfl, rfl, rfl, ?_, hR', hW', lb52, ?_, ?_, hN', hz, fun _ _ _ => trivial, hP'⟩ (by simp only; omega)
      · have hl' := (hl.ext e41').chgL c62 fun i hi e => (hlb i hi).1 e
        exact ⟨hl'.i, (hO'.view).chg c62 fun i hi e => by have := n52 i hi; have := hR.z; omega, hl'.o, by simp only; omega, hl.n40⟩
      · intro i hi hr
        rcases hi with hi | hi | hi
        · exact hdR i (.inl hi) hr
        · have := n52 i hi; have := hR.o.lt hr; omega
        · exact hdR i (.inr (.inr hi)) hr
      · intro i hi hr
        rcases hi with hi | hi | hi
        · exact hdW i (.inl hi) hr
        · have := n52 i hi; have := hW.o.lt hr; omega
        · exact hdW i (.inr (.inr hi)) hr
  · rw [if_neg hc]
    have : j = N.length := by omega
    subst this
    rw [List.take_length] at hP
    exact hJ tL Lj w41 hl hR hW hlb hdR hdW hP

theorem Build_ok {s t : SV} {K : SV → SV → World → Prop} (h : View RD w s arcs) (ht : View RI w t (fi arcs.length (kI arcs))) (ok : OkMap (n : Int) arcs) (hn : n ≤ 12)
    (hK : ∀ sR sW w' rank ways, Ext w w' → Own RI w' sR rank → Own RW w' sW ways → Fsh w sR → Fsh w sW → Dj sR.blk sW.blk → MapH n arcs rank ways → K sR sW w') : sh_postroadref09_Build n s t K w := by
  unfold sh_postroadref09_Build
  intro b1 w2 e2 g1 g1' b3 w4 e4 g3 g3'
  have z2 := e2.size; have z4 := e4.size
  have e04 := e2.trans e4
  refine New8_ok (h.ext e04) (ht.ext e04) ok (by omega) fun sI sL sO w9 L0 e9 hl fI fL fO tI tL tO hq0 hm0 => ⟨kp_ext e9 (by (intro b hb; simp only [List.mem_cons, List.not_mem_nil, or_false] at hb; omega)), ?_⟩
  have z9 := e9.size
  intro b10 w11 e11 g10 g10' w12 o12 b13 w14 e14 g13 g13' w15 o15
  have z11 := e11.size; have z12 := o12.size; have z14 := e14.size; have z15 := o15.size
  have e9' : Ext w9 w15 := ext_off ((ext_off e11 o12 g10).trans e14) o15 (by omega)
  have e15 : Ext w w15 := (e04.trans e9).trans e9'
  have hl := hl.ext e9'
  have hlb0 : ∀ i, Lblk sI sL sO i → i < w9.heap.size := fun i hi => by
    rcases hi with hi | hi | hi
    · exact tI i hi
    · exact tL i hi
    · exact tO i hi
  have big : ∀ k, k ≤ n → (n : Int) * BB k ≤ 1152921504606846976 ∧ 2 * BB k ≤ 1152921504606846976 := fun k hk => by
    have h1 := BB_le (show k ≤ 12 by omega)
    have h2 : (n : Int) * BB k ≤ 12 * BB k := Int.mul_le_mul_of_nonneg_right (by omega) (BB_nn k)
    exact ⟨by omega, by omega⟩
  have n2 : n * n ≤ 12 * 12 := Nat.mul_le_mul hn hn
  refine Join.cut (fun (x : (SV × SV × Unit) × Unit) w' => x.1.2.1 = ⟨none, 0, 0⟩ ∧ Acc RI w w15.heap.size w' x.1.1 (fi n fun _ => 0) ∧ Ext w15 w' ∨ x.1.2.1 = ⟨none, 0, 0⟩ ∧ Acc RI w w15.heap.size w' x.1.1 (fi n fun _ => 0) ∧ LeftV w' n sI sL sO (fun _ => 1) L0 (fun _ => 0)) (fun J hJ => ?_) ?_
  · refine LoopT.gh (γ := Nat) (fun i (st : Int × (SV × SV × Unit) × Unit) w' => st.1 = i ∧ i ≤ n ∧ st.2.1.2.1 = ⟨none, 0, 0⟩ ∧ Acc RI w w15.heap.size w' st.2.1.1 (fi i fun _ => 0) ∧ LeftV w' n sI sL sO (fun _ => 1) L0 (fun _ => 0)) (fun i => n - i) 0
      ⟨rfl, Nat.zero_le _, rfl, Acc.nil e15 e15.size (Nat.le_refl _), hl⟩ ?_
    rintro i ⟨x, ⟨u, u2, _⟩, _⟩ w19 ⟨hx, hi, hu2, hA, hl⟩ J1 hJ1
    simp only at hx hu2 hA
    subst hx hu2
    dsimp only
    have z19 := hA.z
    rw [Bool.cond_decide]
    by_cases hc : (i : Int) < (n : Int)
    · rw [if_pos hc]
      refine hA.push (R := RI) (x := 0) (by rw [fi_len]; omega) (by rw [fi_len]; omega) fun w21 s22 w23 e21 c23 _ hA1 => ?_
      have z21 := e21.size
      refine ⟨hA.kp e21 c23 (by (intro b hb; simp only [List.mem_cons, List.not_mem_nil, or_false] at hb; omega)), fun w24 o24 => ?_⟩
      refine hJ1 (i + 1) _ _ ⟨wsucc (m := 2 ^ 40) (by omega) (by omega), by omega, rfl, by rw [fi_succ]; exact hA1.off o24 (by omega) (by omega), ?_⟩ (by omega)
      refine ((hl.ext e21).chgL c23 fun k hk hu => ?_).chgL (.of_off (F := fun k => k = b13) o24 rfl) fun k hk e => ?_
      · have := hlb0 k hk; have := hA.f k hu; omega
      · have := hlb0 k hk; omega
    · rw [if_neg hc]
      have : i = n := by omega
      subst this
      exact hJ _ _ (.inr ⟨rfl, hA, hl⟩)
  · rintro ⟨⟨sR, u2, _⟩, _⟩ w26 hx
    have hx : u2 = ⟨none, 0, 0⟩ ∧ Acc RI w w15.heap.size w26 sR (fi n fun _ => 0) ∧ LeftV w26 n sI sL sO (fun _ => 1) L0 (fun _ => 0) := hx.elim (fun ⟨a, b, c⟩ => ⟨a, b, hl.ext c⟩) id
    obtain ⟨rfl, hR, hl⟩ := hx
    dsimp only
    have z26 := hR.z
    refine Join.cut (fun (x : (SV × SV × Unit) × Unit) w' => ∃ inn lost r L H sI sL sO, BldM w w15.heap.size b10 b13 arcs n w' sI sL sO x.1.1 x.1.2.1 inn lost r L H n) (fun J hJ => ?_) ?_
    · refine LoopT.gh (γ := Nat) (fun k (st : Int × (Int × SV × SV × SV × Unit) × (SV × SV × Unit) × Unit) w' => st.1 = k ∧ k ≤ n ∧ st.2.1.1 = n ∧ ∃ inn lost r L H, BldM w w15.heap.size b10 b13 arcs n w' st.2.1.2.1 st.2.1.2.2.1 st.2.1.2.2.2.1 st.2.2.1.1 st.2.2.1.2.1 inn lost r L H k) (fun k => n - k) 0
        ⟨rfl, Nat.zero_le _, rfl, _, _, _, _, [], ⟨hl, ?_, Acc.nil hR.e hR.m hR.z, fun i hi => ?_, fun i hi hr => ?_, fun _ _ ⟨_, h, _⟩ => (by cases h), fun _ _ ⟨_, h, _⟩ => (by cases h), fun _ _ => ⟨fun _ => rfl, fun _ => rfl⟩, begin8 ok hq0 hm0⟩⟩ ?_
      · rw [show fi n (rk0 n fun _ => (n : Int)) = fi n (fun _ => 0) from fi_congr fun j _ => by unfold rk0; rw [if_pos rfl]]
        exact hR
      · have := hlb0 i hi; exact ⟨by omega, by omega, by omega⟩
      · have := hlb0 i hi; have := hR.f i hr; omega
      clear hl fI fL fO tI tL tO hlb0 hq0 hm0
      rintro k ⟨x, ⟨m, sI, sL, sO, _⟩, ⟨sR, sW, _⟩, _⟩ w30 ⟨hx, hk, hm, inn, lost, r, L, H, hB⟩ J1 hJ1
      simp only at hx hm hB
      subst hx hm
      dsimp only
      rw [Bool.cond_decide]
      by_cases hc : (k : Int) < (n : Int)
      · rw [if_pos hc]
        have hk' : k < n := by omega
        refine Join.cut (fun (x : (Int × SV × SV × SV × Unit) × (SV × SV × Unit) × Unit) w' => x.1.1 = n ∧ ∃ inn lost r L H, BldM w w15.heap.size b10 b13 arcs n w' x.1.2.1 x.1.2.2.1 x.1.2.2.2.1 x.2.1.1 x.2.1.2.1 inn lost r L H (k + 1)) (fun J31 hJ31 => ?_) ?_
        · obtain ⟨hl, hR, hW, hlb, hdR, hdW, hdRW, hin, hC⟩ := hB
          have z30 := hR.z
          refine Next_ok hl fun x32 w33 e33 hx => ⟨kp_ext e33 (by (intro b hb; simp only [List.mem_cons, List.not_mem_nil, or_false] at hb; omega)), ?_⟩
          have z33 := e33.size
          obtain ⟨v, hv, hiv, rfl⟩ : ∃ v : Nat, v < n ∧ inn v = 1 ∧ x32 = (v : Int) := hx.elim (fun ⟨_, hno⟩ => by
            obtain ⟨v, hv, hrv⟩ := hC.left hk'
            exact absurd ((hin v hv).2 hrv) (hno v hv)) id
          have hrv := (hin v hv).1 hiv
          have hR1 := hR.ext e33
          refine hR1.wr hv fun p put => put w33 (k : Int) _ (.refl _) fun w35 c35 hR2 => ⟨hR1.kp (.refl _) c35 (by (intro b hb; simp only [List.mem_cons, List.not_mem_nil, or_false] at hb; omega)), ?_⟩
          have z35 := c35.size
          have hl2 := (hl.ext e33).chgL c35 hdR
          have hW2 := (hW.ext e33).other (.refl _) c35 hdRW.symm hR2.e
          have hE := hC.le
          have bg := big k (by omega)
          refine Needed_ok hl2 (BB_nn k) bg.1 bg.2 (fun y hy => (hE y hy).lt) hC.lu fun s36 w37 N e37 hN fN hNl hneed => ⟨kp_ext e37 (by (intro b hb; simp only [List.mem_cons, List.not_mem_nil, or_false] at hb; omega)), ?_⟩
          have z37 := e37.size
          have hNo : ∀ y ∈ N, OfN L v y := hneed.a
          refine Join.cut (fun (x : (Int × SV × SV × SV × Unit) × Unit) w' => ∃ L1, x.1.1 = n ∧ x.1.2.1 = sI ∧ x.1.2.2.2.1 = sO ∧ LeftV w' n sI x.1.2.2.1 sO inn L1 lost ∧ Acc RI w w15.heap.size w' sR (fi n (up1 (rk0 n r) v k)) ∧ Acc RW w w15.heap.size w' sW H ∧
              (∀ i, Lblk sI x.1.2.2.1 sO i → i ≠ b10 ∧ i ≠ b13 ∧ i < w'.heap.size) ∧ Dj (Lblk sI x.1.2.2.1 sO) sR.blk ∧ Dj (Lblk sI x.1.2.2.1 sO) sW.blk ∧ Puts L N L1) (fun J38 hJ38 => ?_) ?_
          · exact putLoop_ok (hl2.ext e37) (hR2.ext e37) (hW2.ext e37) (fun i hi => ⟨(hlb i hi).1, (hlb i hi).2.1, by have := (hlb i hi).2.2; omega⟩) hdR hdW hn (BB_nn k) hC.lu hE hin hN.view hNl hNo (by omega) (by omega) (by omega) (by omega) (by omega) (fun i hi => by have := fN i hi; omega)
              fun sL' L1 w' q1 q2 q3 q4 q5 q6 q7 => hJ38 _ _ ⟨L1, rfl, rfl, rfl, q1, q2, q3, q4, q5, q6, q7⟩
          clear hl hl2 hR hR1 hR2 hW hW2 hlb hdR hdW
          rintro ⟨⟨m, tI, sL, tO, _⟩, _⟩ w64 ⟨L1, hm, htI, htO, hl, hR, hW, hlb, hdR, hdW, hP⟩
          simp only at hm htI htO hl hlb hdR hdW
          subst hm htI htO
          dsimp only
          have z64 := hR.z
          have hE1 := hP.ends hNo hE (BB_nn k)
          have hE1' : ∀ y ∈ L1, Ends (fun u => u < n) (2 * BB k) y := fun y hy => (hE1 y hy).lt
          have hHl := hC.hu.len hC.he
          refine Outs_ok hl fun s65 w66 e66 hX fX => ⟨kp_ext e66 (by (intro b hb; simp only [List.mem_cons, List.not_mem_nil, or_false] at hb; omega)), ?_⟩
          have z66 := e66.size
          have hXl := selL_len (fun u => hasF L1 v u) n
          have hXv := hX.view
          have l65 := hXv.len
          have dX : Dj s65.blk sW.blk := fun i h1 h2 => by have := fX i h1; have := hW.o.lt h2; omega
          have lX : ∀ i, s65.blk i → w64.heap.size ≤ i ∧ i < w66.heap.size := fun i hi => ⟨fX i hi, hX.lt hi⟩
          have mO := outW_mem hP.u hE1' (v := v)
          unfold outsF at mO
          have uO := @outW_uq L1 v (fun u => hasF L1 v u) n
          generalize selL (fun u => hasF L1 v u) n = xs at hXl hXv l65 mO uO
          clear hX
          refine Join.cut (fun (x : (SV × SV × Unit) × Unit) w' => x.1.1 = sR ∧ LeftV w' n tI sL tO inn L1 lost ∧ Acc RI w w15.heap.size w' sR (fi n (up1 (rk0 n r) v k)) ∧ Acc RW w w15.heap.size w' x.1.2.1 (H ++ outW L1 v xs) ∧ Dj (Lblk tI sL tO) x.1.2.1.blk ∧ Dj sR.blk x.1.2.1.blk ∧ w66.heap.size ≤ w'.heap.size) (fun J67 hJ67 => ?_) ?_
          · refine LoopT.gh (γ := Nat) (fun j (st : Int × (SV × SV × Unit) × Unit) w' => st.1 = j ∧ j ≤ xs.length ∧ st.2.1.1 = sR ∧ LeftV w' n tI sL tO inn L1 lost ∧ Acc RI w w15.heap.size w' sR (fi n (up1 (rk0 n r) v k)) ∧ Acc RW w w15.heap.size w' st.2.1.2.1 (H ++ outW L1 v (xs.take j)) ∧ Dj (Lblk tI sL tO) st.2.1.2.1.blk ∧ Dj sR.blk st.2.1.2.1.blk ∧
                Dj s65.blk st.2.1.2.1.blk ∧ View RI w' s65 xs ∧ w66.heap.size ≤ w'.heap.size) (fun j => xs.length - j) 0 ⟨rfl, Nat.zero_le _, rfl, hl.ext e66, hR.ext e66, by simpa [outW] using hW.ext e66, hdW, hdRW, dX, hXv, Nat.le_refl _⟩ ?_
            clear hl hR hW hdW hdRW dX hXv
            rintro j ⟨x, ⟨uR, uW, _⟩, _⟩ w70 ⟨hx, hj, huR, hl, hR, hW, hdW, hdRW, dX, hXv, z70⟩ J2 hJ2
            simp only at hx huR hW hdW hdRW dX
            subst hx huR
            dsimp only
            rw [Bool.cond_decide]
            by_cases hcj : (j : Int) < (s65.len : Int)
            · rw [if_pos hcj]
              have hj' : j < xs.length := by omega
              refine int_idx hXv hj' fun _ a0 => ⟨_, a0, ?_⟩
              refine Way_quiet hl ?_
              intro b80 w81 e81 g80 g80' w82 e82 w83 o83 w84 e84
              have z81 := e81.size; have z82 := e82.size; have z83 := o83.size; have z84 := e84.size
              have e70 : Ext w70 w84 := (ext_off (e81.trans e82) o83 g80).trans e84
              refine int_idx (hXv.ext e70) hj' fun _ a0 => ⟨_, a0, ?_⟩
              intro w87 e87
              have z87 := e87.size
              have hl70 : (H ++ outW L1 v (xs.take j)).length ≤ n * n + j := by simp [outW]; omega
              have hW1 := hW.ext (e70.trans e87)
              refine hW1.push' (R := RW) (x := ((v : Int), xs[j], (wayF L1 v xs[j]).1, (wayF L1 v xs[j]).2.1, (wayF L1 v xs[j]).2.2.1)) (by omega) (by omega) fun w90 s91 w92 e90 c92 hs91 hW2 => ?_
              have z90 := e90.size; have z92 := c92.size
              refine ⟨hW.kp ((e70.trans e87).trans e90) c92 (by (intro b hb; simp only [List.mem_cons, List.not_mem_nil, or_false] at hb; omega)), fun w93 e93 w94 o94 w95 e95 => ?_⟩
              have z93 := e93.size; have z94 := o94.size; have z95 := e95.size
              have e90' := (e70.trans e87).trans e90
              have c94 : Chg (fun i => i = b13) w93 w94 := .of_off o94 rfl
              have hR2 := ((((hR.other e90' c92 hdRW hW2.e).ext e93).off o94 (by omega) (by omega)).ext e95)
              have hW3 := ((hW2.ext e93).off o94 (by omega) (by omega)).ext e95
              have hl2 := ((((hl.ext e90').chgL c92 hdW).ext e93).chgL c94 fun i hi e => (hlb i hi).2.1 e).ext e95
              have hX2 : View RI w95 s65 xs := ((((hXv.ext e90').chg c92 dX).ext e93).chg c94 fun i hi e => by have := (lX i hi).1; omega).ext e95
              refine hJ2 (j + 1) _ _ ⟨wsucc (m := 2 ^ 40) (by omega) (by omega), by omega, rfl, hl2, hR2, ?_, ?_, ?_, ?_, hX2, by omega⟩ (by omega)
              · rw [take_snoc' hj', show outW L1 v (xs.take j ++ [xs[j]]) = outW L1 v (xs.take j) ++ [((v : Int), xs[j], (wayF L1 v xs[j]).1, (wayF L1 v xs[j]).2.1, (wayF L1 v xs[j]).2.2.1)] by unfold outW; rw [List.map_append]; rfl, ← List.append_assoc]
                exact hW3
              · intro i hi hw
                rcases hs91 i hw with q | q
                · exact hdW i hi q
                · have := (hlb i hi).2.2; omega
              · intro i hi hw
                rcases hs91 i hw with q | q
                · exact hdRW i hi q
                · have := hR.o.lt hi; omega
              · intro i hi hw
                rcases hs91 i hw with q | q
                · exact dX i hi q
                · have := (lX i hi).2; omega
            · rw [if_neg hcj]
              have : j = xs.length := by omega
              subst this
              rw [List.take_length] at hW
              exact hJ67 _ _ ⟨rfl, hl, hR, hW, hdW, hdRW, z70⟩
          clear hl hR hW hdW hdRW dX hXv
          rintro ⟨⟨uR, sW, _⟩, _⟩ w97 ⟨huR, hl, hR, hW, hdW, hdRW, z97⟩
          simp only at huR hW hdW hdRW
          subst huR
          dsimp only
          have hOl : (outW L1 v xs).length ≤ n := by unfold outW; rw [List.length_map]; exact hXl
          clear lX l65 fX hXl
          generalize outW L1 v xs = O at mO uO hW hOl
          refine Ins_ok hl fun s98 w99 e99 hX fX => ⟨kp_ext e99 (by (intro b hb; simp only [List.mem_cons, List.not_mem_nil, or_false] at hb; omega)), ?_⟩
          have z99 := e99.size
          have hXl := selL_len (fun u => hasF L1 u v) n
          have hXv := hX.view
          have l98 := hXv.len
          have dX : Dj s98.blk sW.blk := fun i h1 h2 => by have := fX i h1; have := hW.o.lt h2; omega
          have lX : ∀ i, s98.blk i → w97.heap.size ≤ i ∧ i < w99.heap.size := fun i hi => ⟨fX i hi, hX.lt hi⟩
          have mI := inW_mem hP.u hE1' (v := v)
          unfold insF at mI
          have uI := @inW_uq L1 v (fun u => hasF L1 u v) n
          generalize selL (fun u => hasF L1 u v) n = ys at hXl hXv l98 mI uI
          clear hX
          refine Join.cut (fun (x : (SV × SV × Unit) × Unit) w' => x.1.1 = uR ∧ LeftV w' n tI sL tO inn L1 lost ∧ Acc RI w w15.heap.size w' uR (fi n (up1 (rk0 n r) v k)) ∧ Acc RW w w15.heap.size w' x.1.2.1 (H ++ O ++ inW L1 v ys) ∧ Dj (Lblk tI sL tO) x.1.2.1.blk ∧ Dj uR.blk x.1.2.1.blk ∧ w99.heap.size ≤ w'.heap.size) (fun J100 hJ100 => ?_) ?_
          · refine LoopT.gh (γ := Nat) (fun j (st : Int × (SV × SV × Unit) × Unit) w' => st.1 = j ∧ j ≤ ys.length ∧ st.2.1.1 = uR ∧ LeftV w' n tI sL tO inn L1 lost ∧ Acc RI w w15.heap.size w' uR (fi n (up1 (rk0 n r) v k)) ∧ Acc RW w w15.heap.size w' st.2.1.2.1 (H ++ O ++ inW L1 v (ys.take j)) ∧ Dj (Lblk tI sL tO) st.2.1.2.1.blk ∧ Dj uR.blk st.2.1.2.1.blk ∧
                Dj s98.blk st.2.1.2.1.blk ∧ View RI w' s98 ys ∧ w99.heap.size ≤ w'.heap.size) (fun j => ys.length - j) 0 ⟨rfl, Nat.zero_le _, rfl, hl.ext e99, hR.ext e99, by simpa [inW] using hW.ext e99, hdW, hdRW, dX, hXv, Nat.le_refl _⟩ ?_
            clear hl hR hW hdW hdRW dX hXv
            rintro j ⟨x, ⟨uR, uW, _⟩, _⟩ w103 ⟨hx, hj, huR, hl, hR, hW, hdW, hdRW, dX, hXv, z103⟩ J2 hJ2
            simp only at hx huR hW hdW hdRW dX
            subst hx huR
            dsimp only
            rw [Bool.cond_decide]
            by_cases hcj : (j : Int) < (s98.len : Int)
            · rw [if_pos hcj]
              have hj' : j < ys.length := by omega
              refine int_idx hXv hj' fun _ a0 => ⟨_, a0, ?_⟩
              refine Way_quiet hl ?_
              intro b113 w114 e114 g113 g113' w115 e115 w116 o116 w117 e117
              have z114 := e114.size; have z115 := e115.size; have z116 := o116.size; have z117 := e117.size
              have e103 : Ext w103 w117 := (ext_off (e114.trans e115) o116 g113).trans e117
              refine int_idx (hXv.ext e103) hj' fun _ a0 => ⟨_, a0, ?_⟩
              intro w120 e120
              have z120 := e120.size
              have hl103 : (H ++ O ++ inW L1 v (ys.take j)).length ≤ n * n + n + j := by simp [inW]; omega
              have hW1 := hW.ext (e103.trans e120)
              refine hW1.push' (R := RW) (x := (ys[j], (v : Int), (wayF L1 ys[j] v).1, (wayF L1 ys[j] v).2.1, (wayF L1 ys[j] v).2.2.1)) (by omega) (by omega) fun w123 s124 w125 e123 c125 hs124 hW2 => ?_
              have z123 := e123.size; have z125 := c125.size
              refine ⟨hW.kp ((e103.trans e120).trans e123) c125 (by (intro b hb; simp only [List.mem_cons, List.not_mem_nil, or_false] at hb; omega)), fun w126 e126 w127 o127 w128 e128 => ?_⟩
              have z126 := e126.size; have z127 := o127.size; have z128 := e128.size
              have e123' := (e103.trans e120).trans e123
              have c127 : Chg (fun i => i = b13) w126 w127 := .of_off o127 rfl
              have hR2 := ((((hR.other e123' c125 hdRW hW2.e).ext e126).off o127 (by omega) (by omega)).ext e128)
              have hW3 := ((hW2.ext e126).off o127 (by omega) (by omega)).ext e128
              have hl2 := ((((hl.ext e123').chgL c125 hdW).ext e126).chgL c127 fun i hi e => (hlb i hi).2.1 e).ext e128
              have hX2 : View RI w128 s98 ys := ((((hXv.ext e123').chg c125 dX).ext e126).chg c127 fun i hi e => by have := (lX i hi).1; omega).ext e128
              refine hJ2 (j + 1) _ _ ⟨wsucc (m := 2 ^ 40) (by omega) (by omega), by omega, rfl, hl2, hR2, ?_, ?_, ?_, ?_, hX2, by omega⟩ (by omega)
              · rw [take_snoc' hj', show inW L1 v (ys.take j ++ [ys[j]]) = inW L1 v (ys.take j) ++ [(ys[j], (v : Int), (wayF L1 ys[j] v).1, (wayF L1 ys[j] v).2.1, (wayF L1 ys[j] v).2.2.1)] by unfold inW; rw [List.map_append]; rfl, ← List.append_assoc]
                exact hW3
              · intro i hi hw
                rcases hs124 i hw with q | q
                · exact hdW i hi q
                · have := (hlb i hi).2.2; omega
              · intro i hi hw
                rcases hs124 i hw with q | q
                · exact hdRW i hi q
                · have := hR.o.lt hi; omega
              · intro i hi hw
                rcases hs124 i hw with q | q
                · exact dX i hi q
                · have := (lX i hi).2; omega
            · rw [if_neg hcj]
              have : j = ys.length := by omega
              subst this
              rw [List.take_length] at hW
              exact hJ100 _ _ ⟨rfl, hl, hR, hW, hdW, hdRW, z103⟩
          clear hl hR hW hdW hdRW dX hXv
          rintro ⟨⟨uR, sW, _⟩, _⟩ w130 ⟨huR, hl, hR, hW, hdW, hdRW, z130⟩
          simp only at huR hW hdW hdRW
          subst huR
          dsimp only
          refine Take8_ok hl hv hiv fun vI vL vO lost' w136 e136 hl' fI fL fO tI tL tO => ⟨kp_ext e136 (by (intro b hb; simp only [List.mem_cons, List.not_mem_nil, or_false] at hb; omega)), ?_⟩
          have z136 := e136.size
          intro b137 w138 e138 g137 g137' w139 o139 w140 o140
          have z138 := e138.size; have z139 := o139.size; have z140 := o140.size
          have e139 : Ext w136 w139 := ext_off e138 o139 g137
          have lbN : ∀ i, Lblk vI vL vO i → w130.heap.size ≤ i ∧ i < w136.heap.size := fun i hi => by
            rcases hi with hi | hi | hi
            · exact ⟨fI i hi, tI i hi⟩
            · exact ⟨fL i hi, tL i hi⟩
            · exact ⟨fO i hi, tO i hi⟩
          have c140 : Chg (fun i => i = b10) w139 w140 := .of_off o140 rfl
          refine hJ31 _ _ ⟨rfl, up1 inn v 0, lost', up1 r v k, L1.filter (goneF v), H ++ (O ++ inW L1 v ys), ⟨(hl'.ext e139).chgL c140 fun i hi e => by have := (lbN i hi).1; omega, ?_, ?_, fun i hi => ?_, fun i hi hr => ?_, fun i hi hr => ?_, hdRW, fun u hu => ?_, ?_⟩⟩
          · rw [show fi n (rk0 n (up1 r v k)) = fi n (up1 (rk0 n r) v k) from fi_congr fun j hj => by
              unfold rk0 up1
              by_cases e : j = v
              · rw [if_pos e, if_neg (by omega), if_pos e]
              · rw [if_neg e, if_neg e]]
            exact (hR.ext (e136.trans e139)).off o140 (by omega) (by omega)
          · rw [← List.append_assoc]
            exact (hW.ext (e136.trans e139)).off o140 (by omega) (by omega)
          · have := lbN i hi; exact ⟨by omega, by omega, by omega⟩
          · have := lbN i hi; have := hR.o.lt hr; omega
          · have := lbN i hi; have := hW.o.lt hr; omega
          · unfold up1
            by_cases e : u = v
            · rw [if_pos e, if_pos e]; exact ⟨fun q => by omega, fun q => by omega⟩
            · rw [if_neg e, if_neg e]; exact hin u hu
          · rw [← BB_succ]
            exact hC.step hv hrv hk' (BB_nn k) hneed hP mO mI uO uI (fun y => by rw [List.mem_filter]; unfold goneF; rw [decide_eq_true_iff]) (List.Pairwise.filter _ hP.u)
        · rintro ⟨⟨m, vI, vL, vO, _⟩, ⟨vR, vW, _⟩, _⟩ w142 ⟨hm, hB'⟩
          simp only at hm hB'
          subst hm
          exact hJ1 (k + 1) _ _ ⟨wsucc (m := 2 ^ 40) (by omega) (by omega), by omega, rfl, hB'⟩ (by omega)
      · rw [if_neg hc]
        have : k = n := by omega
        subst this
        exact hJ _ _ ⟨inn, lost, r, L, H, sI, sL, sO, hB⟩
    · rintro ⟨⟨sR, sW, _⟩, _⟩ w144 ⟨inn, lost, r, L, H, vI, vL, vO, hB⟩ w145 o145
      simp only at hB
      have hR := hB.rk.off o145 (by omega) (by omega); have hW := hB.wy.off o145 (by omega) (by omega)
      have hb := BB_le (show n ≤ 12 from hn)
      have hM := hB.c.mapH (by omega) ok.len (by omega)
      refine hK sR sW w145 (fi n r) H hR.e ?_ hW.o (fun i hi => by have := hR.f i hi; have := e15.size; omega) (fun i hi => by have := hW.f i hi; have := e15.size; omega) hB.dRW hM
      rw [show fi n r = fi n (rk0 n r) from fi_congr fun j hj => by unfold rk0; rw [if_neg (hB.c.full hj)]]
      exact hR.o

theorem Of9_ok {s : SV} {K : SV → SV → World → Prop} (h : View RD w s arcs) (ok : OkMap (n : Int) arcs) (hn : n ≤ 12)
    (hK : ∀ sR sW w' rank ways, Ext w w' → Own RI w' sR rank → Own RW w' sW ways → Fsh w sR → Fsh w sW → Dj sR.blk sW.blk → MapH n arcs rank ways → K sR sW w') : sh_postroadref09_Of n s K w := by
  unfold sh_postroadref09_Of
  intro b1 w2 e2 g1 g1' b3 w4 e4 g3 g3'
  have z2 := e2.size; have z4 := e4.size
  have e04 := e2.trans e4
  refine mNew_ok (h.ext e04) ok fun t w9 e9 hT fT => ⟨kp_ext e9 (by (intro b hb; simp only [List.mem_cons, List.not_mem_nil, or_false] at hb; omega)), ?_⟩
  have z9 := e9.size
  intro b10 w11 e11 g10 g10' w12 o12
  have z11 := e11.size; have z12 := o12.size
  have e9' : Ext w9 w12 := ext_off e11 o12 g10
  have e012 := (e04.trans e9).trans e9'
  refine Build_ok (h.ext e012) (hT.ext e9').view ok hn fun sR sW w15 rank ways e15 hR hW fR fW d hM => ⟨kp_ext e15 (by (intro b hb; simp only [List.mem_cons, List.not_mem_nil, or_false] at hb; omega)), fun w16 o16 => ?_⟩
  have nR : ¬ sR.blk b3 := fun hk => by have := fR _ hk; omega
  have nW : ¬ sW.blk b3 := fun hk => by have := fW _ hk; omega
  exact hK sR sW w16 rank ways (ext_off (e012.trans e15) o16 (by omega)) (hR.off o16 nR) (hW.off o16 nW) (fR.ext e012) (fW.ext e012) d hM
end
end Go.Sh

/- HierOfMaps. -/
set_option maxRecDepth 100000
namespace Go.Sh
open Go.RowKit

section
variable {w : World}
theorem Of07_ok {n0 : Int} {s : SV} {as : List Arc} {K : Int → SV → World → Prop} (h : View RD w s as)
    (hk : ∀ n t w' arcs, Ext w w' → 1 ≤ n → n ≤ 12 → OkMap n arcs → arcs.length ≤ 40 → Own RD w' t arcs → Fsh w t → K n t w') : sh_postroadref07_Of n0 s K w := by
  unfold sh_postroadref07_Of
  intro b1 w2 e2 g1 g1'
  have z2 := e2.size
  refine Of_ok (h.ext e2) fun n t w5 arcs e5 h1 h2 ok hl hO hF => ⟨kp_ext e5 (by (intro b hb; simp only [List.mem_cons, List.not_mem_nil, or_false] at hb; omega)), fun w6 o6 => ?_⟩
  exact hk n t w6 arcs (ext_off (e2.trans e5) o6 g1) h1 h2 ok hl (hO.off o6 fun hk => by have := hF _ hk; omega) (hF.ext e2)

end
end Go.Sh

/- GraphTurned. -/
set_option maxRecDepth 100000
namespace Go.Sh
open Go.RowKit

end Go.Sh

/- GraphLoops. -/
set_option maxRecDepth 100000
namespace Go.Sh
open Go.RowKit

end Go.Sh

/- GraphLeast. -/
set_option maxRecDepth 100000
namespace Go.Sh
open Go.RowKit

end Go.Sh

/- How far it is in a map, in plain words; the graph's edges tell the same. -/
set_option maxRecDepth 100000
namespace Go.Sh
open Go.RowKit

/-- How far it is by arcs; below 0: there is no way. -/
noncomputable def dst (arcs : List Arc) (s v : Nat) : Int := by
  classical exact if h : ∃ x, IsD (EA arcs) s v x then h.choose else -1

section
variable {N : Int} {arcs : List Arc}
theorem EA_arc (ok : OkMap N arcs) {u v : Nat} {x : Int} (h : EA arcs u v x) : ∃ k, k < arcs.length ∧ frA arcs k = u ∧ toA arcs k = v ∧ wtA arcs k = x ∧ (u : Int) < N ∧ (v : Int) < N ∧ 0 ≤ x ∧ x ≤ 2147483648 := by
  obtain ⟨k, hk⟩ := h
  have hl := (List.getElem?_eq_some_iff.1 hk).1
  have he := (List.getElem?_eq_some_iff.1 hk).2
  rw [arcA_get hl] at he
  have := ok.at hl
  unfold OkArc at this
  rw [he] at this
  simp only at this
  exact ⟨k, hl, by unfold frA; rw [he]; simp, by unfold toA; rw [he]; simp, by unfold wtA; rw [he], by omega, by omega, by omega, by omega⟩
theorem EA_pos (ok : OkMap N arcs) : ∀ u v x, EA arcs u v x → 0 ≤ x := fun u v x h => by
  obtain ⟨_, _, _, _, _, _, _, h, _⟩ := EA_arc ok h; exact h
theorem dst_is (ok : OkMap N arcs) (s v : Nat) : IsD (EA arcs) s v (dst arcs s v) := by
  have h := IsD.ex (EA_pos ok) s v
  unfold dst
  rw [dif_pos h]; exact h.choose_spec

theorem dst_self (ok : OkMap N arcs) (s : Nat) : dst arcs s s = 0 := IsD.uniq (dst_is ok s s) (IsD.self (EA_pos ok))
end
end Go.Sh

/- No place is farther than all arcs together. -/
set_option maxRecDepth 100000
namespace Go.Sh
open Go.RowKit

end Go.Sh

/- dist's functions. -/
set_option maxRecDepth 100000
namespace Go.Sh
open Go.RowKit

section
variable {CV : CVT} {w : World} {p : Option Addr} {N : Int} {arcs : List Arc} {F : Nat → Prop}

end
end Go.Sh

/- The reference of layer 7, and what its laws lean on. -/
set_option maxRecDepth 100000
namespace Go.Sh
open Go.RowKit

section
variable {CV : CVT} {w : World} {N : Int} {s : SV} {arcs : List Arc}

end
end Go.Sh

/- The reference's table: arc by arc, till nothing is nearer. -/
set_option maxRecDepth 100000
namespace Go.Sh
open Go.RowKit

section
variable {w : World} {N : Int} {s : SV} {arcs : List Arc}

end
end Go.Sh

/- SpaceTop, SpaceWithin, SpaceSteps: of maps. -/
set_option maxRecDepth 100000
namespace Go.Sh
open Go.RowKit

theorem MapH.fit {n : Nat} {arcs : List Arc} {rank : List Int} {ways : List Wy} (h : MapH n arcs rank ways) (hn : n ≤ 12) : FitH rank ways := ⟨h.ok, by rw [h.n]; omega, h.b⟩

section
variable {rank : List Int} {ways : List Wy}
theorem ES_rise (ok : OkH rank ways) {top : Int} {back : Bool} {u v : Nat} {x : Int} (h : ES rank ways top back u v x) : rkA rank (u : Int) < rkA rank (v : Int) := by
  obtain ⟨k, hk, _, _, _, _, h5⟩ := ES_way ok h; omega
theorem wk_len (fit : FitH rank ways) {top : Int} {back : Bool} {u v : Nat} {x : Int} (h : Wk (ES rank ways top back) u v x) : x ≤ (rkA rank (v : Int) - rkA rank (u : Int)) * 1125899906842624 := by
  induction h with
  | nil => omega
  | snoc _ e ih =>
    have h1 := ES_rise fit.ok e
    obtain ⟨k, hk, _, _, h3, _⟩ := ES_way fit.ok e
    have := fit.b _ (List.getElem_mem hk)
    omega
/-- .. is, one way or the other, a walk of the map. -/
theorem wk_map {n : Nat} {arcs : List Arc} (hM : MapH n arcs rank ways) {top : Int} {s v : Nat} {d : Int} : (Wk (ES rank ways top false) s v d → Wk (EA arcs) s v d) ∧ (Wk (ES rank ways top true) s v d → Wk (EA arcs) v s d) := by
  constructor
  · intro h
    refine h.bind fun u v x e => ?_
    obtain ⟨k, hk, k1, k2, k3, _⟩ := ES_way hM.ok e
    exact hM.so u v x ⟨_, List.getElem_mem hk, k1, k2, k3⟩
  · intro h
    refine h.rev.bind fun u v x e => ?_
    obtain ⟨k, hk, k1, k2, k3, _⟩ := ES_way hM.ok e
    exact hM.so u v x ⟨_, List.getElem_mem hk, k2, k1, k3⟩

/-- From a place as high as the top none is reached but itself. -/
theorem cl_alone (fit : FitH rank ways) {s : Nat} (hs : s < rank.length) {t : Int} {back : Bool} (h : ∀ v x, ¬ ES rank ways t back s v x) (v : Nat) : clF rank ways t back s v = if v = s then 0 else -1 := by
  refine (clF_is fit hs v).uniq (isD_by (f := fun v => if v = s then 0 else -1) (by simp) (fun v h => ?_) (fun v => ?_) (fun u v x e h' => ?_) v)
  · by_cases q : v = s
    · subst q; simp only [if_pos]; exact .nil
    · simp only [if_neg q] at h; omega
  · by_cases q : v = s
    · exact .inr (by rw [if_pos q]; decide)
    · exact .inl (if_neg q)
  · by_cases q : u = s
    · subst q; exact absurd e (h v x)
    · simp only [if_neg q] at h'; omega
end

section
variable {CV : CVT} {w : World}

end
end Go.Sh

/- What two lists have in common; Meet, Both. -/
set_option maxRecDepth 100000
namespace Go.Sh
open Go.RowKit

abbrev Rc2 := Int × Int
/-- Strictly rising. -/
def Rz (l : List Rc2) : Prop := l.Pairwise fun a b => a.1 < b.1
/-- The pairs of the same place. -/
def com (xs ys : List Rc2) : List (Rc2 × Rc2) := xs.flatMap fun x => (ys.filter fun y => y.1 == x.1).map fun y => (x, y)
theorem com_nil (ys : List Rc2) : com [] ys = [] := rfl
theorem com_nil' (xs : List Rc2) : com xs [] = [] := by induction xs with | nil => rfl | cons x xs ih => simp [com]
theorem com_cons (x : Rc2) (xs ys : List Rc2) : com (x :: xs) ys = ((ys.filter fun y => y.1 == x.1).map fun y => (x, y)) ++ com xs ys := by simp [com]
theorem com_skip {y : Rc2} {xs ys : List Rc2} (h : ∀ x ∈ xs, y.1 ≠ x.1) : com xs (y :: ys) = com xs ys := by
  induction xs with
  | nil => rfl
  | cons x xs ih =>
    rw [com_cons, com_cons, ih fun z hz => h z (List.mem_cons_of_mem _ hz), List.filter_cons_of_neg (by simpa using h x List.mem_cons_self)]
theorem filter_no {x : Rc2} {ys : List Rc2} (h : ∀ y ∈ ys, y.1 ≠ x.1) : (ys.filter fun y => y.1 == x.1) = [] := by
  rw [List.filter_eq_nil_iff]; intro y hy; simpa using h y hy
theorem com_lt {x y : Rc2} {xs ys : List Rc2} (hy : Rz (y :: ys)) (h : x.1 < y.1) : com (x :: xs) (y :: ys) = com xs (y :: ys) := by
  rw [com_cons, filter_no, List.map_nil, List.nil_append]
  intro z hz
  rcases List.mem_cons.1 hz with rfl | hz
  · omega
  · have := (List.pairwise_cons.1 hy).1 z hz; omega
theorem com_gt {x y : Rc2} {xs ys : List Rc2} (hx : Rz (x :: xs)) (h : x.1 > y.1) : com (x :: xs) (y :: ys) = com (x :: xs) ys := by
  refine com_skip fun z hz => ?_
  rcases List.mem_cons.1 hz with rfl | hz
  · omega
  · have := (List.pairwise_cons.1 hx).1 z hz; omega
theorem com_eq {x y : Rc2} {xs ys : List Rc2} (hx : Rz (x :: xs)) (hy : Rz (y :: ys)) (h : x.1 = y.1) : com (x :: xs) (y :: ys) = (x, y) :: com xs ys := by
  rw [com_cons, List.filter_cons_of_pos (by simpa using h.symm), filter_no, com_skip]
  · rfl
  · intro z hz; have := (List.pairwise_cons.1 hx).1 z hz; omega
  · intro z hz; have := (List.pairwise_cons.1 hy).1 z hz; omega
theorem com_mem {xs ys : List Rc2} {p : Rc2 × Rc2} : p ∈ com xs ys ↔ p.1 ∈ xs ∧ p.2 ∈ ys ∧ p.1.1 = p.2.1 := by
  unfold com
  rw [List.mem_flatMap]
  constructor
  · rintro ⟨x, hx, hp⟩
    obtain ⟨y, hy, rfl⟩ := List.mem_map.1 hp
    rw [List.mem_filter] at hy
    exact ⟨hx, hy.1, (by simpa using hy.2 : y.1 = x.1).symm⟩
  · rintro ⟨h1, h2, h3⟩
    exact ⟨p.1, h1, List.mem_map.2 ⟨p.2, List.mem_filter.2 ⟨h2, by rw [beq_iff_eq]; exact h3.symm⟩, rfl⟩⟩
theorem com_pw {xs ys : List Rc2} (hx : Rz xs) (hy : Rz ys) : (com xs ys).Pairwise fun p q => p.1.1 < q.1.1 := by
  induction xs with
  | nil => exact List.Pairwise.nil
  | cons x xs ih =>
    have hx' := List.pairwise_cons.1 hx
    rw [com_cons, List.pairwise_append]
    refine ⟨?_, ih hx'.2, fun p hp q hq => ?_⟩
    · rw [List.pairwise_map]
      refine (List.Pairwise.filter _ hy).imp_of_mem fun {a b} ha hb hab => ?_
      have h1 : a.1 = x.1 := by simpa using (List.mem_filter.1 ha).2
      have h2 : b.1 = x.1 := by simpa using (List.mem_filter.1 hb).2
      omega
    · obtain ⟨y, _, rfl⟩ := List.mem_map.1 hp
      exact hx'.1 _ (com_mem.1 hq).1

section
variable {w : World}
theorem View.tail1 {s : SV} {x : Rc2} {xs : List Rc2} (h : View RE w s (x :: xs)) (hc : s.len ≤ s.cap) {K : SV → Prop} (hk : ∀ t, View RE w t xs → t.len ≤ t.cap → K t) : semSlice 2 s.a s.len s.cap (some (1 : Int)) none K := by
  have hl := h.len
  simp only [List.length_cons] at hl
  unfold semSlice
  simp only [Option.getD_some, Option.getD_none, Int.toNat_natCast]
  refine ⟨by omega, fun x hx => (by cases hx), by omega, by omega, hk _ ⟨?_, ?_, ?_⟩ (by show s.len - 1 ≤ s.cap - 1; omega)⟩
  · show s.len - (1 : Int).toNat = xs.length
    have : (1 : Int).toNat = 1 := rfl
    omega
  · intro hne p hp
    have h1 : 1 ≤ xs.length := by cases xs with | nil => exact absurd rfl hne | cons _ _ => simp
    have : ¬ s.cap = (1 : Int).toNat := by have : (1 : Int).toNat = 1 := rfl; omega
    simp only [if_neg this] at hp
    obtain ⟨a, ha, rfl⟩ := Option.map_eq_some_iff.1 hp
    have := h.spot (by simp) a ha
    obtain ⟨b, o, sp⟩ := a
    simp only at this; subst this
    rw [addm]
  · intro i y hy
    obtain ⟨p, hp, hcell⟩ := h.at_ (i + 1) y (by simpa using hy)
    have hi := (List.getElem?_eq_some_iff.1 hy).1
    have : ¬ s.cap = (1 : Int).toNat := by have : (1 : Int).toNat = 1 := rfl; omega
    simp only [if_neg this, hp, Option.map_some]
    have hsp := h.spot (by simp) p hp
    obtain ⟨b, o, sp⟩ := p
    simp only at hsp; subst hsp
    refine ⟨_, rfl, fun j v hv => ?_⟩
    have := hcell j v hv
    rw [addm]
    simp only at this ⊢
    rw [← this]
    congr 2
    have e1 : (1 : Int).toNat = 1 := rfl
    have e2 : RE.sz = 2 := rfl
    rw [e1, e2, Nat.add_mul]; omega

/-- The pairs are given out, one by one; I tells what whoever takes them holds, F his blocks. -/
theorem common_ok {W w0 : World} {xs ys : List Rc2} {sa sb : SV} {b1 b2 : Nat} {Y0 : Int → Int → Int → Int → (Bool → World → Prop) → World → Prop} {I : List (Rc2 × Rc2) → (Nat → Prop) → World → Prop} {F0 : Nat → Prop} {K : World → Prop}
    (hx : Rz xs) (hy : Rz ys) (va : View RE W sa xs) (vb : View RE W sb ys) (ca : sa.len ≤ sa.cap) (cb : sb.len ≤ sb.cap) (e0 : Ext W w0) (hB1 : Blk w0 b1 [.slice sa.a sa.len sa.cap]) (hB2 : Blk w0 b2 [.slice sb.a sb.len sb.cap]) (g1 : W.heap.size ≤ b1) (g2 : W.heap.size ≤ b2) (hne : b1 ≠ b2)
    (hlt : ∀ d F w, I d F w → ∀ i, F i → i < w.heap.size) (hch : ∀ d F w w' G, I d F w → Chg G w w' → (∀ i, F i → ¬ G i) → I d F w')
    (hY : ∀ d F w x y r K', I d F w → Ext W w → com xs ys = d ++ (x, y) :: r → (∀ w' F', I (d ++ [(x, y)]) F' w' → Chg F w w' → (∀ i, F' i → F i ∨ w.heap.size ≤ i) → K' true w') → Y0 x.1 x.2 y.1 y.2 K' w)
    (h0 : I [] F0 w0) (hF0 : ∀ i, F0 i → W.heap.size ≤ i ∧ i ≠ b1 ∧ i ≠ b2)
    (hK : ∀ F w', I (com xs ys) F w' → Ext W w' → Chg (fun i => F0 i ∨ i = b1 ∨ i = b2) w0 w' → (∀ i, F i → F0 i ∨ w0.heap.size ≤ i) → K w') : sh_space_common_c1 Y0 ⟨b1, 0, none⟩ ⟨b2, 0, none⟩ K w0 := by
  unfold sh_space_common_c1
  have l1 := blk_lt hB1; have l2 := blk_lt hB2
  refine LoopT.gh (γ := List (Rc2 × Rc2) × List Rc2 × List Rc2 × (Nat → Prop)) (fun g (_ : Unit) w' => ∃ s1 s2, I g.1 g.2.2.2 w' ∧ Ext W w' ∧ Chg (fun i => F0 i ∨ i = b1 ∨ i = b2) w0 w' ∧ (∀ i, g.2.2.2 i → F0 i ∨ w0.heap.size ≤ i) ∧ com xs ys = g.1 ++ com g.2.1 g.2.2.1 ∧ Rz g.2.1 ∧ Rz g.2.2.1 ∧
      View RE W s1 g.2.1 ∧ View RE W s2 g.2.2.1 ∧ s1.len ≤ s1.cap ∧ s2.len ≤ s2.cap ∧ Blk w' b1 [.slice s1.a s1.len s1.cap] ∧ Blk w' b2 [.slice s2.a s2.len s2.cap]) (fun g => g.2.1.length + g.2.2.1.length) ([], xs, ys, F0)
    ⟨sa, sb, h0, e0, .refl _ _, fun i h => .inl h, rfl, hx, hy, va, vb, ca, cb, hB1, hB2⟩ ?_
  rintro ⟨d, xs', ys', F⟩ ⟨⟩ w3 ⟨s1, s2, hI, e3, c3, hF, hcom, rx, ry, v1, v2, k1, k2, hb1, hb2⟩ J1 hJ1
  simp only at hI hF hcom rx ry v1 v2
  have z3 := c3.size
  have hl1 := v1.len; have hl2 := v2.len
  have nF1 : ¬ F b1 := fun h => (hF _ h).elim (fun h => (hF0 _ h).2.1 rfl) fun h => by omega
  have nF2 : ¬ F b2 := fun h => (hF _ h).elim (fun h => (hF0 _ h).2.2 rfl) fun h => by omega
  have done : com xs' ys' = [] → K w3 := fun h => by rw [h, List.append_nil] at hcom; rw [← hcom] at hI; exact hK F w3 hI e3 c3 hF
  refine ⟨s1, by rw [cell_blk hb1]; rfl, ?_⟩
  rw [Bool.cond_decide]
  by_cases h1 : (s1.len : Int) > 0
  case neg =>
    rw [if_neg h1]
    have : xs' = [] := List.length_eq_zero_iff.1 (by omega)
    subst this
    exact done (com_nil _)
  rw [if_pos h1]
  refine ⟨s2, by rw [cell_blk hb2]; rfl, ?_⟩
  rw [Bool.cond_decide]
  by_cases h2 : (s2.len : Int) > 0
  case neg =>
    rw [if_neg h2]
    have : ys' = [] := List.length_eq_zero_iff.1 (by omega)
    subst this
    exact done (com_nil' _)
  rw [if_pos h2]
  obtain ⟨x, xs', rfl⟩ : ∃ x l, xs' = x :: l := List.exists_cons_of_ne_nil fun h => by subst h; simp at hl1; omega
  obtain ⟨y, ys', rfl⟩ : ∃ x l, ys' = x :: l := List.exists_cons_of_ne_nil fun h => by subst h; simp at hl2; omega
  refine ⟨s1, by rw [cell_blk hb1]; rfl, ?_⟩
  refine re_idx (v1.ext e3) (i := 0) (by simp) fun _ a0 a1 => ⟨_, a0, _, a1, ?_⟩
  refine ⟨s2, by rw [cell_blk hb2]; rfl, ?_⟩
  refine View.idx (R := RE) (v2.ext e3) (i := 0) (by omega) (by simp) fun a12 hsp hc12 => ?_
  obtain ⟨pb, po, ps⟩ := a12
  simp only at hsp; subst hsp
  have q0 : w3.cell? ((⟨pb, po, none⟩ : Addr).add 0) = some (.int .i64 y.1) := hc12 0 _ rfl
  have q1 : w3.cell? ((⟨pb, po, none⟩ : Addr).add 1) = some (.int .i64 y.2) := hc12 1 _ rfl
  refine ⟨_, q0, _, q1, ?_⟩
  intro b17 w18 e18 g17 g17' b19 w20 e20 g19 g19' w21 e21 w22 o22
  have z18 := e18.size; have z20 := e20.size; have z21 := e21.size; have z22 := o22.size
  have e22 : Ext w3 w22 := ext_off ((e18.trans e20).trans e21) o22 g17
  refine ⟨⟨_, e22.cell q0, _, e22.cell q1, rfl⟩, ⟨s2, by rw [cell_blk (e22.blkE hb2)]; rfl, rfl⟩, ?_⟩
  intro w23 e23 w24 o24 w25 e25
  have z23 := e23.size; have z24 := o24.size; have z25 := e25.size
  have g19 : w3.heap.size ≤ b19 := by
    rcases g19 with ⟨h, _⟩ | h
    · rcases h with h | h
      · exact h.elim
      · exact h.1
    · omega
  have e325 : Ext w3 w25 := (ext_off (e22.trans e23) o24 g19).trans e25
  have hI25 : I d F w25 := hch _ _ _ _ (fun _ => False) hI (.of_ext e325) fun _ _ h => h
  have bb1 := e325.blkE hb1; have bb2 := e325.blkE hb2
  have e25' := e3.trans e325
  have c25 := c3.trans (.of_ext (F := fun i => F0 i ∨ i = b1 ∨ i = b2) e325) fun _ _ h => h
  have kp : ∀ {w25 w28 : World} {b}, w3.heap.size ≤ w25.heap.size → b < w3.heap.size → b17 < w25.heap.size → b19 < w25.heap.size → Off b w25 w28 → Keeps [b19, b17] w25 w28 := fun {w25 w28 b} _ hb h17 h19 o => by
    refine kp_chg (.of_off (F := fun i => i = b) o rfl) fun i hi => ?_
    simp only [List.mem_cons, List.not_mem_nil, or_false] at hi
    rcases hi with rfl | rfl
    · exact ⟨h19, by omega⟩
    · exact ⟨h17, by omega⟩
  rw [Bool.cond_decide]
  simp only [List.getElem_cons_zero]
  by_cases hlt1 : x.1 < y.1
  · rw [if_pos hlt1]
    refine ⟨s1, by rw [cell_blk bb1]; rfl, ?_⟩
    refine v1.tail1 k1 fun s27 v27 k27 => ?_
    refine stL_blk (b := b1) (o := 0) _ 0 _ _ _ bb1 (by simp) fun w28 o28 hb28 => ?_
    refine ⟨kp (by omega) (by omega) (by omega) (by omega) o28, ?_⟩
    refine hJ1 (d, xs', y :: ys', F) () w28 ⟨s27, s2, hch _ _ _ _ _ hI25 (.of_off (F := fun i => i = b1) o28 rfl) fun i hi e => nF1 (e ▸ hi), ext_off e25' o28 g1, c25.trans (.of_off (F := fun i => i = b1) o28 rfl) fun i _ h => .inr (.inl h), hF, ?_, (List.pairwise_cons.1 rx).2, ry, v27, v2, k27, k2, hb28, bb2.off o28 (Ne.symm hne)⟩ (by simp)
    rw [hcom, com_lt ry hlt1]
  · rw [if_neg hlt1, Bool.cond_decide]
    by_cases hgt1 : x.1 > y.1
    · rw [if_pos hgt1]
      refine ⟨s2, by rw [cell_blk bb2]; rfl, ?_⟩
      refine v2.tail1 k2 fun s30 v30 k30 => ?_
      refine stL_blk (b := b2) (o := 0) _ 0 _ _ _ bb2 (by simp) fun w31 o31 hb31 => ?_
      refine ⟨kp (by omega) (by omega) (by omega) (by omega) o31, ?_⟩
      refine hJ1 (d, x :: xs', ys', F) () w31 ⟨s1, s30, hch _ _ _ _ _ hI25 (.of_off (F := fun i => i = b2) o31 rfl) fun i hi e => nF2 (e ▸ hi), ext_off e25' o31 g2, c25.trans (.of_off (F := fun i => i = b2) o31 rfl) fun i _ h => .inr (.inr h), hF, ?_, rx, (List.pairwise_cons.1 ry).2, v1, v30, k1, k30, bb1.off o31 hne, hb31⟩ (by simp)
      rw [hcom, com_gt rx hgt1]
    · rw [if_neg hgt1]
      have heq : x.1 = y.1 := by omega
      have hc2 := com_eq rx ry heq
      refine hY d F w25 x y (com xs' ys') _ hI25 e25' (by rw [hcom, hc2]) fun w33 F' hI33 c33 hF' => ?_
      have z33 := c33.size
      have lF : ∀ i, F i → i < w3.heap.size := fun i hi => hlt _ _ _ hI i hi
      have nb : ∀ b, w3.heap.size ≤ b → b < w25.heap.size → ¬ F b := fun b h1 _ h => by have := lF b h; omega
      refine ⟨kp_chg c33 fun i hi => ?_, ?_⟩
      · simp only [List.mem_cons, List.not_mem_nil, or_false] at hi
        rcases hi with rfl | rfl
        · exact ⟨by omega, nb _ g19 (by omega)⟩
        · exact ⟨by omega, nb _ g17 (by omega)⟩
      rw [Bool.not_true, cond_false]
      have bb1 := c33.blk bb1 nF1; have bb2 := c33.blk bb2 nF2
      have e33 : Ext W w33 := ext_chg e25' c33 fun i hi => (hF i hi).elim (fun h => (hF0 i h).1) fun h => by have := e0.size; omega
      have c33' := c25.trans c33 fun i hi h => (hF i h).elim .inl fun h' => .inl (by
        exfalso
        omega)
      have nF1' : ¬ F' b1 := fun h => (hF' _ h).elim nF1 fun h => by omega
      have nF2' : ¬ F' b2 := fun h => (hF' _ h).elim nF2 fun h => by omega
      refine ⟨s1, by rw [cell_blk bb1]; rfl, ?_⟩
      refine v1.tail1 k1 fun s35 v35 k35 => ?_
      refine ⟨s2, by rw [cell_blk bb2]; rfl, ?_⟩
      refine v2.tail1 k2 fun s38 v38 k38 => ?_
      intro w39 e39
      have z39 := e39.size
      refine stL_blk (b := b1) (o := 0) _ 0 _ _ _ (e39.blkE bb1) (by simp) fun w40 o40 hb40 => ?_
      have z40 := o40.size
      have bb2 := (e39.blkE bb2).off o40 (Ne.symm hne)
      refine ⟨kp (by omega) (by omega) (by omega) (by omega) o40, ⟨s2, by rw [cell_blk bb2]; rfl, rfl⟩, ?_⟩
      intro w41 e41
      have z41 := e41.size
      refine stL_blk (b := b2) (o := 0) _ 0 _ _ _ (e41.blkE bb2) (by simp) fun w42 o42 hb42 => ?_
      refine ⟨kp (by omega) (by omega) (by omega) (by omega) o42, fun w43 e43 => ?_⟩
      have i39 := hch _ _ _ _ (fun _ => False) hI33 (.of_ext e39) fun _ _ h => h
      have i40 := hch _ _ _ _ _ i39 (.of_off (F := fun i => i = b1) o40 rfl) fun i hi e => nF1' (e ▸ hi)
      have i41 := hch _ _ _ _ (fun _ => False) i40 (.of_ext e41) fun _ _ h => h
      have i42 := hch _ _ _ _ _ i41 (.of_off (F := fun i => i = b2) o42 rfl) fun i hi e => nF2' (e ▸ hi)
      have i43 := hch _ _ _ _ (fun _ => False) i42 (.of_ext e43) fun _ _ h => h
      have e42 : Ext W w42 := ext_off ((ext_off (e33.trans e39) o40 g1).trans e41) o42 g2
      have c39 := c33'.trans (.of_ext (F := fun i => F0 i ∨ i = b1 ∨ i = b2) e39) fun _ _ h => h
      have c40 := c39.trans (.of_off (F := fun i => i = b1) o40 rfl) fun i _ h => .inr (.inl h)
      have c41 := c40.trans (.of_ext (F := fun i => F0 i ∨ i = b1 ∨ i = b2) e41) fun _ _ h => h
      have c42 := c41.trans (.of_off (F := fun i => i = b2) o42 rfl) fun i _ h => .inr (.inr h)
      have c43 := c42.trans (.of_ext (F := fun i => F0 i ∨ i = b1 ∨ i = b2) e43) fun _ _ h => h
      refine hJ1 (d ++ [(x, y)], xs', ys', F') () w43 ⟨s35, s38, i43, e42.trans e43, c43, fun i hi => (hF' i hi).elim (hF i) fun h => by right; omega, ?_, (List.pairwise_cons.1 rx).2, (List.pairwise_cons.1 ry).2, v35, v38, k35, k38, ?_, e43.blkE hb42⟩ (by simp only [List.length_cons]; omega)
      · rw [hcom, hc2]; simp
      · exact e43.blkE ((e41.blkE hb40).off o42 hne)
end
end Go.Sh

/- Meet and Both; their reference. -/
set_option maxRecDepth 100000
namespace Go.Sh
open Go.RowKit

def meetS (s : Int × Int) (p : Rc2 × Rc2) : Int × Int := if s.2 = -1 ∨ IntKind.i64.wrap (p.1.2 + p.2.2) ≤ s.1 then (IntKind.i64.wrap (p.1.2 + p.2.2), p.1.1) else s
def meetD (d : List (Rc2 × Rc2)) : Int × Int := d.foldl meetS (-1, -1)
/-- The least sum, and where. -/
def meetF (xs ys : List Rc2) : Int × Int := meetD (com xs ys)
theorem meetD_snoc (d : List (Rc2 × Rc2)) (p : Rc2 × Rc2) : meetD (d ++ [p]) = meetS (meetD d) p := by unfold meetD; rw [List.foldl_append]; rfl
def bothD (d : List (Rc2 × Rc2)) : List Int := d.map fun p => p.1.1
def bothF (xs ys : List Rc2) : List Int := bothD (com xs ys)
theorem com_len (xs ys : List Rc2) : (com xs ys).length ≤ xs.length * ys.length := by
  induction xs with
  | nil => simp [com]
  | cons x xs ih =>
    rw [com_cons, List.length_append, List.length_map, List.length_cons, Nat.succ_mul]
    have := List.length_filter_le (fun y : Rc2 => y.1 == x.1) ys
    omega
theorem bothF_len (xs ys : List Rc2) : (bothF xs ys).length ≤ xs.length * ys.length := by unfold bothF bothD; rw [List.length_map]; exact com_len xs ys

section
variable {w : World}
theorem Meet_ok {sa sb : SV} {xs ys : List Rc2} {K : Int → Int → World → Prop} (hx : Rz xs) (hy : Rz ys) (va : View RE w sa xs) (vb : View RE w sb ys) (ca : sa.len ≤ sa.cap) (cb : sb.len ≤ sb.cap)
    (hk : ∀ w', Ext w w' → K (meetF xs ys).1 (meetF xs ys).2 w') : sh_space_Meet sa sb K w := by
  unfold sh_space_Meet
  intro b1 w2 e2 g1 g1' b3 w4 e4 g3 g3' w5 o5 w6 o6 b1007 w1008 e1008 g7 g7' b1009 w1010 e1010 g9 g9' hB7 hB9
  have z2 := e2.size; have z4 := e4.size; have z5 := o5.size; have z6 := o6.size; have z8 := e1008.size; have z10 := e1010.size
  refine ⟨kp_ext (e1008.trans e1010) (by (intro b hb; simp only [List.mem_cons, List.not_mem_nil, or_false] at hb; omega)), fun hB1 hB3 D l w1013 e1013 gD hDl hl => ?_⟩
  have z13 := e1013.size
  have e6 : Ext w w6 := ext_off (ext_off (e2.trans e4) o5 g1) o6 (by omega)
  have e13 := (e6.trans e1008).trans (e1010.trans e1013)
  have n13 : b1 ≠ b3 := by omega
  refine common_ok (W := w) (w0 := w1013) (I := fun d F w' => F = (fun i => i = b1 ∨ i = b3 ∨ i = l) ∧ Blk w' b1 [.int .i64 (meetD d).1] ∧ Blk w' b3 [.int .i64 (meetD d).2] ∧ w'.heap[l]? = w1013.heap[l]?) (F0 := fun i => i = b1 ∨ i = b3 ∨ i = l)
    hx hy va vb ca cb e13 (e1013.blkE hB7) (e1013.blkE hB9) (by omega) (by omega) (by omega) ?_ ?_ ?_ ⟨rfl, e1013.blkE hB1, e1013.blkE hB3, rfl⟩ (fun i hi => by omega) ?_
  · rintro d F w' ⟨rfl, h1, h3, hL⟩ i hi
    rcases hi with rfl | rfl | rfl
    · exact blk_lt h1
    · exact blk_lt h3
    · rw [Array.getElem?_eq_getElem hl] at hL
      exact (Array.getElem?_eq_some_iff.1 hL).1
  · rintro d F w' w'' G ⟨rfl, h1, h3, hL⟩ c hG
    have ll : l < w'.heap.size := by
      rw [Array.getElem?_eq_getElem hl] at hL
      exact (Array.getElem?_eq_some_iff.1 hL).1
    exact ⟨rfl, c.blk h1 (hG _ (.inl rfl)), c.blk h3 (hG _ (.inr (.inl rfl))), by rw [c.block l ll (hG _ (.inr (.inr rfl)))]; exact hL⟩
  · rintro d F w1018 x y r K' ⟨rfl, h1, h3, hL⟩ e18 hcom hK'
    have ll : l < w1018.heap.size := by
      rw [Array.getElem?_eq_getElem hl] at hL
      exact (Array.getElem?_eq_some_iff.1 hL).1
    have l1 := blk_lt h1; have l3 := blk_lt h3
    refine ⟨hL, ?_⟩
    intro b1020 w1021 e1021 g20 g20' w1022 o1022 b1023 w1024 e1024 g23 g23' w1025 o1025 w1026 o1026
    have z21 := e1021.size; have z22 := o1022.size; have z24 := e1024.size; have z25 := o1025.size; have z26 := o1026.size
    have e25 : Ext w1018 w1025 := ext_off ((ext_off e1021 o1022 g20).trans e1024) o1025 (by omega)
    have c26 : Chg (fun i => i = b1 ∨ i = b3 ∨ i = l) w1018 w1026 := (Chg.of_ext (F := fun i => i = b1 ∨ i = b3 ∨ i = l) e25).trans (.of_off (F := fun i => i = l) o1026 rfl) fun i _ h => .inr (.inr h)
    have k1 := (e25.blkE h1).off o1026 (show b1 ≠ l by omega)
    have k3 := (e25.blkE h3).off o1026 (show b3 ≠ l by omega)
    have fin : ∀ w', Chg (fun i => i = b1 ∨ i = b3 ∨ i = l) w1018 w' → Blk w' b1 [.int .i64 (meetD (d ++ [(x, y)])).1] → Blk w' b3 [.int .i64 (meetD (d ++ [(x, y)])).2] → ∀ w'', Off l w' w'' → (w''.heap[l]? = w1013.heap[l]? → K' true w'') := fun w' c h1 h3 w'' o hh =>
      hK' w'' _ ⟨rfl, h1.off o (by omega), h3.off o (by omega), hh⟩ (c.trans (.of_off (F := fun i => i = l) o rfl) fun i _ h => .inr (.inr h)) fun i hi => .inl hi
    have write : (meetD (d ++ [(x, y)])) = (IntKind.i64.wrap (x.2 + y.2), x.1) → ∀ w1028, Ext w1026 w1028 → stL w1028 ⟨b1, 0, none⟩ [.int .i64 (IntKind.i64.wrap (x.2 + y.2))] 0 (fun w1029 => Keeps [b1023, b1020, l] w1028 w1029 ∧ ∀ w1030, Ext w1029 w1030 → stL w1030 ⟨b3, 0, none⟩ [.int .i64 x.1] 0 (fun w1031 => Keeps [b1023, b1020, l] w1030 w1031 ∧ ∀ w1032, Ext w1031 w1032 → ∀ w1033, Off l w1032 w1033 → (w1033.heap[l]? = w1013.heap[l]? → K' true w1033))) := fun hm w1028 e28 => by
      have z28 := e28.size
      refine stL_blk (b := b1) (o := 0) _ 0 _ _ _ (e28.blkE k1) (by simp) fun w1029 o29 hb1 => ?_
      have z29 := o29.size
      refine ⟨kp_chg (.of_off (F := fun i => i = b1) o29 rfl) fun i hi => ?_, fun w1030 e30 => ?_⟩
      · simp only [List.mem_cons, List.not_mem_nil, or_false] at hi; omega
      have z30 := e30.size
      refine stL_blk (b := b3) (o := 0) _ 0 _ _ _ (e30.blkE ((e28.blkE k3).off o29 (Ne.symm n13))) (by simp) fun w1031 o31 hb3 => ?_
      have z31 := o31.size
      refine ⟨kp_chg (.of_off (F := fun i => i = b3) o31 rfl) fun i hi => ?_, fun w1032 e32 => ?_⟩
      · simp only [List.mem_cons, List.not_mem_nil, or_false] at hi; omega
      have c28 := c26.trans (.of_ext (F := fun i => i = b1 ∨ i = b3 ∨ i = l) e28) fun _ _ h => h
      have c29 := c28.trans (.of_off (F := fun i => i = b1) o29 rfl) fun i _ h => .inl h
      have c30 := c29.trans (.of_ext (F := fun i => i = b1 ∨ i = b3 ∨ i = l) e30) fun _ _ h => h
      have c31 := c30.trans (.of_off (F := fun i => i = b3) o31 rfl) fun i _ h => .inr (.inl h)
      have c32 := c31.trans (.of_ext (F := fun i => i = b1 ∨ i = b3 ∨ i = l) e32) fun _ _ h => h
      exact fin w1032 c32 (by rw [hm]; exact e32.blkE ((e30.blkE hb1).off o31 n13)) (by rw [hm]; exact e32.blkE hb3)
    have ms := meetD_snoc d (x, y)
    unfold meetS at ms
    simp only at ms
    refine ⟨_, by rw [cell_blk k3]; rfl, ?_⟩
    by_cases hat : (meetD d).2 = -1
    · rw [show ((meetD d).2 == -1) = true by rw [hat]; rfl, cond_true]
      rw [if_pos (.inl hat)] at ms
      exact write ms
    · rw [show ((meetD d).2 == -1) = false by rw [beq_eq_false_iff_ne]; exact hat, cond_false]
      refine ⟨_, by rw [cell_blk k1]; rfl, ?_⟩
      rw [Bool.cond_decide]
      by_cases hle : IntKind.i64.wrap (x.2 + y.2) ≤ (meetD d).1
      · rw [if_pos hle]
        rw [if_pos (.inr hle)] at ms
        exact write ms
      · rw [if_neg hle]
        rw [if_neg (fun q => q.elim hat hle)] at ms
        exact fin w1026 c26 (by rw [ms]; exact k1) (by rw [ms]; exact k3)
  · rintro F w1042 ⟨rfl, h1, h3, hL⟩ e42 c42 _
    refine ⟨kp_chg c42 fun i hi => ?_, .inl ⟨hL, fun w1043 o43 => ?_⟩⟩
    · simp only [List.mem_cons, List.not_mem_nil, or_false] at hi; omega
    have k1 := h1.off o43 (show b1 ≠ l by omega)
    have k3 := h3.off o43 (show b3 ≠ l by omega)
    refine ⟨_, by rw [cell_blk k1]; rfl, _, by rw [cell_blk k3]; rfl, fun w1046 e46 w1047 o47 => ?_⟩
    exact hk w1047 (ext_off ((ext_off e42 o43 (by omega)).trans e46) o47 (by omega))

theorem Both_ok {sa sb : SV} {xs ys : List Rc2} {K : SV → World → Prop} (hx : Rz xs) (hy : Rz ys) (va : View RE w sa xs) (vb : View RE w sb ys) (ca : sa.len ≤ sa.cap) (cb : sb.len ≤ sb.cap) (hn : xs.length * ys.length < 2 ^ 30)
    (hk : ∀ s w', Ext w w' → Own RI w' s (bothF xs ys) → Fsh w s → K s w') : sh_space_Both sa sb K w := by
  unfold sh_space_Both
  have hcl := com_len xs ys
  intro b1 w2 e2 g1 g1' b1003 w1004 e1004 g3 g3' b1005 w1006 e1006 g5 g5' hB3 hB5
  have z2 := e2.size; have z4 := e1004.size; have z6 := e1006.size
  refine ⟨kp_ext (e1004.trans e1006) (by (intro b hb; simp only [List.mem_cons, List.not_mem_nil, or_false] at hb; omega)), fun hB1 D l w1009 e1009 gD hDl hl => ?_⟩
  have z9 := e1009.size
  have e9 := (e2.trans e1004).trans (e1006.trans e1009)
  refine common_ok (W := w) (w0 := w1009) (I := fun d F w' => ∃ s : SV, F = (fun i => i = b1 ∨ i = l ∨ s.blk i) ∧ Blk w' b1 [.slice s.a s.len s.cap] ∧ Own RI w' s (bothD d) ∧ (¬ s.blk b1 ∧ ¬ s.blk l ∧ ¬ s.blk D ∧ ∀ i, s.blk i → w.heap.size ≤ i) ∧ w'.heap[l]? = w1009.heap[l]?) (F0 := fun i => i = b1 ∨ i = l ∨ (⟨none, 0, 0⟩ : SV).blk i)
    hx hy va vb ca cb e9 (e1009.blkE hB3) (e1009.blkE hB5) (by omega) (by omega) (by omega) ?_ ?_ ?_ ⟨⟨none, 0, 0⟩, rfl, e1009.blkE hB1, Own.nil, ⟨fun ⟨_, h, _⟩ => (by cases h), fun ⟨_, h, _⟩ => (by cases h), fun ⟨_, h, _⟩ => (by cases h), fun _ ⟨_, h, _⟩ => (by cases h)⟩, rfl⟩ (fun i hi => ?_) ?_
  · rintro d F w' ⟨s, rfl, h1, hO, _, hL⟩ i hi
    rcases hi with rfl | rfl | hi
    · exact blk_lt h1
    · rw [Array.getElem?_eq_getElem hl] at hL
      exact (Array.getElem?_eq_some_iff.1 hL).1
    · exact hO.lt hi
  · rintro d F w' w'' G ⟨s, rfl, h1, hO, hn, hL⟩ c hG
    have ll : l < w'.heap.size := by
      rw [Array.getElem?_eq_getElem hl] at hL
      exact (Array.getElem?_eq_some_iff.1 hL).1
    exact ⟨s, rfl, c.blk h1 (hG _ (.inl rfl)), hO.chg c fun k hk => hG k (.inr (.inr hk)), hn, by rw [c.block l ll (hG _ (.inr (.inl rfl)))]; exact hL⟩
  · rintro d F w1014 x y r K' ⟨s, rfl, h1, hO, ⟨n1, nl, nD, nW⟩, hL⟩ e14 hcom hK'
    have ll : l < w1014.heap.size := by
      rw [Array.getElem?_eq_getElem hl] at hL
      exact (Array.getElem?_eq_some_iff.1 hL).1
    have l1 := blk_lt h1
    have hdl : (bothD d).length + 1 < 2 ^ 30 := by
      have := congrArg List.length hcom
      simp only [List.length_append, List.length_cons] at this
      unfold bothD; rw [List.length_map]; omega
    refine ⟨hL, ?_⟩
    intro b1016 w1017 e1017 g16 g16' w1018 o1018 w1019 o1019
    have z17 := e1017.size; have z18 := o1018.size; have z19 := o1019.size
    have e18 : Ext w1014 w1018 := ext_off e1017 o1018 g16
    have k1 := (e18.blkE h1).off o1019 (show b1 ≠ l by omega)
    have hO19 := (hO.ext e18).off o1019 nl
    have c19 : Chg (fun i => i = b1 ∨ i = l ∨ s.blk i) w1014 w1019 := (Chg.of_ext (F := fun i => i = b1 ∨ i = l ∨ s.blk i) e18).trans (.of_off (F := fun i => i = l) o1019 rfl) fun i _ h => .inr (.inl h)
    refine ⟨s, by rw [cell_blk k1]; rfl, ?_⟩
    have n16 : ¬ s.blk b1016 := fun h => by have := hO.lt h; omega
    refine push_ok (R := RI) (x := x.1) hO19 (by omega) (by omega) fun w1022 s1023 w1024 e22 c24 hs hO24 => ?_
    have z22 := e22.size; have z24 := c24.size
    refine ⟨kp_chg c24 fun i hi => ?_, ?_⟩
    · simp only [List.mem_cons, List.not_mem_nil, or_false] at hi
      rcases hi with rfl | rfl
      · exact ⟨by omega, n16⟩
      · exact ⟨by omega, nl⟩
    refine stL_blk (b := b1) (o := 0) _ 0 _ _ _ (c24.blk (e22.blkE k1) n1) (by simp) fun w1025 o25 hb1 => ?_
    have z25 := o25.size
    refine ⟨kp_chg (.of_off (F := fun i => i = b1) o25 rfl) fun i hi => ?_, fun w1026 o26 hh => ?_⟩
    · simp only [List.mem_cons, List.not_mem_nil, or_false] at hi; omega
    have n1' : ¬ s1023.blk b1 := fun h => (hs _ h).elim n1 fun h => by omega
    have nl' : ¬ s1023.blk l := fun h => (hs _ h).elim nl fun h => by omega
    have nD' : ¬ s1023.blk D := fun h => (hs _ h).elim nD fun h => by omega
    have c22 := c19.trans (.of_ext (F := fun i => i = b1 ∨ i = l ∨ s.blk i) e22) fun _ _ h => h
    have c24' := c22.trans c24 fun i _ h => .inr (.inr h)
    have c25 := c24'.trans (.of_off (F := fun i => i = b1) o25 rfl) fun i _ h => .inl h
    have c26 := c25.trans (.of_off (F := fun i => i = l) o26 rfl) fun i _ h => .inr (.inl h)
    refine hK' w1026 _ ⟨s1023, rfl, hb1.off o26 (by omega), ?_, ⟨n1', nl', nD', fun i hi => (hs i hi).elim (nW i) fun h => by have := e14.size; omega⟩, hh⟩ c26 fun i hi => ?_
    · rw [show bothD (d ++ [(x, y)]) = bothD d ++ [x.1] by simp [bothD]]
      exact (hO24.off o25 n1').off o26 nl'
    · rcases hi with h | h | h
      · exact .inl (.inl h)
      · exact .inl (.inr (.inl h))
      · rcases hs i h with h | h
        · exact .inl (.inr (.inr h))
        · right; omega
  · rcases hi with h | h | ⟨_, h, _⟩
    · omega
    · omega
    · cases h
  · rintro F w1027 ⟨s, rfl, h1, hO, ⟨n1, nl, nD, nW⟩, hL⟩ e27 c27 _
    refine ⟨kp_chg c27 fun i hi => ?_, .inl ⟨hL, fun w1028 o28 => ?_⟩⟩
    · simp only [List.mem_cons, List.not_mem_nil, or_false] at hi
      subst hi
      refine ⟨by omega, fun h => ?_⟩
      rcases h with (h | h | ⟨_, h, _⟩) | h | h
      · omega
      · omega
      · cases h
      · omega
      · omega
    refine ⟨s, by rw [cell_blk (h1.off o28 (show b1 ≠ l by omega))]; rfl, fun w1030 o30 => ?_⟩
    exact hk s w1030 (ext_off (ext_off e27 o28 (by omega)) o30 (by omega)) ((hO.off o28 nl).off o30 nD) nW

end
end Go.Sh

/- SpaceMeets, SpaceTurned. -/
set_option maxRecDepth 100000
namespace Go.Sh
open Go.RowKit

def sumP (p : Rc2 × Rc2) : Int := IntKind.i64.wrap (p.1.2 + p.2.2)
theorem meet_at {d : List (Rc2 × Rc2)} (h0 : ∀ p ∈ d, 0 ≤ p.1.1) : (d = [] ∧ meetD d = (-1, -1)) ∨ ∃ p ∈ d, meetD d = (sumP p, p.1.1) ∧ ∀ q ∈ d, sumP p ≤ sumP q := by
  suffices h : ∀ n, n ≤ d.length → (n = 0 ∧ meetD (d.take n) = (-1, -1)) ∨ ∃ p ∈ d.take n, meetD (d.take n) = (sumP p, p.1.1) ∧ ∀ q ∈ d.take n, sumP p ≤ sumP q by
    have := h d.length (Nat.le_refl _)
    rw [List.take_length] at this
    exact this.imp (fun ⟨a, b⟩ => ⟨List.length_eq_zero_iff.1 a, b⟩) id
  intro n
  induction n with
  | zero => intro _; exact .inl ⟨rfl, rfl⟩
  | succ n ih =>
    intro hn
    have hn' : n < d.length := by omega
    have e : d.take (n + 1) = d.take n ++ [d[n]] := by rw [List.take_add_one, List.getElem?_eq_getElem hn']; rfl
    right
    rw [e, meetD_snoc]
    unfold meetS
    rcases ih (by omega) with ⟨rfl, h2⟩ | ⟨p, hp, h2, h3⟩
    · rw [h2, if_pos (.inl rfl)]
      refine ⟨d[0], by simp, rfl, fun q hq => ?_⟩
      simp at hq; subst hq; exact Int.le_refl _
    · rw [h2]
      have hp0 := h0 p (List.mem_of_mem_take hp)
      by_cases hle : sumP d[n] ≤ sumP p
      · rw [if_pos (.inr hle)]
        refine ⟨d[n], List.mem_append_right _ (List.mem_singleton.2 rfl), rfl, fun q hq => ?_⟩
        rcases List.mem_append.1 hq with h | h
        · have := h3 q h; omega
        · rw [List.mem_singleton] at h; subst h; exact Int.le_refl _
      · rw [if_neg (fun q => q.elim (fun q => by simp only at q; omega) hle)]
        refine ⟨p, List.mem_append_left _ hp, rfl, fun q hq => ?_⟩
        rcases List.mem_append.1 hq with h | h
        · exact h3 q h
        · rw [List.mem_singleton] at h; subst h; omega

section
variable {CV : CVT} {w : World}
end
end Go.Sh

/- How far it is, by a hierarchy; QueryBy, QueryMeets. -/
set_option maxRecDepth 100000
namespace Go.Sh
open Go.RowKit

theorem Own.cap {α : Type} {R : Rc α} {w : World} {s : SV} {xs : List α} (h : Own R w s xs) : s.len ≤ s.cap := by
  obtain ⟨rest, h1, h2, _⟩ := h; omega

noncomputable def fwdL (rank : List Int) (ways : List Wy) (s : Int) : List Rc2 := rowsL rank.length (clF rank ways rank.length false s) fun _ => true
noncomputable def bckL (rank : List Int) (ways : List Wy) (t : Int) : List Rc2 := rowsL rank.length (clF rank ways rank.length true t) fun _ => true
noncomputable def whereF (rank : List Int) (ways : List Wy) (s t : Int) : Int × Int := meetF (fwdL rank ways s) (bckL rank ways t)

theorem meet_last {d : List (Rc2 × Rc2)} (hp : d.Pairwise fun p q => p.1.1 < q.1.1) (h0 : ∀ p ∈ d, 0 ≤ p.1.1) : (d = [] ∧ meetD d = (-1, -1)) ∨ ∃ p ∈ d, meetD d = (sumP p, p.1.1) ∧ ∀ q ∈ d, sumP p ≤ sumP q ∧ (sumP q = sumP p → q.1.1 ≤ p.1.1) := by
  suffices h : ∀ n, n ≤ d.length → (n = 0 ∧ meetD (d.take n) = (-1, -1)) ∨ ∃ p ∈ d.take n, meetD (d.take n) = (sumP p, p.1.1) ∧ ∀ q ∈ d.take n, sumP p ≤ sumP q ∧ (sumP q = sumP p → q.1.1 ≤ p.1.1) by
    have := h d.length (Nat.le_refl _)
    rw [List.take_length] at this
    exact this.imp (fun ⟨a, b⟩ => ⟨List.length_eq_zero_iff.1 a, b⟩) id
  intro n
  induction n with
  | zero => intro _; exact .inl ⟨rfl, rfl⟩
  | succ n ih =>
    intro hn
    have hn' : n < d.length := by omega
    have e : d.take (n + 1) = d.take n ++ [d[n]] := by rw [List.take_add_one, List.getElem?_eq_getElem hn']; rfl
    have lt : ∀ q ∈ d.take n, q.1.1 < d[n].1.1 := fun q hq => by
      obtain ⟨j, hj, rfl⟩ := List.getElem_of_mem hq
      rw [List.length_take] at hj
      rw [List.getElem_take]
      exact List.pairwise_iff_getElem.1 hp j n (by omega) hn' (by omega)
    right
    rw [e, meetD_snoc]
    unfold meetS
    rcases ih (by omega) with ⟨rfl, h2⟩ | ⟨p, hpm, h2, h3⟩
    · rw [h2, if_pos (.inl rfl)]
      refine ⟨d[0], by simp, rfl, fun q hq => ?_⟩
      simp at hq; subst hq; exact ⟨Int.le_refl _, fun _ => Int.le_refl _⟩
    · rw [h2]
      have hp0 := h0 p (List.mem_of_mem_take hpm)
      by_cases hle : sumP d[n] ≤ sumP p
      · rw [if_pos (.inr hle)]
        refine ⟨d[n], List.mem_append_right _ (List.mem_singleton.2 rfl), rfl, fun q hq => ?_⟩
        rcases List.mem_append.1 hq with h | h
        · have := (h3 q h).1; have := lt q h; exact ⟨by omega, fun _ => by omega⟩
        · rw [List.mem_singleton] at h; subst h; exact ⟨Int.le_refl _, fun _ => Int.le_refl _⟩
      · rw [if_neg (fun q => q.elim (fun q => by simp only at q; omega) hle)]
        refine ⟨p, List.mem_append_left _ hpm, rfl, fun q hq => ?_⟩
        rcases List.mem_append.1 hq with h | h
        · exact h3 q h
        · rw [List.mem_singleton] at h; subst h; exact ⟨by omega, fun _ => by omega⟩

section
variable {CV : CVT} {w : World} {p : Option Addr} {rank : List Int} {ways : List Wy} {F : Nat → Prop}
theorem fwd_rz (s : Int) : Rz (fwdL rank ways s) := rowsL_pw _ _ _
theorem bck_rz (t : Int) : Rz (bckL rank ways t) := rowsL_pw _ _ _
theorem Where_ok (hcv : SpaceCV CV) {s t : Int} {K : Int → Int → World → Prop} (hH : HierA w p rank ways F) (fit : FitH rank ways) (hk : ∀ w', Ext w w' → K (whereF rank ways s t).1 (whereF rank ways s t).2 w') : sh_query_Where CV p s t K w := by
  unfold sh_query_Where
  refine Forward_ok hcv hH fit fun s1 w2 e2 h1 _ => ?_
  refine Back_ok hcv (hH.ext e2) fit fun s3 w4 e4 h3 _ => ?_
  exact Meet_ok (fwd_rz s) (bck_rz t) (h1.ext e4).view h3.view h1.cap h3.cap fun w' e => hk w' ((e2.trans e4).trans e)
theorem Far_ok (hcv : SpaceCV CV) {s t : Int} {K : Int → World → Prop} (hH : HierA w p rank ways F) (fit : FitH rank ways) (hk : ∀ w', Ext w w' → K (whereF rank ways s t).1 w') : sh_query_Far CV p s t K w := by
  unfold sh_query_Far
  exact Where_ok hcv hH fit hk

/-! ### One hierarchy is known -/
def tentR : List Int := [0, 2, 1]
theorem tent_ok : OkH tentR lineW := by
  refine ⟨by decide, by decide, ⟨by decide, by decide⟩, fun i hi => ?_, fun y hy => ?_⟩
  · have : i = 0 ∨ i = 1 := by simp [lineW] at hi; omega
    rcases this with rfl | rfl
    · show OkF 3 [] (0, 1, 2, -1, 0)
      unfold OkF; decide
    · show OkF 3 [(0, 1, 2, -1, 0)] (1, 2, 3, -1, 1)
      unfold OkF; decide
  · simp [lineW] at hy
    rcases hy with rfl | rfl <;> unfold OkW <;> rw [if_pos (by decide)] <;> decide
theorem tent_fit : FitH tentR lineW := ⟨tent_ok, by decide, fun y hy => by
  simp [lineW] at hy
  rcases hy with rfl | rfl <;> decide⟩
theorem tent_e {back : Bool} {u v : Nat} {x : Int} (h : ES tentR lineW 3 back u v x) : (back = false ∧ u = 0 ∧ v = 1 ∧ x = 2) ∨ (back = true ∧ u = 2 ∧ v = 1 ∧ x = 3) := by
  obtain ⟨k, hk, k1, k2, k3, _, k5⟩ := ES_way tent_ok h
  have : k = 0 ∨ k = 1 := by simp [lineW] at hk; omega
  cases back with
  | false =>
    rcases this with rfl | rfl
    · left
      have k1 : (0 : Int) = (u : Int) := k1
      have k2 : (1 : Int) = (v : Int) := k2
      have k3 : (2 : Int) = x := k3
      exact ⟨rfl, by omega, by omega, k3.symm⟩
    · exfalso
      have k1 : (1 : Int) = (u : Int) := k1
      have k2 : (2 : Int) = (v : Int) := k2
      rw [← k1, ← k2] at k5
      exact absurd k5 (by decide)
  | true =>
    rcases this with rfl | rfl
    · exfalso
      have k1 : (1 : Int) = (u : Int) := k1
      have k2 : (0 : Int) = (v : Int) := k2
      rw [← k1, ← k2] at k5
      exact absurd k5 (by decide)
    · right
      have k1 : (2 : Int) = (u : Int) := k1
      have k2 : (1 : Int) = (v : Int) := k2
      have k3 : (3 : Int) = x := k3
      exact ⟨rfl, by omega, by omega, k3.symm⟩
theorem tent_01 : ES tentR lineW 3 false 0 1 2 := ES_of tent_ok (k := 0) (by decide) (u := 0) (v := 1) rfl rfl (by decide) (by decide)
theorem tent_21 : ES tentR lineW 3 true 2 1 3 := ES_of tent_ok (k := 1) (by decide) (u := 2) (v := 1) rfl rfl (by decide) (by decide)
def tf0 (v : Nat) : Int := if v = 0 then 0 else if v = 1 then 2 else -1
def tb2 (v : Nat) : Int := if v = 2 then 0 else if v = 1 then 3 else -1
theorem cl_tf0 (v : Nat) : clF tentR lineW 3 false 0 v = tf0 v := by
  refine (clF_is tent_fit (s := 0) (by decide) v).uniq (isD_by (f := tf0) rfl (fun v h => ?_) (fun v => ?_) (fun u v x e h => ?_) v)
  · unfold tf0 at h ⊢
    split at h
    · subst_vars; exact .nil
    · split at h
      · subst_vars; exact .edge tent_01
      · omega
  · unfold tf0
    split
    · exact .inr (by decide)
    · split
      · exact .inr (by decide)
      · exact .inl rfl
  · rcases tent_e e with ⟨_, rfl, rfl, rfl⟩ | ⟨q, _⟩
    · exact ⟨by decide, by decide⟩
    · cases q
theorem cl_tb2 (v : Nat) : clF tentR lineW 3 true 2 v = tb2 v := by
  refine (clF_is tent_fit (s := 2) (by decide) v).uniq (isD_by (f := tb2) rfl (fun v h => ?_) (fun v => ?_) (fun u v x e h => ?_) v)
  · unfold tb2 at h ⊢
    split at h
    · subst_vars; exact .nil
    · split at h
      · subst_vars; exact .edge tent_21
      · omega
  · unfold tb2
    split
    · exact .inr (by decide)
    · split
      · exact .inr (by decide)
      · exact .inl rfl
  · rcases tent_e e with ⟨q, _⟩ | ⟨_, rfl, rfl, rfl⟩
    · cases q
    · exact ⟨by decide, by decide⟩
theorem cl_t0 (v : Nat) : clF tentR lineW 3 true 0 v = if v = 0 then 0 else -1 := cl_alone tent_fit (s := 0) (by decide) (fun v x e => by
  rcases tent_e e with ⟨q, _⟩ | ⟨_, q, _⟩
  · cases q
  · omega) v
theorem cl_t2 (v : Nat) : clF tentR lineW 3 false 2 v = if v = 2 then 0 else -1 := cl_alone tent_fit (s := 2) (by decide) (fun v x e => by
  rcases tent_e e with ⟨_, q, _⟩ | ⟨q, _⟩
  · omega
  · cases q) v
theorem tent_02 : whereF tentR lineW 0 2 = (5, 1) := by
  unfold whereF fwdL bckL
  rw [show ((tentR.length : Nat) : Int) = 3 from rfl, rowsL_f cl_tf0, rowsL_f cl_tb2, show rowsL tentR.length tf0 (fun _ => true) = [(0, 0), (1, 2)] by decide, show rowsL tentR.length tb2 (fun _ => true) = [(1, 3), (2, 0)] by decide]
  unfold meetF
  rw [show com [(0, 0), (1, 2)] [(1, 3), (2, 0)] = [((1, 2), (1, 3))] by decide]
  unfold meetD meetS
  simp only [List.foldl_cons, List.foldl_nil, true_or, if_pos]
  rw [w64 (by decide) (by decide)]; rfl
theorem tent_20 : whereF tentR lineW 2 0 = (-1, -1) := by
  unfold whereF fwdL bckL
  rw [show ((tentR.length : Nat) : Int) = 3 from rfl, rowsL_f cl_t2, rowsL_f cl_t0, show rowsL tentR.length (fun v => if v = 2 then 0 else -1) (fun _ => true) = [(2, 0)] by decide, show rowsL tentR.length (fun v => if v = 0 then 0 else -1) (fun _ => true) = [(0, 0)] by decide]
  rfl
theorem known12_ok (hcv : SpaceCV CV) {K : Bool → World → Prop} (hk : ∀ w', Ext w w' → K true w') : sh_postroadlaw12_known CV K w := by
  unfold sh_postroadlaw12_known
  intro b1 w2 e2 g1 hB1 b3 w4 e4 g3 hB3
  have hr : View RI w4 ⟨some ⟨b1, 0, none⟩, 3, 3⟩ tentR := View.all (R := RI) (xs := tentR) (e4.blkE hB1)
  have hy : View RW w4 ⟨some ⟨b3, 0, none⟩, 2, 2⟩ lineW := View.all (R := RW) (xs := lineW) hB3
  refine HNew_ok hr hy (by decide) (by decide) (fun _ p w6 F e6 hH _ => ?_) (fun hno => absurd tent_ok hno)
  refine Where_ok hcv (s := 0) (t := 2) hH tent_fit fun w9 e9 => ?_
  rw [tent_02, show ((5 : Int) == 5) = true from rfl, cond_true, show ((1 : Int) == 1) = true from rfl, cond_true]
  refine Far_ok hcv (s := 0) (t := 2) (hH.ext e9) tent_fit fun w11 e11 => ?_
  rw [tent_02, show ((5 : Int) == 5) = true from rfl, cond_true]
  refine Far_ok hcv (s := 2) (t := 0) (hH.ext (e9.trans e11)) tent_fit fun w13 e13 => ?_
  rw [tent_20]
  exact hk w13 (((e2.trans e4).trans (e6.trans e9)).trans (e11.trans e13))

/-! ### As far as the map -/
theorem sum_w (fit : FitH rank ways) {s t : Nat} (hs : s < rank.length) (ht : t < rank.length) {m : Nat} (hm : m < rank.length) (h1 : 0 ≤ clF rank ways rank.length false s m) (h2 : 0 ≤ clF rank ways rank.length true t m) :
    IntKind.i64.wrap (clF rank ways rank.length false s m + clF rank ways rank.length true t m) = clF rank ways rank.length false s m + clF rank ways rank.length true t m := by
  have a := wk_len fit ((clF_is (top := (rank.length : Int)) (back := false) fit hs m).wk h1)
  have b := wk_len fit ((clF_is (top := (rank.length : Int)) (back := true) fit ht m).wk h2)
  have := okR_rk fit.ok hs; have := okR_rk fit.ok ht; have := okR_rk fit.ok hm
  have := fit.n
  exact w64 (by omega) (by omega)
theorem far_dst {n : Nat} {arcs : List Arc} (ok : OkMap (n : Int) arcs) (hM : MapH n arcs rank ways) (hn : n ≤ 12) {s t : Nat} (hs : s < n) (ht : t < n) : (whereF rank ways s t).1 = dst arcs s t := by
  have fit := hM.fit hn
  have hrn := hM.n
  have hs' : s < rank.length := by omega
  have ht' : t < rank.length := by omega
  have cf := fun m => clF_is (top := (rank.length : Int)) (back := false) fit hs' m
  have cb := fun m => clF_is (top := (rank.length : Int)) (back := true) fit ht' m
  refine IsD.uniq ?_ (dst_is ok s t)
  have mem : ∀ pq, pq ∈ com (fwdL rank ways s) (bckL rank ways t) ↔ ∃ m : Nat, m < rank.length ∧ 0 ≤ clF rank ways rank.length false s m ∧ 0 ≤ clF rank ways rank.length true t m ∧ pq = (((m : Int), clF rank ways rank.length false s m), ((m : Int), clF rank ways rank.length true t m)) := fun pq => by
    rw [com_mem]
    unfold fwdL bckL
    rw [rowsL_mem, rowsL_mem]
    constructor
    · rintro ⟨⟨a, a1, a2, _, a3⟩, ⟨b, b1, b2, _, b3⟩, h⟩
      rw [a3, b3] at h
      have : a = b := by simp only at h; omega
      subst this
      exact ⟨a, a1, a2, b2, Prod.ext a3 b3⟩
    · rintro ⟨m, m1, m2, m3, rfl⟩
      exact ⟨⟨m, m1, m2, rfl, rfl⟩, ⟨m, m1, m3, rfl, rfl⟩, rfl⟩
  have full : ∀ d, Wk (EA arcs) s t d → ∃ m : Nat, m < rank.length ∧ 0 ≤ clF rank ways rank.length false s m ∧ 0 ≤ clF rank ways rank.length true t m ∧ clF rank ways rank.length false s m + clF rank ways rank.length true t m ≤ d := fun d hd => by
    obtain ⟨m, x, z, w1, w2, hle⟩ := hM.co s t d hs ht hd
    have e1 : Wk (ES rank ways rank.length false) s m x := w1.mono fun u v q ⟨⟨y, hy, y1, y2, y3⟩, hlt⟩ => by
      obtain ⟨k, hk, rfl⟩ := List.getElem_of_mem hy
      have hf := hM.ok.f k hk; unfold OkF at hf
      rw [← y3]
      exact ES_of hM.ok hk y1 y2 (okR_rk hM.ok (show u < rank.length by omega)).2 hlt
    have e2 : Wk (ES rank ways rank.length true) t m z := w2.rev.mono fun u v q ⟨⟨y, hy, y1, y2, y3⟩, hlt⟩ => by
      obtain ⟨k, hk, rfl⟩ := List.getElem_of_mem hy
      have hf := hM.ok.f k hk; unfold OkF at hf
      rw [← y3]
      exact ES_of hM.ok hk (back := true) y2 y1 (okR_rk hM.ok (show u < rank.length by omega)).2 hlt
    have a := (cf m).min e1; have b := (cb m).min e2
    refine ⟨m, ?_, a.1, b.1, by omega⟩
    exact e1.keep (P := fun i => i < rank.length) (fun u v q e h => ES_dom fit u v q e h) hs'
  have h0 : ∀ pq ∈ com (fwdL rank ways s) (bckL rank ways t), 0 ≤ pq.1.1 := fun pq hpq => by
    obtain ⟨m, _, _, _, rfl⟩ := (mem pq).1 hpq
    simp only; omega
  unfold whereF meetF
  rcases meet_at h0 with ⟨he, hm⟩ | ⟨pq, hpq, hm, hmin⟩
  · rw [hm]
    refine .inl ⟨rfl, fun d hd => ?_⟩
    obtain ⟨m, m1, m2, m3, _⟩ := full d hd
    have := (mem _).2 ⟨m, m1, m2, m3, rfl⟩
    rw [he] at this; simp at this
  · rw [hm]
    obtain ⟨m, m1, m2, m3, rfl⟩ := (mem pq).1 hpq
    unfold sumP
    simp only
    rw [sum_w fit hs' ht' m1 m2 m3]
    refine .inr ⟨by omega, ((wk_map hM).1 ((cf m).wk m2)).trans ((wk_map hM).2 ((cb m).wk m3)), fun d hd => ?_⟩
    obtain ⟨m', q1, q2, q3, q4⟩ := full d hd
    have := hmin _ ((mem _).2 ⟨m', q1, q2, q3, rfl⟩)
    unfold sumP at this
    simp only at this
    rw [sum_w fit hs' ht' m1 m2 m3, sum_w fit hs' ht' q1 q2 q3] at this
    omega

theorem far_le {n : Nat} {arcs : List Arc} (hM : MapH n arcs rank ways) (ok : OkMap (n : Int) arcs) (hn : n ≤ 12) {s t : Nat} (hs : s < n) (ht : t < n) : dst arcs s t ≤ 9223372036854775 * 100 := by
  rw [← far_dst ok hM hn hs ht]
  have fit := hM.fit hn
  have hrn := hM.n
  unfold whereF meetF
  rcases meet_at (d := com (fwdL rank ways s) (bckL rank ways t)) (fun pq hpq => by
    have := (com_mem.1 hpq).1
    unfold fwdL at this
    obtain ⟨v, _, _, _, he⟩ := rowsL_mem.1 this
    rw [he]; simp only; omega) with ⟨_, hm⟩ | ⟨pq, hpq, hm, _⟩
  · rw [hm]; simp only; omega
  · rw [hm]
    obtain ⟨c1, c2, c3⟩ := com_mem.1 hpq
    unfold fwdL at c1; unfold bckL at c2
    obtain ⟨a, a1, a2, _, a3⟩ := rowsL_mem.1 c1
    obtain ⟨b, b1, b2, _, b3⟩ := rowsL_mem.1 c2
    rw [a3, b3] at c3
    have : a = b := by simp only at c3; omega
    subst this
    unfold sumP
    rw [a3, b3]
    simp only
    rw [sum_w fit (show s < rank.length by omega) (show t < rank.length by omega) a1 a2 b2]
    have a := wk_len fit ((clF_is (top := (rank.length : Int)) (back := false) fit (show s < rank.length by omega) a).wk a2)
    have b := wk_len fit ((clF_is (top := (rank.length : Int)) (back := true) fit (show t < rank.length by omega) _).wk b2)
    have := okR_rk fit.ok (show s < rank.length by omega); have := okR_rk fit.ok (show t < rank.length by omega); have := okR_rk fit.ok a1
    omega

theorem QueryBy_ok (hcv : SpaceCV CV) {n0 a0 b0 c0 : Int} {s : SV} {as : List Arc} {K : Bool → World → Prop} (h : View RD w s as) (ha : 0 ≤ a0 ∧ a0 < 256) (hb : 0 ≤ b0 ∧ b0 < 256) (hc : 0 ≤ c0 ∧ c0 < 256) (hk : ∀ w', Ext w w' → K true w') : sh_postroadlaw12_QueryBy CV n0 s a0 b0 c0 K w := by
  unfold sh_postroadlaw12_QueryBy
  refine Of07_ok h fun x1 s2 w3 arcs e3 h1 h12 ok _ hA fA => ?_
  intro b4 w5 e5 g4 g4' w6 o6
  have z3 := e3.size; have z5 := e5.size; have z6 := o6.size
  have e36 : Ext w3 w6 := ext_off e5 o6 g4
  obtain ⟨n, rfl⟩ := Int.eq_ofNat_of_zero_le (show 0 ≤ x1 by omega)
  refine Of9_ok (hA.ext e36).view ok (by omega) fun s7 s8 w9 rank ways e9 hR hW fR fW dRW hM => ⟨kp1 e9 (by omega), ?_⟩
  have z9 := e9.size
  have e09 := (e3.trans e36).trans e9
  have hok := hM.ok
  have fit := hM.fit (by omega)
  refine HNew_ok hR.view hW.view (by have := hok.n; omega) (by have := hok.k; omega) (fun _ p w11 F e11 hH hF => ⟨kp1 e11 (by omega), ?_⟩) fun hno => absurd hok hno
  have z11 := e11.size
  have e011 := e09.trans e11
  rw [if_neg (by omega), if_neg (by omega), if_neg (by omega)]
  have place : ∀ {x : Int}, 0 ≤ x ∧ x < 256 → ∃ v : Nat, v < n ∧ (IntKind.i64.wrap x).tmod (n : Int) = (v : Int) := fun {x} hx => by
    have : 0 ≤ (IntKind.i64.wrap x).tmod (n : Int) ∧ (IntKind.i64.wrap x).tmod (n : Int) < n := by
      rw [w64 (by omega) (by omega), Int.tmod_eq_emod_of_nonneg hx.1]
      exact ⟨Int.emod_nonneg _ (by omega), Int.emod_lt_of_pos _ (by omega)⟩
    obtain ⟨v, hv⟩ := Int.eq_ofNat_of_zero_le this.1
    exact ⟨v, by omega, hv⟩
  obtain ⟨u, hu, hue⟩ := place ha
  obtain ⟨v, hv, hve⟩ := place hb
  obtain ⟨x, hx, hxe⟩ := place hc
  rw [hue, hve, hxe]
  have kn : ∀ {wa}, w6.heap.size ≤ wa.heap.size → Ext w wa → sh_postroadlaw12_known CV (fun t w8 => Keeps [b4] wa w8 ∧ K t w8) wa := fun {wa} hz ea =>
    known12_ok hcv fun w6 e6 => ⟨kp1 e6 (by omega), hk w6 (ea.trans e6)⟩
  refine Far_ok hcv hH fit fun w13 e13 => ⟨kp1 e13 (by omega), ?_⟩
  have z13 := e13.size
  refine Far_ok hcv (hH.ext e13) fit fun w15 e15 => ⟨kp1 e15 (by omega), ?_⟩
  have z15 := e15.size
  refine Far_ok hcv (hH.ext (e13.trans e15)) fit fun w17 e17 => ⟨kp1 e17 (by omega), ?_⟩
  have z17 := e17.size
  have e1117 := (e13.trans e15).trans e17
  rw [far_dst ok hM (by omega) hu hv, far_dst ok hM (by omega) hv hx, far_dst ok hM (by omega) hu hx]
  have self : sh_query_Far CV p u u (fun x18 w19 => Keeps [b4] w17 w19 ∧ cond (x18 == (0 : Int)) (sh_postroadlaw12_known CV (fun t20 w21 => Keeps [b4] w19 w21 ∧ K t20 w21) w19) (K false w19)) w17 := by
    refine Far_ok hcv (hH.ext e1117) fit fun w19 e19 => ⟨kp1 e19 (by omega), ?_⟩
    have z19 := e19.size
    rw [far_dst ok hM (by omega) hu hu, dst_self ok, show ((0 : Int) == 0) = true from rfl, cond_true]
    exact kn (by omega) ((e011.trans e1117).trans e19)
  rw [Bool.cond_decide]; split
  · exact self
  rename_i q1
  rw [Bool.cond_decide]; split
  · exact self
  rename_i q2
  have m := (dst_is ok u x).min (((dst_is ok u v).wk (by omega)).trans ((dst_is ok v x).wk (by omega)))
  have l1 := far_le hM ok (by omega) hu hv; have l2 := far_le hM ok (by omega) hv hx
  rw [Bool.cond_decide, if_pos (by omega), w64 (by omega) (by omega), Bool.cond_decide, if_pos (by omega)]
  exact self

theorem QueryMeets_ok (hcv : SpaceCV CV) {sr sy : SV} {s t : Int} {K : Bool → World → Prop} (hr : View RI w sr rank) (hy : View RW w sy ways) (hk : ∀ w', Ext w w' → K true w') : sh_postroadlaw12_QueryMeets CV sr sy s t K w := by
  unfold sh_postroadlaw12_QueryMeets
  intro b1 w2 e2 g1 g1'
  have z2 := e2.size
  have lr := hr.len; have ly := hy.len
  have kn : ∀ {wa}, w2.heap.size ≤ wa.heap.size → Ext w wa → sh_postroadlaw12_known CV (fun t w8 => Keeps [b1] wa w8 ∧ K t w8) wa := fun {wa} hz ea =>
    known12_ok hcv fun w6 e6 => ⟨kp1 e6 (by omega), hk w6 (ea.trans e6)⟩
  refine Fit_ok (hr.ext e2) (hy.ext e2) fun b w4 e4 hb => ⟨kp1 e4 (by omega), ?_⟩
  have z4 := e4.size
  have e04 := e2.trans e4
  cases b with
  | false => rw [Bool.not_false, cond_true]; exact kn (by omega) e04
  | true =>
  rw [Bool.not_true, cond_false]
  obtain ⟨fit, hn, hm⟩ := hb rfl
  refine HNew_ok (hr.ext e04) (hy.ext e04) (by omega) (by omega) (fun _ p w8 F e8 hH _ => ⟨kp1 e8 (by omega), ?_⟩) fun hno => absurd fit.ok hno
  have z8 := e8.size
  have e08 := e04.trans e8
  refine Where_ok hcv hH fit fun w11 e11 => ⟨kp1 e11 (by omega), ?_⟩
  have z11 := e11.size
  refine Forward_ok hcv (hH.ext e11) fit fun s12 w13 e13 h12 _ => ⟨kp1 e13 (by omega), ?_⟩
  have z13 := e13.size
  refine Back_ok hcv (hH.ext (e11.trans e13)) fit fun s14 w15 e15 h14 _ => ⟨kp1 e15 (by omega), ?_⟩
  have z15 := e15.size
  have e015 := e08.trans ((e11.trans e13).trans e15)
  have h12 : Own RE w15 s12 (fwdL rank ways s) := h12.ext e15
  have h14 : Own RE w15 s14 (bckL rank ways t) := h14
  have rx := @fwd_rz rank ways s
  have ry := @bck_rz rank ways t
  have lx : (fwdL rank ways s).length ≤ 14 := by have := rowsL_len rank.length (clF rank ways rank.length false s) fun _ => true; unfold fwdL; omega
  have lz : (bckL rank ways t).length ≤ 14 := by have := rowsL_len rank.length (clF rank ways rank.length true t) fun _ => true; unfold bckL; omega
  have h2 : (fwdL rank ways s).length * (bckL rank ways t).length ≤ 14 * 14 := Nat.mul_le_mul lx lz
  have hcl := com_len (fwdL rank ways s) (bckL rank ways t)
  have h0 : ∀ pq ∈ com (fwdL rank ways s) (bckL rank ways t), 0 ≤ pq.1.1 := fun pq hpq => by
    have := (com_mem.1 hpq).1
    unfold fwdL at this
    obtain ⟨v, _, _, _, he⟩ := rowsL_mem.1 this
    rw [he]; simp only; omega
  have hml := meet_last (com_pw rx ry) h0
  unfold whereF meetF
  generalize hxs : fwdL rank ways s = xs at *
  generalize hys : bckL rank ways t = ys at *
  by_cases hat : (meetD (com xs ys)).2 = -1
  · have hnil : com xs ys = [] := by
      rcases hml with ⟨h, _⟩ | ⟨pq, hpq, h, _⟩
      · exact h
      · rw [h] at hat; have := h0 pq hpq; simp only at hat; omega
    rw [show ((meetD (com xs ys)).2 == -1) = true by rw [beq_iff_eq]; exact hat, cond_true, show ((meetD (com xs ys)).1 == -1) = true by rw [hnil]; rfl, cond_true]
    refine Both_ok rx ry h12.view h14.view h12.cap h14.cap (by omega) fun s16 w17 e17 h16 _ => ⟨kp1 e17 (by omega), ?_⟩
    have z17 := e17.size
    rw [show ((s16.len : Int) == 0) = true by rw [beq_iff_eq, h16.view.len]; unfold bothF; rw [hnil]; rfl, cond_true]
    exact kn (by omega) (e015.trans e17)
  · rw [show ((meetD (com xs ys)).2 == -1) = false by rw [beq_eq_false_iff_ne]; exact hat, cond_false]
    obtain ⟨pq, hpq, hme, hmin⟩ : ∃ p ∈ com xs ys, meetD (com xs ys) = (sumP p, p.1.1) ∧ ∀ q ∈ com xs ys, sumP p ≤ sumP q ∧ (sumP q = sumP p → q.1.1 ≤ p.1.1) := hml.elim (fun ⟨_, h⟩ => absurd (by rw [h]) hat) id
    rw [hme]
    refine Both_ok rx ry h12.view h14.view h12.cap h14.cap (by omega) fun s20 w21 e21 h20 _ => ⟨kp1 e21 (by omega), ?_⟩
    have z21 := e21.size
    have v20 := h20.view
    have l20 := v20.len
    have hbl := bothF_len xs ys
    have v12 := (h12.ext e21).view
    have v14 := (h14.ext e21).view
    refine Join.cut (fun _ w' => Ext w21 w') (fun J hJ => ?_) ?_
    · refine LoopT.gh (γ := Nat) (fun i (st : Int × Unit) w' => st.1 = i ∧ i ≤ (bothF xs ys).length ∧ Ext w21 w') (fun i => (bothF xs ys).length - i) 0 ⟨rfl, Nat.zero_le _, .refl _⟩ ?_
      rintro i ⟨x, _⟩ w25 ⟨hx, hi, e25⟩ J1 hJ1
      simp only at hx; subst hx
      dsimp only
      rw [Bool.cond_decide]
      by_cases hc : (i : Int) < (s20.len : Int)
      · rw [if_pos hc]
        have hi' : i < (bothF xs ys).length := by omega
        obtain ⟨q, hq, hqe⟩ := List.mem_map.1 (show (bothF xs ys)[i] ∈ (com xs ys).map fun p => p.1.1 from List.getElem_mem hi')
        obtain ⟨p1, p2, p3⟩ := com_mem.1 hq
        have f1 := findR_mem rx p1
        have f2 := findR_mem ry p2
        obtain ⟨q1, q2⟩ := hmin q hq
        unfold sumP at q1 q2
        refine Join.cut (fun _ w' => Ext w21 w') (fun J2 hJ2 => ?_) fun _ w43 e43 => hJ1 (i + 1) _ _ ⟨wsucc (m := 2 ^ 40) (by omega) (by omega), by omega, e43⟩ (by omega)
        refine int_idx (v20.ext e25) hi' fun _ a0 => ⟨_, a0, ?_⟩
        refine Find_quiet (v12.ext e25) (by omega) ?_
        refine int_idx (v20.ext e25) hi' fun _ a0 => ⟨_, a0, ?_⟩
        refine Find_quiet (v14.ext e25) (by omega) ?_
        intro w39 e39
        rw [← hqe, f1, p3, f2]
        unfold sumP
        rw [Bool.cond_decide, if_neg (by omega)]
        by_cases heq : IntKind.i64.wrap (q.1.2 + q.2.2) = IntKind.i64.wrap (pq.1.2 + pq.2.2)
        · rw [show (IntKind.i64.wrap (q.1.2 + q.2.2) == IntKind.i64.wrap (pq.1.2 + pq.2.2)) = true by rw [beq_iff_eq]; exact heq, cond_true]
          refine int_idx (v20.ext (e25.trans e39)) hi' fun _ a0 => ⟨_, a0, ?_⟩
          have := q2 heq
          rw [← hqe, Bool.cond_decide, if_neg (by omega)]
          exact hJ2 _ _ (e25.trans e39)
        · rw [show (IntKind.i64.wrap (q.1.2 + q.2.2) == IntKind.i64.wrap (pq.1.2 + pq.2.2)) = false by rw [beq_eq_false_iff_ne]; exact heq, cond_false]
          exact hJ2 _ _ (e25.trans e39)
      · rw [if_neg hc]; exact hJ _ _ e25
    · rintro _ w45 e45
      have z45 := e45.size
      obtain ⟨p1, p2, p3⟩ := com_mem.1 hpq
      refine Find_ok (v12.ext e45) (by omega) fun w47 e47 => ⟨kp1 e47 (by omega), ?_⟩
      have z47 := e47.size
      refine Find_ok (v14.ext (e45.trans e47)) (by omega) fun w49 e49 => ⟨kp1 e49 (by omega), ?_⟩
      have z49 := e49.size
      have f1 := findR_mem rx p1
      have f2 := findR_mem ry p2
      rw [f1, p3, f2]
      unfold sumP
      rw [show (IntKind.i64.wrap (pq.1.2 + pq.2.2) == IntKind.i64.wrap (pq.1.2 + pq.2.2)) = true from beq_self_eq_true _, cond_true]
      exact kn (by omega) ((e015.trans e21).trans ((e45.trans e47).trans e49))
end
end Go.Sh
