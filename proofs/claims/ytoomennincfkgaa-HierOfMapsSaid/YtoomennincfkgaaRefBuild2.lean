/- The reference hierarchy of a map: its walk. -/
import Derived.Test.YtoomennincfkgaaRefBuild
set_option maxRecDepth 100000
namespace Go.Sh
open Go.RowKit

/-- The blocks of what is left. -/
def Lblk (sI sL sO : SV) (k : Nat) : Prop := sI.blk k ∨ sL.blk k ∨ sO.blk k
/-- Ranks as they lie in memory: 0 where none is told. -/
def rk0 (n : Nat) (r : Nat → Int) (v : Nat) : Int := if r v = n then 0 else r v

/-- Between two places taken. -/
structure BldM (w0 : World) (n0 b10 b13 : Nat) (arcs : List Arc) (n : Nat) (w : World) (sI sL sO sR sW : SV) (inn lost r : Nat → Int) (L H : List Wy) (k : Nat) : Prop where
  l : LeftV w n sI sL sO inn L lost
  rk : Acc RI w0 n0 w sR (fi n (rk0 n r))
  wy : Acc RW w0 n0 w sW H
  lb : ∀ i, Lblk sI sL sO i → i ≠ b10 ∧ i ≠ b13 ∧ i < w.heap.size
  dR : Dj (Lblk sI sL sO) sR.blk
  dW : Dj (Lblk sI sL sO) sW.blk
  dRW : Dj sR.blk sW.blk
  inn : ∀ v, v < n → (inn v = 1 ↔ r v = n)
  c : Ctr (EA arcs) arcs n k (BB k) L H r

section
variable {w : World} {n : Nat} {arcs : List Arc}
theorem LeftV.chgL {w w' : World} {n : Nat} {sI sL sO : SV} {inn lost : Nat → Int} {L : List Wy} {F : Nat → Prop} (h : LeftV w n sI sL sO inn L lost) (c : Chg F w w') (d : Dj (Lblk sI sL sO) F) : LeftV w' n sI sL sO inn L lost :=
  h.chg c (fun k hk => d k (.inl hk)) (fun k hk => d k (.inr (.inl hk))) (fun k hk => d k (.inr (.inr hk)))

/-- The ways that stand in are put, one by one. -/
theorem putLoop_ok {w0 w37 : World} {sI sL sO sR sW s36 : SV} {n0 b1 b3 b10 b13 : Nat} {inn lost r : Nat → Int} {L H N : List Wy} {v : Nat} {rl : List Int} {M : Int} {J : (Int × SV × SV × SV × Unit) × Unit → World → Prop}
    (hl : LeftV w37 n sI sL sO inn L lost) (hR : Acc RI w0 n0 w37 sR rl) (hW : Acc RW w0 n0 w37 sW H) (hlb : ∀ i, Lblk sI sL sO i → i ≠ b10 ∧ i ≠ b13 ∧ i < w37.heap.size) (hdR : Dj (Lblk sI sL sO) sR.blk) (hdW : Dj (Lblk sI sL sO) sW.blk)
    (hn : n ≤ 12) (hM : 0 ≤ M) (hq : Uq L) (hE : ∀ y ∈ L, Ends (fun u => u < n ∧ r u = n) M y) (hin : ∀ v, v < n → (inn v = 1 ↔ r v = n)) (hN : View RW w37 s36 N) (hNl : N.length ≤ n * n) (hNo : ∀ y ∈ N, OfN L v y)
    (l1 : b1 < n0) (l3 : b3 < n0) (l10 : b10 < n0) (l13 : b13 < n0) (f10 : w0.heap.size ≤ b10) (fN : ∀ i, s36.blk i → i ≠ b10)
    (hJ : ∀ sL' L1 w', LeftV w' n sI sL' sO inn L1 lost → Acc RI w0 n0 w' sR rl → Acc RW w0 n0 w' sW H → (∀ i, Lblk sI sL' sO i → i ≠ b10 ∧ i ≠ b13 ∧ i < w'.heap.size) → Dj (Lblk sI sL' sO) sR.blk → Dj (Lblk sI sL' sO) sW.blk → Puts L N L1 → J (((n : Int), sI, sL', sO, ()), ()) w') :
    LoopT (Int × (Int × SV × SV × SV × Unit) × Unit) (fun t40 again39 w41 =>
  (cond (decide (t40.1 < (s36.len : Int))) (Idx s36.a s36.len t40.1 5 (fun a42 =>
  (∃ x43 : Int, w41.cell? (a42.add 0) = some (.int .i64 x43) ∧
  (Idx s36.a s36.len t40.1 5 (fun a44 =>
  (∃ x45 : Int, w41.cell? (a44.add 1) = some (.int .i64 x45) ∧
  (Idx s36.a s36.len t40.1 5 (fun a46 =>
  (∃ x47 : Int, w41.cell? ((a46.add 2).add 0) = some (.int .i64 x47) ∧
  (Idx s36.a s36.len t40.1 5 (fun a48 =>
  (∃ x49 : Int, w41.cell? ((a48.add 2).add 1) = some (.int .i64 x49) ∧
  (∀ w55, Ext w41 w55 →
  (sh_postroadref08_Put t40.2.1.1 t40.2.1.2.1 t40.2.1.2.2.1 t40.2.1.2.2.2.1 x43 x45 x47 x49 (fun x50 s51 s52 s53 t54 w56 =>
  (KeepZ (zI (fun _ => False) w41 w55) w55 w56 ∧
  (Keeps [b10, b13, b3, b1] w55 w56 ∧
  (∀ b57 w58, Ext w56 w58 →
  ((zI (fun _ => False) w41 w55) b57 ∨ w56.heap.size ≤ b57) → b57 < w58.heap.size →
  (∀ w59, Ext w58 w59 →
  (∀ w60, Off b57 w59 w60 →
  (∀ w61, Ext w60 w61 →
  (∀ w62, Off b10 w61 w62 →
  (again39 ((IntKind.i64.wrap (t40.1 + (1 : Int))), (x50, s51, s52, s53, ()), ()) w62))))))))) w55)))))))))))))) (J ((t40.2.1.1, t40.2.1.2.1, t40.2.1.2.2.1, t40.2.1.2.2.2.1, ()), ()) w41))) ((0 : Int), ((n : Int), sI, sL, sO, ()), ()) w37 := by
  have hl36 := hN.len
  have n2 : n * n ≤ 12 * 12 := Nat.mul_le_mul hn hn
  refine LoopT.gh (γ := Nat × List Wy) (fun g (st : Int × (Int × SV × SV × SV × Unit) × Unit) w' => st.1 = g.1 ∧ g.1 ≤ N.length ∧ st.2.1.1 = n ∧ st.2.1.2.1 = sI ∧ st.2.1.2.2.2.1 = sO ∧ LeftV w' n sI st.2.1.2.2.1 sO inn g.2 lost ∧ Acc RI w0 n0 w' sR rl ∧ Acc RW w0 n0 w' sW H ∧
      (∀ i, Lblk sI st.2.1.2.2.1 sO i → i ≠ b10 ∧ i ≠ b13 ∧ i < w'.heap.size) ∧ Dj (Lblk sI st.2.1.2.2.1 sO) sR.blk ∧ Dj (Lblk sI st.2.1.2.2.1 sO) sW.blk ∧ View RW w' s36 N ∧ w37.heap.size ≤ w'.heap.size ∧ (∀ i, s36.blk i → i < w37.heap.size → True) ∧ Puts L (N.take g.1) g.2) (fun g => N.length - g.1) (0, L)
    ⟨rfl, Nat.zero_le _, rfl, rfl, rfl, hl, hR, hW, hlb, hdR, hdW, hN, Nat.le_refl _, fun _ _ _ => trivial, Puts.nil hq⟩ ?_
  rintro ⟨j, Lj⟩ ⟨x, ⟨m, tI, tL, tO, _⟩, _⟩ w41 ⟨hx, hj, hm, htI, htO, hl, hR, hW, hlb, hdR, hdW, hN, z41, _, hP⟩ J1 hJ1
  simp only at hx hj hm htI htO hl hR hW hlb hdR hdW hP
  subst hx hm htI htO
  dsimp only
  rw [Bool.cond_decide]
  by_cases hc : (j : Int) < (s36.len : Int)
  · rw [if_pos hc]
    have hj' : j < N.length := by omega
    obtain ⟨p, hp, q, hqm, p1, p2, q1, q2, hw, hm, ha, hne⟩ := hNo N[j] (List.getElem_mem hj')
    have ep := hE p hp; have eq := hE q hqm
    obtain ⟨a, ⟨ha1, ha2⟩, ha3⟩ := ep.1
    obtain ⟨c, ⟨hc1, hc2⟩, hc3⟩ := eq.2.1
    refine way_idx hN hj' fun _ _ a0 _ _ _ _ => ⟨_, a0, ?_⟩
    refine way_idx hN hj' fun _ _ _ a1 _ _ _ => ⟨_, a1, ?_⟩
    refine way_idx hN hj' fun p' hsp _ _ a2 _ _ => ⟨yW N[j], ?_, ?_⟩
    · obtain ⟨b, o, sp⟩ := p'
      simp only at hsp; subst hsp
      rw [addm] at a2 ⊢; rw [addm]; exact a2
    refine way_idx hN hj' fun p' hsp _ _ _ a3 _ => ⟨yM N[j], ?_, ?_⟩
    · obtain ⟨b, o, sp⟩ := p'
      simp only at hsp; subst hsp
      rw [addm] at a3 ⊢; rw [addm, Nat.add_assoc]; exact a3
    intro w55 e55
    have z55 := e55.size
    have hyF : yF N[j] = (a : Int) := by rw [← p1, ha3]
    have hyT : yT N[j] = (c : Int) := by rw [← q2, hc3]
    rw [hyF, hyT]
    have hL1 := hP.ends (fun y hy => hNo y (List.mem_of_mem_take hy)) hE hM
    refine Put8_ok (hl.ext e55) ha1 ((hin a ha1).2 ha2) hc1 ((hin c hc1).2 hc2) (by omega) (by have := ep.2.2.2.1; have := eq.2.2.2.1; omega) (by omega) hP.u fun s52 b54 w56 e56 hcase => ?_
    have z56 := e56.size
    refine ⟨⟨z56, fun b hb => e56.blk (by rcases hb with h | ⟨_, h⟩; exact h.elim; exact h)⟩, kp_ext e56 (by have := hR.z; (intro b hb; simp only [List.mem_cons, List.not_mem_nil, or_false] at hb; omega)), ?_⟩
    intro b57 w58 e58 g57 g57' w59 e59 w60 o60 w61 e61 w62 o62
    have z58 := e58.size; have z59 := e59.size; have z60 := o60.size; have z61 := e61.size; have z62 := o62.size
    have g57'' : w41.heap.size ≤ b57 := by
      rcases g57 with (h | h) | h
      · exact h.elim
      · exact h.1
      · omega
    have e41 : Ext w41 w59 := ((e55.trans e56).trans e58).trans e59
    have e41' : Ext w41 w61 := (ext_off e41 o60 g57'').trans e61
    have c62 : Chg (fun i => i = b10) w61 w62 := .of_off o62 rfl
    have hR' := (hR.ext e41').off o62 f10 l10
    have hW' := (hW.ext e41').off o62 f10 l10
    have hN' : View RW w62 s36 N := (hN.ext e41').chg c62 fun i hi e => fN i hi e
    have hz : w37.heap.size ≤ w62.heap.size := by omega
    rcases hcase with ⟨rfl, z, hz1, hz2, hz3, hz4⟩ | ⟨hO, hF, hmin⟩
    · refine hJ1 (j + 1, Lj) _ _ ⟨wsucc (m := 2 ^ 40) (by omega) (by omega), by simp only; omega, rfl, rfl, rfl, (hl.ext e41').chgL c62 fun i hi e => (hlb i hi).1 e, hR', hW', fun i hi => ⟨(hlb i hi).1, (hlb i hi).2.1, by have := (hlb i hi).2.2; omega⟩, hdR, hdW, hN', hz, fun _ _ _ => trivial, ?_⟩ (by simp only; omega)
      simp only
      rw [take_snoc' hj']
      exact hP.skip hz1 (by rw [hyF, hz2]) (by rw [hyT, hz3]) hz4
    · have hy : ((a : Int), (c : Int), yW N[j], yM N[j], (-1 : Int)) = N[j] := by rw [← hyF, ← hyT, ← ha]; rfl
      have hP' : Puts L (N.take (j + 1)) (Lj.filter (offE (a : Int) (c : Int)) ++ [N[j]]) := by
        have := hP.put (y := N[j]) fun z hz h1 h2 => hmin z hz (by rw [h1, hyF]) (by rw [h2, hyT])
        rw [hyF, hyT, ← take_snoc' hj'] at this
        exact this
      have hL2 := hP'.ends (fun y hy => hNo y (List.mem_of_mem_take hy)) hE hM
      have hlen := hP'.u.len (fun y hy => (hL2 y hy).lt)
      rw [hy] at hO
      have n57 : ∀ i, s52.blk i → i ≠ b57 := fun i hi e => by
        have h1 := hF i hi; have h2 := hO.lt hi
        subst e
        rcases g57 with (h | h) | h
        · exact h.elim
        · omega
        · omega
      have hO' : Own RW w61 s52 (Lj.filter (offE (a : Int) (c : Int)) ++ [N[j]]) := ((((hO.ext e58).ext e59).off o60 fun h => n57 _ h rfl).ext e61)
      have n52 : ∀ i, s52.blk i → w41.heap.size ≤ i := fun i hi => by have := hF i hi; omega
      have lb52 : ∀ i, Lblk tI s52 tO i → i ≠ b10 ∧ i ≠ b13 ∧ i < w62.heap.size := fun i hi => by
        have hrz := hR.z
        rcases hi with hi | hi | hi
        · have := hlb i (.inl hi); exact ⟨this.1, this.2.1, by omega⟩
        · have := n52 i hi; have := hO'.lt hi; exact ⟨by omega, by omega, by omega⟩
        · have := hlb i (.inr (.inr hi)); exact ⟨this.1, this.2.1, by omega⟩
      refine hJ1 (j + 1, Lj.filter (offE (a : Int) (c : Int)) ++ [N[j]]) _ _ ⟨wsucc (m := 2 ^ 40) (by omega) (by omega), by simp only; omega, rfl, rfl, rfl, ?_, hR', hW', lb52, ?_, ?_, hN', hz, fun _ _ _ => trivial, hP'⟩ (by simp only; omega)
      · have hl' := (hl.ext e41').chgL c62 fun i hi e => (hlb i hi).1 e
        exact ⟨hl'.i, (hO'.view).chg c62 fun i hi e => by have := n52 i hi; have := hR.z; omega, hl'.o, by simp only; omega, hl.n40⟩
      · intro i hi hr
        rcases hi with hi | hi | hi
        · exact hdR i (.inl hi) hr
        · have := n52 i hi; have := hR.o.lt hr; omega
        · exact hdR i (.inr (.inr hi)) hr
      · intro i hi hr
        rcases hi with hi | hi | hi
        · exact hdW i (.inl hi) hr
        · have := n52 i hi; have := hW.o.lt hr; omega
        · exact hdW i (.inr (.inr hi)) hr
  · rw [if_neg hc]
    have : j = N.length := by omega
    subst this
    rw [List.take_length] at hP
    exact hJ tL Lj w41 hl hR hW hlb hdR hdW hP

theorem Build_ok {s t : SV} {K : SV → SV → World → Prop} (h : View RD w s arcs) (ht : View RI w t (fi arcs.length (kI arcs))) (ok : OkMap (n : Int) arcs) (hn : n ≤ 12)
    (hK : ∀ sR sW w' rank ways, Ext w w' → Own RI w' sR rank → Own RW w' sW ways → Fsh w sR → Fsh w sW → Dj sR.blk sW.blk → MapH n arcs rank ways → K sR sW w') : sh_postroadref09_Build n s t K w := by
  unfold sh_postroadref09_Build
  intro b1 w2 e2 g1 g1' b3 w4 e4 g3 g3'
  have z2 := e2.size; have z4 := e4.size
  have e04 := e2.trans e4
  refine New8_ok (h.ext e04) (ht.ext e04) ok (by omega) fun sI sL sO w9 L0 e9 hl fI fL fO tI tL tO hq0 hm0 => ⟨kp_ext e9 (by (intro b hb; simp only [List.mem_cons, List.not_mem_nil, or_false] at hb; omega)), ?_⟩
  have z9 := e9.size
  intro b10 w11 e11 g10 g10' w12 o12 b13 w14 e14 g13 g13' w15 o15
  have z11 := e11.size; have z12 := o12.size; have z14 := e14.size; have z15 := o15.size
  have e9' : Ext w9 w15 := ext_off ((ext_off e11 o12 g10).trans e14) o15 (by omega)
  have e15 : Ext w w15 := (e04.trans e9).trans e9'
  have hl := hl.ext e9'
  have hlb0 : ∀ i, Lblk sI sL sO i → i < w9.heap.size := fun i hi => by
    rcases hi with hi | hi | hi
    · exact tI i hi
    · exact tL i hi
    · exact tO i hi
  have big : ∀ k, k ≤ n → (n : Int) * BB k ≤ 1152921504606846976 ∧ 2 * BB k ≤ 1152921504606846976 := fun k hk => by
    have h1 := BB_le (show k ≤ 12 by omega)
    have h2 : (n : Int) * BB k ≤ 12 * BB k := Int.mul_le_mul_of_nonneg_right (by omega) (BB_nn k)
    exact ⟨by omega, by omega⟩
  have n2 : n * n ≤ 12 * 12 := Nat.mul_le_mul hn hn
  refine Join.cut (fun (x : (SV × SV × Unit) × Unit) w' => x.1.2.1 = ⟨none, 0, 0⟩ ∧ Acc RI w w15.heap.size w' x.1.1 (fi n fun _ => 0) ∧ Ext w15 w' ∨ x.1.2.1 = ⟨none, 0, 0⟩ ∧ Acc RI w w15.heap.size w' x.1.1 (fi n fun _ => 0) ∧ LeftV w' n sI sL sO (fun _ => 1) L0 (fun _ => 0)) (fun J hJ => ?_) ?_
  · refine LoopT.gh (γ := Nat) (fun i (st : Int × (SV × SV × Unit) × Unit) w' => st.1 = i ∧ i ≤ n ∧ st.2.1.2.1 = ⟨none, 0, 0⟩ ∧ Acc RI w w15.heap.size w' st.2.1.1 (fi i fun _ => 0) ∧ LeftV w' n sI sL sO (fun _ => 1) L0 (fun _ => 0)) (fun i => n - i) 0
      ⟨rfl, Nat.zero_le _, rfl, Acc.nil e15 e15.size (Nat.le_refl _), hl⟩ ?_
    rintro i ⟨x, ⟨u, u2, _⟩, _⟩ w19 ⟨hx, hi, hu2, hA, hl⟩ J1 hJ1
    simp only at hx hu2 hA
    subst hx hu2
    dsimp only
    have z19 := hA.z
    rw [Bool.cond_decide]
    by_cases hc : (i : Int) < (n : Int)
    · rw [if_pos hc]
      refine hA.push (R := RI) (x := 0) (by rw [fi_len]; omega) (by rw [fi_len]; omega) fun w21 s22 w23 e21 c23 _ hA1 => ?_
      have z21 := e21.size
      refine ⟨hA.kp e21 c23 (by (intro b hb; simp only [List.mem_cons, List.not_mem_nil, or_false] at hb; omega)), fun w24 o24 => ?_⟩
      refine hJ1 (i + 1) _ _ ⟨wsucc (m := 2 ^ 40) (by omega) (by omega), by omega, rfl, by rw [fi_succ]; exact hA1.off o24 (by omega) (by omega), ?_⟩ (by omega)
      refine ((hl.ext e21).chgL c23 fun k hk hu => ?_).chgL (.of_off (F := fun k => k = b13) o24 rfl) fun k hk e => ?_
      · have := hlb0 k hk; have := hA.f k hu; omega
      · have := hlb0 k hk; omega
    · rw [if_neg hc]
      have : i = n := by omega
      subst this
      exact hJ _ _ (.inr ⟨rfl, hA, hl⟩)
  · rintro ⟨⟨sR, u2, _⟩, _⟩ w26 hx
    have hx : u2 = ⟨none, 0, 0⟩ ∧ Acc RI w w15.heap.size w26 sR (fi n fun _ => 0) ∧ LeftV w26 n sI sL sO (fun _ => 1) L0 (fun _ => 0) := hx.elim (fun ⟨a, b, c⟩ => ⟨a, b, hl.ext c⟩) id
    obtain ⟨rfl, hR, hl⟩ := hx
    dsimp only
    have z26 := hR.z
    refine Join.cut (fun (x : (SV × SV × Unit) × Unit) w' => ∃ inn lost r L H sI sL sO, BldM w w15.heap.size b10 b13 arcs n w' sI sL sO x.1.1 x.1.2.1 inn lost r L H n) (fun J hJ => ?_) ?_
    · refine LoopT.gh (γ := Nat) (fun k (st : Int × (Int × SV × SV × SV × Unit) × (SV × SV × Unit) × Unit) w' => st.1 = k ∧ k ≤ n ∧ st.2.1.1 = n ∧ ∃ inn lost r L H, BldM w w15.heap.size b10 b13 arcs n w' st.2.1.2.1 st.2.1.2.2.1 st.2.1.2.2.2.1 st.2.2.1.1 st.2.2.1.2.1 inn lost r L H k) (fun k => n - k) 0
        ⟨rfl, Nat.zero_le _, rfl, _, _, _, _, [], ⟨hl, ?_, Acc.nil hR.e hR.m hR.z, fun i hi => ?_, fun i hi hr => ?_, fun _ _ ⟨_, h, _⟩ => (by cases h), fun _ _ ⟨_, h, _⟩ => (by cases h), fun _ _ => ⟨fun _ => rfl, fun _ => rfl⟩, begin8 ok hq0 hm0⟩⟩ ?_
      · rw [show fi n (rk0 n fun _ => (n : Int)) = fi n (fun _ => 0) from fi_congr fun j _ => by unfold rk0; rw [if_pos rfl]]
        exact hR
      · have := hlb0 i hi; exact ⟨by omega, by omega, by omega⟩
      · have := hlb0 i hi; have := hR.f i hr; omega
      clear hl fI fL fO tI tL tO hlb0 hq0 hm0
      rintro k ⟨x, ⟨m, sI, sL, sO, _⟩, ⟨sR, sW, _⟩, _⟩ w30 ⟨hx, hk, hm, inn, lost, r, L, H, hB⟩ J1 hJ1
      simp only at hx hm hB
      subst hx hm
      dsimp only
      rw [Bool.cond_decide]
      by_cases hc : (k : Int) < (n : Int)
      · rw [if_pos hc]
        have hk' : k < n := by omega
        refine Join.cut (fun (x : (Int × SV × SV × SV × Unit) × (SV × SV × Unit) × Unit) w' => x.1.1 = n ∧ ∃ inn lost r L H, BldM w w15.heap.size b10 b13 arcs n w' x.1.2.1 x.1.2.2.1 x.1.2.2.2.1 x.2.1.1 x.2.1.2.1 inn lost r L H (k + 1)) (fun J31 hJ31 => ?_) ?_
        · obtain ⟨hl, hR, hW, hlb, hdR, hdW, hdRW, hin, hC⟩ := hB
          have z30 := hR.z
          refine Next_ok hl fun x32 w33 e33 hx => ⟨kp_ext e33 (by (intro b hb; simp only [List.mem_cons, List.not_mem_nil, or_false] at hb; omega)), ?_⟩
          have z33 := e33.size
          obtain ⟨v, hv, hiv, rfl⟩ : ∃ v : Nat, v < n ∧ inn v = 1 ∧ x32 = (v : Int) := hx.elim (fun ⟨_, hno⟩ => by
            obtain ⟨v, hv, hrv⟩ := hC.left hk'
            exact absurd ((hin v hv).2 hrv) (hno v hv)) id
          have hrv := (hin v hv).1 hiv
          have hR1 := hR.ext e33
          refine hR1.wr hv fun p put => put w33 (k : Int) _ (.refl _) fun w35 c35 hR2 => ⟨hR1.kp (.refl _) c35 (by (intro b hb; simp only [List.mem_cons, List.not_mem_nil, or_false] at hb; omega)), ?_⟩
          have z35 := c35.size
          have hl2 := (hl.ext e33).chgL c35 hdR
          have hW2 := (hW.ext e33).other (.refl _) c35 hdRW.symm hR2.e
          have hE := hC.le
          have bg := big k (by omega)
          refine Needed_ok hl2 (BB_nn k) bg.1 bg.2 (fun y hy => (hE y hy).lt) hC.lu fun s36 w37 N e37 hN fN hNl hneed => ⟨kp_ext e37 (by (intro b hb; simp only [List.mem_cons, List.not_mem_nil, or_false] at hb; omega)), ?_⟩
          have z37 := e37.size
          have hNo : ∀ y ∈ N, OfN L v y := hneed.a
          refine Join.cut (fun (x : (Int × SV × SV × SV × Unit) × Unit) w' => ∃ L1, x.1.1 = n ∧ x.1.2.1 = sI ∧ x.1.2.2.2.1 = sO ∧ LeftV w' n sI x.1.2.2.1 sO inn L1 lost ∧ Acc RI w w15.heap.size w' sR (fi n (up1 (rk0 n r) v k)) ∧ Acc RW w w15.heap.size w' sW H ∧
              (∀ i, Lblk sI x.1.2.2.1 sO i → i ≠ b10 ∧ i ≠ b13 ∧ i < w'.heap.size) ∧ Dj (Lblk sI x.1.2.2.1 sO) sR.blk ∧ Dj (Lblk sI x.1.2.2.1 sO) sW.blk ∧ Puts L N L1) (fun J38 hJ38 => ?_) ?_
          · exact putLoop_ok (hl2.ext e37) (hR2.ext e37) (hW2.ext e37) (fun i hi => ⟨(hlb i hi).1, (hlb i hi).2.1, by have := (hlb i hi).2.2; omega⟩) hdR hdW hn (BB_nn k) hC.lu hE hin hN.view hNl hNo (by omega) (by omega) (by omega) (by omega) (by omega) (fun i hi => by have := fN i hi; omega)
              fun sL' L1 w' q1 q2 q3 q4 q5 q6 q7 => hJ38 _ _ ⟨L1, rfl, rfl, rfl, q1, q2, q3, q4, q5, q6, q7⟩
          clear hl hl2 hR hR1 hR2 hW hW2 hlb hdR hdW
          rintro ⟨⟨m, tI, sL, tO, _⟩, _⟩ w64 ⟨L1, hm, htI, htO, hl, hR, hW, hlb, hdR, hdW, hP⟩
          simp only at hm htI htO hl hlb hdR hdW
          subst hm htI htO
          dsimp only
          have z64 := hR.z
          have hE1 := hP.ends hNo hE (BB_nn k)
          have hE1' : ∀ y ∈ L1, Ends (fun u => u < n) (2 * BB k) y := fun y hy => (hE1 y hy).lt
          have hHl := hC.hu.len hC.he
          refine Outs_ok hl fun s65 w66 e66 hX fX => ⟨kp_ext e66 (by (intro b hb; simp only [List.mem_cons, List.not_mem_nil, or_false] at hb; omega)), ?_⟩
          have z66 := e66.size
          have hXl := selL_len (fun u => hasF L1 v u) n
          have hXv := hX.view
          have l65 := hXv.len
          have dX : Dj s65.blk sW.blk := fun i h1 h2 => by have := fX i h1; have := hW.o.lt h2; omega
          have lX : ∀ i, s65.blk i → w64.heap.size ≤ i ∧ i < w66.heap.size := fun i hi => ⟨fX i hi, hX.lt hi⟩
          have mO := outW_mem hP.u hE1' (v := v)
          unfold outsF at mO
          have uO := @outW_uq L1 v (fun u => hasF L1 v u) n
          generalize selL (fun u => hasF L1 v u) n = xs at hXl hXv l65 mO uO
          clear hX
          refine Join.cut (fun (x : (SV × SV × Unit) × Unit) w' => x.1.1 = sR ∧ LeftV w' n tI sL tO inn L1 lost ∧ Acc RI w w15.heap.size w' sR (fi n (up1 (rk0 n r) v k)) ∧ Acc RW w w15.heap.size w' x.1.2.1 (H ++ outW L1 v xs) ∧ Dj (Lblk tI sL tO) x.1.2.1.blk ∧ Dj sR.blk x.1.2.1.blk ∧ w66.heap.size ≤ w'.heap.size) (fun J67 hJ67 => ?_) ?_
          · refine LoopT.gh (γ := Nat) (fun j (st : Int × (SV × SV × Unit) × Unit) w' => st.1 = j ∧ j ≤ xs.length ∧ st.2.1.1 = sR ∧ LeftV w' n tI sL tO inn L1 lost ∧ Acc RI w w15.heap.size w' sR (fi n (up1 (rk0 n r) v k)) ∧ Acc RW w w15.heap.size w' st.2.1.2.1 (H ++ outW L1 v (xs.take j)) ∧ Dj (Lblk tI sL tO) st.2.1.2.1.blk ∧ Dj sR.blk st.2.1.2.1.blk ∧
                Dj s65.blk st.2.1.2.1.blk ∧ View RI w' s65 xs ∧ w66.heap.size ≤ w'.heap.size) (fun j => xs.length - j) 0 ⟨rfl, Nat.zero_le _, rfl, hl.ext e66, hR.ext e66, by simpa [outW] using hW.ext e66, hdW, hdRW, dX, hXv, Nat.le_refl _⟩ ?_
            clear hl hR hW hdW hdRW dX hXv
            rintro j ⟨x, ⟨uR, uW, _⟩, _⟩ w70 ⟨hx, hj, huR, hl, hR, hW, hdW, hdRW, dX, hXv, z70⟩ J2 hJ2
            simp only at hx huR hW hdW hdRW dX
            subst hx huR
            dsimp only
            rw [Bool.cond_decide]
            by_cases hcj : (j : Int) < (s65.len : Int)
            · rw [if_pos hcj]
              have hj' : j < xs.length := by omega
              refine int_idx hXv hj' fun _ a0 => ⟨_, a0, ?_⟩
              refine Way_quiet hl ?_
              intro b80 w81 e81 g80 g80' w82 e82 w83 o83 w84 e84
              have z81 := e81.size; have z82 := e82.size; have z83 := o83.size; have z84 := e84.size
              have e70 : Ext w70 w84 := (ext_off (e81.trans e82) o83 g80).trans e84
              refine int_idx (hXv.ext e70) hj' fun _ a0 => ⟨_, a0, ?_⟩
              intro w87 e87
              have z87 := e87.size
              have hl70 : (H ++ outW L1 v (xs.take j)).length ≤ n * n + j := by simp [outW]; omega
              have hW1 := hW.ext (e70.trans e87)
              refine hW1.push' (R := RW) (x := ((v : Int), xs[j], (wayF L1 v xs[j]).1, (wayF L1 v xs[j]).2.1, (wayF L1 v xs[j]).2.2.1)) (by omega) (by omega) fun w90 s91 w92 e90 c92 hs91 hW2 => ?_
              have z90 := e90.size; have z92 := c92.size
              refine ⟨hW.kp ((e70.trans e87).trans e90) c92 (by (intro b hb; simp only [List.mem_cons, List.not_mem_nil, or_false] at hb; omega)), fun w93 e93 w94 o94 w95 e95 => ?_⟩
              have z93 := e93.size; have z94 := o94.size; have z95 := e95.size
              have e90' := (e70.trans e87).trans e90
              have c94 : Chg (fun i => i = b13) w93 w94 := .of_off o94 rfl
              have hR2 := ((((hR.other e90' c92 hdRW hW2.e).ext e93).off o94 (by omega) (by omega)).ext e95)
              have hW3 := ((hW2.ext e93).off o94 (by omega) (by omega)).ext e95
              have hl2 := ((((hl.ext e90').chgL c92 hdW).ext e93).chgL c94 fun i hi e => (hlb i hi).2.1 e).ext e95
              have hX2 : View RI w95 s65 xs := ((((hXv.ext e90').chg c92 dX).ext e93).chg c94 fun i hi e => by have := (lX i hi).1; omega).ext e95
              refine hJ2 (j + 1) _ _ ⟨wsucc (m := 2 ^ 40) (by omega) (by omega), by omega, rfl, hl2, hR2, ?_, ?_, ?_, ?_, hX2, by omega⟩ (by omega)
              · rw [take_snoc' hj', show outW L1 v (xs.take j ++ [xs[j]]) = outW L1 v (xs.take j) ++ [((v : Int), xs[j], (wayF L1 v xs[j]).1, (wayF L1 v xs[j]).2.1, (wayF L1 v xs[j]).2.2.1)] by unfold outW; rw [List.map_append]; rfl, ← List.append_assoc]
                exact hW3
              · intro i hi hw
                rcases hs91 i hw with q | q
                · exact hdW i hi q
                · have := (hlb i hi).2.2; omega
              · intro i hi hw
                rcases hs91 i hw with q | q
                · exact hdRW i hi q
                · have := hR.o.lt hi; omega
              · intro i hi hw
                rcases hs91 i hw with q | q
                · exact dX i hi q
                · have := (lX i hi).2; omega
            · rw [if_neg hcj]
              have : j = xs.length := by omega
              subst this
              rw [List.take_length] at hW
              exact hJ67 _ _ ⟨rfl, hl, hR, hW, hdW, hdRW, z70⟩
          clear hl hR hW hdW hdRW dX hXv
          rintro ⟨⟨uR, sW, _⟩, _⟩ w97 ⟨huR, hl, hR, hW, hdW, hdRW, z97⟩
          simp only at huR hW hdW hdRW
          subst huR
          dsimp only
          have hOl : (outW L1 v xs).length ≤ n := by unfold outW; rw [List.length_map]; exact hXl
          clear lX l65 fX hXl
          generalize outW L1 v xs = O at mO uO hW hOl
          refine Ins_ok hl fun s98 w99 e99 hX fX => ⟨kp_ext e99 (by (intro b hb; simp only [List.mem_cons, List.not_mem_nil, or_false] at hb; omega)), ?_⟩
          have z99 := e99.size
          have hXl := selL_len (fun u => hasF L1 u v) n
          have hXv := hX.view
          have l98 := hXv.len
          have dX : Dj s98.blk sW.blk := fun i h1 h2 => by have := fX i h1; have := hW.o.lt h2; omega
          have lX : ∀ i, s98.blk i → w97.heap.size ≤ i ∧ i < w99.heap.size := fun i hi => ⟨fX i hi, hX.lt hi⟩
          have mI := inW_mem hP.u hE1' (v := v)
          unfold insF at mI
          have uI := @inW_uq L1 v (fun u => hasF L1 u v) n
          generalize selL (fun u => hasF L1 u v) n = ys at hXl hXv l98 mI uI
          clear hX
          refine Join.cut (fun (x : (SV × SV × Unit) × Unit) w' => x.1.1 = uR ∧ LeftV w' n tI sL tO inn L1 lost ∧ Acc RI w w15.heap.size w' uR (fi n (up1 (rk0 n r) v k)) ∧ Acc RW w w15.heap.size w' x.1.2.1 (H ++ O ++ inW L1 v ys) ∧ Dj (Lblk tI sL tO) x.1.2.1.blk ∧ Dj uR.blk x.1.2.1.blk ∧ w99.heap.size ≤ w'.heap.size) (fun J100 hJ100 => ?_) ?_
          · refine LoopT.gh (γ := Nat) (fun j (st : Int × (SV × SV × Unit) × Unit) w' => st.1 = j ∧ j ≤ ys.length ∧ st.2.1.1 = uR ∧ LeftV w' n tI sL tO inn L1 lost ∧ Acc RI w w15.heap.size w' uR (fi n (up1 (rk0 n r) v k)) ∧ Acc RW w w15.heap.size w' st.2.1.2.1 (H ++ O ++ inW L1 v (ys.take j)) ∧ Dj (Lblk tI sL tO) st.2.1.2.1.blk ∧ Dj uR.blk st.2.1.2.1.blk ∧
                Dj s98.blk st.2.1.2.1.blk ∧ View RI w' s98 ys ∧ w99.heap.size ≤ w'.heap.size) (fun j => ys.length - j) 0 ⟨rfl, Nat.zero_le _, rfl, hl.ext e99, hR.ext e99, by simpa [inW] using hW.ext e99, hdW, hdRW, dX, hXv, Nat.le_refl _⟩ ?_
            clear hl hR hW hdW hdRW dX hXv
            rintro j ⟨x, ⟨uR, uW, _⟩, _⟩ w103 ⟨hx, hj, huR, hl, hR, hW, hdW, hdRW, dX, hXv, z103⟩ J2 hJ2
            simp only at hx huR hW hdW hdRW dX
            subst hx huR
            dsimp only
            rw [Bool.cond_decide]
            by_cases hcj : (j : Int) < (s98.len : Int)
            · rw [if_pos hcj]
              have hj' : j < ys.length := by omega
              refine int_idx hXv hj' fun _ a0 => ⟨_, a0, ?_⟩
              refine Way_quiet hl ?_
              intro b113 w114 e114 g113 g113' w115 e115 w116 o116 w117 e117
              have z114 := e114.size; have z115 := e115.size; have z116 := o116.size; have z117 := e117.size
              have e103 : Ext w103 w117 := (ext_off (e114.trans e115) o116 g113).trans e117
              refine int_idx (hXv.ext e103) hj' fun _ a0 => ⟨_, a0, ?_⟩
              intro w120 e120
              have z120 := e120.size
              have hl103 : (H ++ O ++ inW L1 v (ys.take j)).length ≤ n * n + n + j := by simp [inW]; omega
              have hW1 := hW.ext (e103.trans e120)
              refine hW1.push' (R := RW) (x := (ys[j], (v : Int), (wayF L1 ys[j] v).1, (wayF L1 ys[j] v).2.1, (wayF L1 ys[j] v).2.2.1)) (by omega) (by omega) fun w123 s124 w125 e123 c125 hs124 hW2 => ?_
              have z123 := e123.size; have z125 := c125.size
              refine ⟨hW.kp ((e103.trans e120).trans e123) c125 (by (intro b hb; simp only [List.mem_cons, List.not_mem_nil, or_false] at hb; omega)), fun w126 e126 w127 o127 w128 e128 => ?_⟩
              have z126 := e126.size; have z127 := o127.size; have z128 := e128.size
              have e123' := (e103.trans e120).trans e123
              have c127 : Chg (fun i => i = b13) w126 w127 := .of_off o127 rfl
              have hR2 := ((((hR.other e123' c125 hdRW hW2.e).ext e126).off o127 (by omega) (by omega)).ext e128)
              have hW3 := ((hW2.ext e126).off o127 (by omega) (by omega)).ext e128
              have hl2 := ((((hl.ext e123').chgL c125 hdW).ext e126).chgL c127 fun i hi e => (hlb i hi).2.1 e).ext e128
              have hX2 : View RI w128 s98 ys := ((((hXv.ext e123').chg c125 dX).ext e126).chg c127 fun i hi e => by have := (lX i hi).1; omega).ext e128
              refine hJ2 (j + 1) _ _ ⟨wsucc (m := 2 ^ 40) (by omega) (by omega), by omega, rfl, hl2, hR2, ?_, ?_, ?_, ?_, hX2, by omega⟩ (by omega)
              · rw [take_snoc' hj', show inW L1 v (ys.take j ++ [ys[j]]) = inW L1 v (ys.take j) ++ [(ys[j], (v : Int), (wayF L1 ys[j] v).1, (wayF L1 ys[j] v).2.1, (wayF L1 ys[j] v).2.2.1)] by unfold inW; rw [List.map_append]; rfl, ← List.append_assoc]
                exact hW3
              · intro i hi hw
                rcases hs124 i hw with q | q
                · exact hdW i hi q
                · have := (hlb i hi).2.2; omega
              · intro i hi hw
                rcases hs124 i hw with q | q
                · exact hdRW i hi q
                · have := hR.o.lt hi; omega
              · intro i hi hw
                rcases hs124 i hw with q | q
                · exact dX i hi q
                · have := (lX i hi).2; omega
            · rw [if_neg hcj]
              have : j = ys.length := by omega
              subst this
              rw [List.take_length] at hW
              exact hJ100 _ _ ⟨rfl, hl, hR, hW, hdW, hdRW, z103⟩
          clear hl hR hW hdW hdRW dX hXv
          rintro ⟨⟨uR, sW, _⟩, _⟩ w130 ⟨huR, hl, hR, hW, hdW, hdRW, z130⟩
          simp only at huR hW hdW hdRW
          subst huR
          dsimp only
          refine Take8_ok hl hv hiv fun vI vL vO lost' w136 e136 hl' fI fL fO tI tL tO => ⟨kp_ext e136 (by (intro b hb; simp only [List.mem_cons, List.not_mem_nil, or_false] at hb; omega)), ?_⟩
          have z136 := e136.size
          intro b137 w138 e138 g137 g137' w139 o139 w140 o140
          have z138 := e138.size; have z139 := o139.size; have z140 := o140.size
          have e139 : Ext w136 w139 := ext_off e138 o139 g137
          have lbN : ∀ i, Lblk vI vL vO i → w130.heap.size ≤ i ∧ i < w136.heap.size := fun i hi => by
            rcases hi with hi | hi | hi
            · exact ⟨fI i hi, tI i hi⟩
            · exact ⟨fL i hi, tL i hi⟩
            · exact ⟨fO i hi, tO i hi⟩
          have c140 : Chg (fun i => i = b10) w139 w140 := .of_off o140 rfl
          refine hJ31 _ _ ⟨rfl, up1 inn v 0, lost', up1 r v k, L1.filter (goneF v), H ++ (O ++ inW L1 v ys), ⟨(hl'.ext e139).chgL c140 fun i hi e => by have := (lbN i hi).1; omega, ?_, ?_, fun i hi => ?_, fun i hi hr => ?_, fun i hi hr => ?_, hdRW, fun u hu => ?_, ?_⟩⟩
          · rw [show fi n (rk0 n (up1 r v k)) = fi n (up1 (rk0 n r) v k) from fi_congr fun j hj => by
              unfold rk0 up1
              by_cases e : j = v
              · rw [if_pos e, if_neg (by omega), if_pos e]
              · rw [if_neg e, if_neg e]]
            exact (hR.ext (e136.trans e139)).off o140 (by omega) (by omega)
          · rw [← List.append_assoc]
            exact (hW.ext (e136.trans e139)).off o140 (by omega) (by omega)
          · have := lbN i hi; exact ⟨by omega, by omega, by omega⟩
          · have := lbN i hi; have := hR.o.lt hr; omega
          · have := lbN i hi; have := hW.o.lt hr; omega
          · unfold up1
            by_cases e : u = v
            · rw [if_pos e, if_pos e]; exact ⟨fun q => by omega, fun q => by omega⟩
            · rw [if_neg e, if_neg e]; exact hin u hu
          · rw [← BB_succ]
            exact hC.step hv hrv hk' (BB_nn k) hneed hP mO mI uO uI (fun y => by rw [List.mem_filter]; unfold goneF; rw [decide_eq_true_iff]) (List.Pairwise.filter _ hP.u)
        · rintro ⟨⟨m, vI, vL, vO, _⟩, ⟨vR, vW, _⟩, _⟩ w142 ⟨hm, hB'⟩
          simp only at hm hB'
          subst hm
          exact hJ1 (k + 1) _ _ ⟨wsucc (m := 2 ^ 40) (by omega) (by omega), by omega, rfl, hB'⟩ (by omega)
      · rw [if_neg hc]
        have : k = n := by omega
        subst this
        exact hJ _ _ ⟨inn, lost, r, L, H, sI, sL, sO, hB⟩
    · rintro ⟨⟨sR, sW, _⟩, _⟩ w144 ⟨inn, lost, r, L, H, vI, vL, vO, hB⟩ w145 o145
      simp only at hB
      have hR := hB.rk.off o145 (by omega) (by omega); have hW := hB.wy.off o145 (by omega) (by omega)
      have hb := BB_le (show n ≤ 12 from hn)
      have hM := hB.c.mapH (by omega) ok.len (by omega)
      refine hK sR sW w145 (fi n r) H hR.e ?_ hW.o (fun i hi => by have := hR.f i hi; have := e15.size; omega) (fun i hi => by have := hW.f i hi; have := e15.size; omega) hB.dRW hM
      rw [show fi n r = fi n (rk0 n r) from fi_congr fun j hj => by unfold rk0; rw [if_neg (hB.c.full hj)]]
      exact hR.o

theorem Of9_ok {s : SV} {K : SV → SV → World → Prop} (h : View RD w s arcs) (ok : OkMap (n : Int) arcs) (hn : n ≤ 12)
    (hK : ∀ sR sW w' rank ways, Ext w w' → Own RI w' sR rank → Own RW w' sW ways → Fsh w sR → Fsh w sW → Dj sR.blk sW.blk → MapH n arcs rank ways → K sR sW w') : sh_postroadref09_Of n s K w := by
  unfold sh_postroadref09_Of
  intro b1 w2 e2 g1 g1' b3 w4 e4 g3 g3'
  have z2 := e2.size; have z4 := e4.size
  have e04 := e2.trans e4
  refine mNew_ok (h.ext e04) ok fun t w9 e9 hT fT => ⟨kp_ext e9 (by (intro b hb; simp only [List.mem_cons, List.not_mem_nil, or_false] at hb; omega)), ?_⟩
  have z9 := e9.size
  intro b10 w11 e11 g10 g10' w12 o12
  have z11 := e11.size; have z12 := o12.size
  have e9' : Ext w9 w12 := ext_off e11 o12 g10
  have e012 := (e04.trans e9).trans e9'
  refine Build_ok (h.ext e012) (hT.ext e9').view ok hn fun sR sW w15 rank ways e15 hR hW fR fW d hM => ⟨kp_ext e15 (by (intro b hb; simp only [List.mem_cons, List.not_mem_nil, or_false] at hb; omega)), fun w16 o16 => ?_⟩
  have nR : ¬ sR.blk b3 := fun hk => by have := fR _ hk; omega
  have nW : ¬ sW.blk b3 := fun hk => by have := fW _ hk; omega
  exact hK sR sW w16 rank ways (ext_off (e012.trans e15) o16 (by omega)) (hR.off o16 nR) (hW.off o16 nW) (fR.ext e012) (fW.ext e012) d hM
end
end Go.Sh
