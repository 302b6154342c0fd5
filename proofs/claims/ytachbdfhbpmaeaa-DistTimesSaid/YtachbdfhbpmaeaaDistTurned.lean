/- DistTurned, DistTimes. -/
import Derived.Test.YtachbdfhbpmaeaaDistBy
set_option maxRecDepth 100000
namespace Go.Sh
open Go.RowKit

section
variable {CV : CVT} {w : World} {s : SV} {as : List Arc}

theorem turn_turn (arcs : List Arc) : (arcs.map turn).map turn = arcs := by
  rw [List.map_map]
  have : (turn ∘ turn) = id := funext fun a => rfl
  rw [this, List.map_id]
theorem totW_turn : ∀ (l : List Arc), totW (l.map turn) = totW l
  | [] => rfl
  | a :: l => by
    rw [List.map_cons]; unfold totW; rw [totW_turn l]; rfl
theorem totF_ok {N : Int} {arcs : List Arc} (ok : OkMap N arcs) : totF N arcs = totW arcs := by unfold totF; rw [if_pos ok]
theorem fi_len40 {n : Nat} {f : Nat → Int} (h : n ≤ 16777216) : (fi n f).length < 2 ^ 40 := by rw [fi_len]; omega

theorem DistTurned_ok (hcv : DistCV CV) {n0 a : Int} {K : Bool → World → Prop} (h : View RD w s as) (ha : 0 ≤ a ∧ a < 256) (hk : ∀ w', Ext w w' → K true w') : sh_postroadlaw07_DistTurned CV n0 s a K w := by
  unfold sh_postroadlaw07_DistTurned
  refine Of7_ok h fun n t w3 arcs e3 n1 n2 ok hl40 hO fO => ?_
  obtain ⟨u, hu, hu2⟩ := tmod_u ha ⟨n1, n2⟩
  rw [hu]
  intro b4 w5 e5 g4 g4' w6 o6 b7 w8 e8 g7 g7' w9 o9
  have z3 := e3.size; have z5 := e5.size; have z6 := o6.size; have z8 := e8.size; have z9 := o9.size
  have e06 : Ext w w6 := ext_off (e3.trans e5) o6 (by omega)
  have e09 : Ext w w9 := ext_off (e06.trans e8) o9 (by omega)
  have hO6 : Own RD w6 t arcs := (hO.ext e5).off o6 fun hk => by have := hO.lt hk; omega
  have hO9 : Own RD w9 t arcs := (hO6.ext e8).off o9 fun hk => by have := hO.lt hk; omega
  have lt_ := hO9.view.len
  have b4lt : b4 < w9.heap.size := by omega
  have b7lt : b7 < w9.heap.size := by omega
  refine Join.cut (fun (x : (Int × SV × Unit) × Unit) w' => x.1.1 = n ∧ Ext w w' ∧ w9.heap.size ≤ w'.heap.size ∧ Own RD w' t arcs ∧ Own RD w' x.1.2.1 (arcs.map turn) ∧ Fsh w9 x.1.2.1) (fun J hJ => ?_) ?_
  · refine LoopT.gh (γ := Nat) (fun i (st : Int × (Int × SV × Unit) × Unit) w' => st.1 = i ∧ i ≤ arcs.length ∧ st.2.1.1 = n ∧ Ext w w' ∧ w9.heap.size ≤ w'.heap.size ∧ Own RD w' t arcs ∧ Own RD w' st.2.1.2.1 ((arcs.take i).map turn) ∧ Fsh w9 st.2.1.2.1) (fun i => arcs.length - i) 0 ⟨rfl, Nat.zero_le _, rfl, e09, Nat.le_refl _, hO9, Own.nil, fsh_nil⟩ ?_
    rintro i ⟨x, ⟨y, r, _⟩, _⟩ w13 ⟨hx, hi, hy, e13, z13, hO13, hR, fR⟩ J1 hJ1
    simp only at hx hy hR fR; subst hx hy
    dsimp only
    rw [Bool.cond_decide]
    by_cases hc : (i : Int) < (t.len : Int)
    · rw [if_pos hc]
      have hi' : i < arcs.length := by omega
      refine do_idx hO13.view hi' fun _ _ a1 _ => ⟨_, a1, ?_⟩
      refine do_idx hO13.view hi' fun _ a0 _ _ => ⟨_, a0, ?_⟩
      refine do_idx hO13.view hi' fun _ _ _ a2 => ⟨_, a2, ?_⟩
      intro w20 e20
      have z20 := e20.size
      intro b21 w22 e22 g21 hB w23 e23
      have z22 := e22.size; have z23 := e23.size
      have hli : ((arcs.take i).map turn).length = i := by rw [List.length_map, List.length_take]; omega
      refine Own.app (R := RD) (((hR.ext e20).ext e22).ext e23) (View.one (R := RD) (x := turn arcs[i]) (e23.blkE hB)) (by simp only [List.length_cons, List.length_nil]; omega) (by simp only [List.length_cons, List.length_nil]; omega) fun s24 w25 c25 hs24 hO25 => ?_
      have z25 := c25.size
      refine ⟨kc2 c25 (by omega) (fun hk => by have := fR _ hk; omega) (by omega) (fun hk => by have := fR _ hk; omega), ?_⟩
      intro w26 e26 w27 o27 w28 e28
      have z26 := e26.size; have z27 := o27.size; have z28 := e28.size
      have f24 : Fsh w9 s24 := fun k hk => (hs24 k hk).elim (fR k) fun h => by omega
      have e25 : Ext w w25 := ext_chg (((e13.trans e20).trans e22).trans e23) c25 fun k hk => by have := fR k hk; have := e09.size; omega
      have hO25t : Own RD w25 t arcs := (((hO13.ext e20).ext e22).ext e23).chg c25 fun k h1 h2 => by have := fR k h2; have := hO.lt h1; omega
      refine hJ1 (i + 1) _ _ ⟨wsucc (m := 2 ^ 40) (by omega) (by omega), by omega, rfl, (ext_off (e25.trans e26) o27 (by omega)).trans e28, by omega, ((hO25t.ext e26).off o27 fun hk => by have := hO.lt hk; omega).ext e28, ?_, f24⟩ (by omega)
      rw [take_snoc' hi', List.map_append]
      exact ((hO25.ext e26).off o27 fun hk => by have := f24 _ hk; omega).ext e28
    · rw [if_neg hc]
      have : i = arcs.length := by omega
      subst this
      rw [List.take_length] at hR
      exact hJ _ _ ⟨rfl, e13, z13, hO13, hR, fR⟩
  rintro ⟨⟨y, r, _⟩, _⟩ w30 ⟨hy, e30, z30, hO30, hR30, fR⟩
  simp only at hy hR30 fR; subst hy
  dsimp only
  rw [if_neg (by omega)]
  refine GNew_ok hcv.g hO30.view (fun _ p w32 F e32 hG _ => ⟨kp2 e32 (by omega) (by omega), ?_⟩) (fun no => absurd ok no)
  have z32 := e32.size
  refine From_ok hcv hG fun s33 w34 e34 hO33 _ => ⟨kp2 e34 (by omega) (by omega), ?_⟩
  have z34 := e34.size
  have l33 := hO33.view.len
  rw [distL_len ⟨by omega, hu2⟩] at l33
  rw [show ((s33.len : Int) == y) = true by rw [l33, beq_iff_eq]; omega, cond_true]
  intro w36 e36
  have z36 := e36.size
  refine GNew_ok hcv.g (((hR30.ext e32).ext e34).ext e36).view (fun _ p2 w37 F2 e37 hG2 _ => ⟨kp2 e37 (by omega) (by omega), ?_⟩) (fun no => absurd (ok_turn ok) no)
  have z37 := e37.size
  intro w39 e39
  have z39 := e39.size
  refine To_ok hcv (hG2.ext e39) fun s38 w40 e40 hO38 _ => ⟨kp2 e40 (by omega) (by omega), ?_⟩
  have z40 := e40.size
  rw [← toL_turn (ok_turn ok), turn_turn] at hO38
  have hlen : (distL y arcs (u : Int)).length < 2 ^ 40 := by rw [distL_len ⟨by omega, hu2⟩]; omega
  refine sameI_quiet ((((hO33.ext e36).ext e37).ext e39).ext e40).view hO38.view hlen ?_
  rw [cond_true]
  intro w46 e46
  have z46 := e46.size
  have e3046 := (((((e32.trans e34).trans e36).trans e37).trans e39).trans e40).trans e46
  refine Total_ok hcv (hO30.ext e3046).view fun w47 e47 => ⟨kp2 e47 (by omega) (by omega), ?_⟩
  have z47 := e47.size
  intro w49 e49
  have z49 := e49.size
  refine Total_ok hcv (((hR30.ext e3046).ext e47).ext e49).view fun w50 e50 => ⟨kp2 e50 (by omega) (by omega), ?_⟩
  have z50 := e50.size
  rw [totF_ok ok, totF_ok (ok_turn ok), totW_turn, beq_self_eq_true, cond_true]
  intro w52 e52
  have z52 := e52.size
  exact known7_ok hcv fun w53 e53 => ⟨kp2 e53 (by omega) (by omega), fun w54 e54 => hk w54 ((((((e30.trans e3046).trans e47).trans e49).trans e50).trans e52).trans (e53.trans e54))⟩

/-- All arcs so many times as long. -/
def mulA (c : Int) (a : Arc) : Arc := (a.1, a.2.1, a.2.2 * c)
def cutA (a : Arc) : Arc := (a.1, a.2.1, a.2.2.tmod 1000000)
theorem EA_mul {arcs : List Arc} {c : Int} {u v : Nat} {x : Int} : EA (arcs.map (mulA c)) u v x ↔ ∃ y, EA arcs u v y ∧ x = y * c := by
  unfold EA
  constructor
  · rintro ⟨k, hk⟩
    rw [List.getElem?_map] at hk
    cases h : arcs[k]? with
    | none => rw [h] at hk; cases hk
    | some a =>
      rw [h] at hk
      simp only [Option.map_some, Option.some.injEq] at hk
      obtain ⟨a1, a2, a3⟩ := a
      unfold mulA at hk
      simp only [Prod.mk.injEq] at hk
      obtain ⟨rfl, rfl, rfl⟩ := hk
      exact ⟨a3, ⟨k, h⟩, rfl⟩
  · rintro ⟨y, ⟨k, hk⟩, rfl⟩
    exact ⟨k, by rw [List.getElem?_map, hk]; rfl⟩
theorem wk_mul {arcs : List Arc} {c : Int} {u v : Nat} {x : Int} (h : Wk (EA arcs) u v x) : Wk (EA (arcs.map (mulA c))) u v (x * c) := by
  induction h with
  | nil => exact Wk.nil.of_eq (by simp)
  | snoc _ e ih => exact (ih.snoc (EA_mul.2 ⟨_, e, rfl⟩)).of_eq (by rw [Int.add_mul])
theorem wk_mul' {arcs : List Arc} {c : Int} {u v : Nat} {x : Int} (h : Wk (EA (arcs.map (mulA c))) u v x) : ∃ y, Wk (EA arcs) u v y ∧ x = y * c := by
  induction h with
  | nil => exact ⟨0, .nil, by simp⟩
  | snoc _ e ih =>
    obtain ⟨y, hy, rfl⟩ := ih
    obtain ⟨z, hz, rfl⟩ := EA_mul.1 e
    exact ⟨y + z, hy.snoc hz, by rw [Int.add_mul]⟩
theorem dst_mul {N : Int} {arcs : List Arc} {c : Int} (ok : OkMap N arcs) (ok2 : OkMap N (arcs.map (mulA c))) (hc : 0 ≤ c) (u v : Nat) : dst (arcs.map (mulA c)) u v = if 0 ≤ dst arcs u v then dst arcs u v * c else -1 := by
  refine IsD.uniq (dst_is ok2 u v) ?_
  rcases dst_is ok u v with ⟨h1, h2⟩ | ⟨h1, h2, h3⟩
  · rw [h1, if_neg (by omega)]
    exact .inl ⟨rfl, fun d hd => by obtain ⟨y, hy, _⟩ := wk_mul' hd; exact h2 y hy⟩
  · rw [if_pos h1]
    refine .inr ⟨Int.mul_nonneg h1 hc, wk_mul h2, fun d hd => ?_⟩
    obtain ⟨y, hy, rfl⟩ := wk_mul' hd
    exact Int.mul_le_mul_of_nonneg_right (h3 y hy) hc
theorem ok_cut {N : Int} {arcs : List Arc} (ok : OkMap N arcs) : OkMap N (arcs.map cutA) ∧ ∀ a ∈ arcs.map cutA, a.2.2 < 1000000 := by
  have key : ∀ a ∈ arcs, 0 ≤ a.2.2.tmod 1000000 ∧ a.2.2.tmod 1000000 < 1000000 := fun a ha => by
    have := (ok.arc a ha).2.2.2.2.1
    exact ⟨Int.tmod_nonneg _ this, Int.tmod_lt_of_pos _ (by decide)⟩
  refine ⟨⟨ok.n0, ok.n1, by rw [List.length_map]; exact ok.len, fun a ha => ?_⟩, fun a ha => ?_⟩
  · obtain ⟨b, hb, rfl⟩ := List.mem_map.1 ha
    have := ok.arc b hb; have := key b hb
    unfold OkArc at *; unfold cutA; simp only; omega
  · obtain ⟨b, hb, rfl⟩ := List.mem_map.1 ha
    exact (key b hb).2
theorem mul_bound {x c : Int} (h0 : 0 ≤ x) (h1 : x < 1000000) (c0 : 0 ≤ c) (c1 : c < 256) : 0 ≤ x * c ∧ x * c ≤ 256000000 := by
  refine ⟨Int.mul_nonneg h0 c0, ?_⟩
  have h2 : x * c ≤ 1000000 * c := Int.mul_le_mul_of_nonneg_right (by omega) c0
  omega
theorem ok_mul {N : Int} {arcs : List Arc} {c : Int} (ok : OkMap N arcs) (hs : ∀ a ∈ arcs, a.2.2 < 1000000) (c0 : 0 ≤ c) (c1 : c < 256) : OkMap N (arcs.map (mulA c)) := by
  refine ⟨ok.n0, ok.n1, by rw [List.length_map]; exact ok.len, fun a ha => ?_⟩
  obtain ⟨b, hb, rfl⟩ := List.mem_map.1 ha
  have h1 := ok.arc b hb
  unfold OkArc at *; unfold mulA; simp only
  have := mul_bound h1.2.2.2.2.1 (hs b hb) c0 c1
  omega

theorem DistTimes_ok (hcv : DistCV CV) {n0 a c : Int} {K : Bool → World → Prop} (h : View RD w s as) (ha : 0 ≤ a ∧ a < 256) (hc0 : 0 ≤ c ∧ c < 256) (hk : ∀ w', Ext w w' → K true w') : sh_postroadlaw07_DistTimes CV n0 s a c K w := by
  unfold sh_postroadlaw07_DistTimes
  refine Of7_ok h fun n t w3 arcs e3 n1 n2 ok hl40 hO fO => ?_
  obtain ⟨u, hu, hu2⟩ := tmod_u ha ⟨n1, n2⟩
  rw [hu, w64 (n := c) (by omega) (by omega)]
  intro b4 w5 e5 g4 g4' w6 o6 b7 w8 e8 g7 g7' w9 o9
  have z3 := e3.size; have z5 := e5.size; have z6 := o6.size; have z8 := e8.size; have z9 := o9.size
  have e06 : Ext w w6 := ext_off (e3.trans e5) o6 (by omega)
  have e09 : Ext w w9 := ext_off (e06.trans e8) o9 (by omega)
  have hO6 : Own RD w6 t arcs := (hO.ext e5).off o6 fun hk => by have := hO.lt hk; omega
  have hO9 : Own RD w9 t arcs := (hO6.ext e8).off o9 fun hk => by have := hO.lt hk; omega
  have lt_ := hO9.view.len
  have mt : ∀ {k}, t.blk k → k < w3.heap.size := fun hk => hO.lt hk
  obtain ⟨ok1, hs1⟩ := ok_cut ok
  have ok2 := ok_mul ok1 hs1 hc0.1 hc0.2
  refine Join.cut (fun (x : (Int × SV × Unit) × Unit) w' => x.1.1 = n ∧ Ext w w' ∧ w9.heap.size ≤ w'.heap.size ∧ Own RD w' t (arcs.map cutA) ∧ Own RD w' x.1.2.1 ((arcs.map cutA).map (mulA c)) ∧ Fsh w9 x.1.2.1) (fun J hJ => ?_) ?_
  · refine LoopT.gh (γ := Nat) (fun i (st : Int × (Int × SV × Unit) × Unit) w' => st.1 = i ∧ i ≤ arcs.length ∧ st.2.1.1 = n ∧ Ext w w' ∧ w9.heap.size ≤ w'.heap.size ∧ Own RD w' t ((arcs.take i).map cutA ++ arcs.drop i) ∧ Own RD w' st.2.1.2.1 (((arcs.take i).map cutA).map (mulA c)) ∧ Fsh w9 st.2.1.2.1) (fun i => arcs.length - i) 0 ⟨rfl, Nat.zero_le _, rfl, e09, Nat.le_refl _, by simpa using hO9, Own.nil, fsh_nil⟩ ?_
    rintro i ⟨x, ⟨y, r, _⟩, _⟩ w13 ⟨hx, hi, hy, e13, z13, hO13, hR, fR⟩ J1 hJ1
    simp only at hx hy hR fR; subst hx hy
    dsimp only
    rw [Bool.cond_decide]
    by_cases hc : (i : Int) < (t.len : Int)
    · rw [if_pos hc]
      have hi' : i < arcs.length := by omega
      have hli0 : ((arcs.take i).map cutA ++ arcs.drop i).length = arcs.length := by simp; omega
      have hgi : ((arcs.take i).map cutA ++ arcs.drop i)[i]'(by omega) = arcs[i] := by
        rw [List.getElem_append_right (by simp only [List.length_map, List.length_take]; omega)]
        simp only [List.length_map, List.length_take, Nat.min_eq_left hi]
        rw [List.getElem_drop]; congr 1; omega
      refine do_idx hO13.view (by omega) fun _ _ _ a2 => ⟨_, a2, ?_⟩
      rw [hgi]
      -- the store
      have hst : ∀ w17, Ext w13 w17 → ∀ (K' : World → Prop), (∀ w18, Chg t.blk w17 w18 → Own RD w18 t ((arcs.take (i + 1)).map cutA ++ arcs.drop (i + 1)) → K' w18) → Idx t.a t.len (i : Int) 3 (fun a16 => stL w17 (a16.add 2) [.int .i64 (arcs[i].2.2.tmod 1000000)] 0 K') := fun w17 e17 K' hK' => by
        refine (hO13.ext e17).field (R := RD) (i := i) (j := 2) (y := cutA arcs[i]) (by omega) (by decide) (by rw [hgi]; rfl) fun w18 c18 hO18 => hK' w18 c18 ?_
        have e : ((arcs.take i).map cutA ++ arcs.drop i).set i (cutA arcs[i]) = (arcs.take (i + 1)).map cutA ++ arcs.drop (i + 1) := by
          apply List.ext_getElem
          · simp; omega
          · intro k h1 h2
            rw [List.getElem_set]
            by_cases ek : i = k
            · subst ek
              rw [if_pos rfl, List.getElem_append_left (by simp; omega)]
              simp
            · rw [if_neg ek]
              by_cases hlt : k < i
              · rw [List.getElem_append_left (by simp; omega), List.getElem_append_left (by simp; omega)]; simp
              · rw [List.getElem_append_right (by simp only [List.length_map, List.length_take]; omega), List.getElem_append_right (by simp only [List.length_map, List.length_take]; omega)]
                simp only [List.length_map, List.length_take, List.getElem_drop]
                congr 1; omega
        rw [e] at hO18; exact hO18
      obtain ⟨q1, hq1, h01, h02, _⟩ := hst w13 (.refl _) (fun _ => True) (fun _ _ _ => trivial)
      refine ⟨q1, hq1, h01, h02, fun w17 e17 => ?_⟩
      have hmain : ∀ w18, Chg t.blk w17 w18 → Own RD w18 t ((arcs.take (i + 1)).map cutA ++ arcs.drop (i + 1)) → (Keeps [b7, b4] w17 w18 ∧ ∀ w19, Ext w18 w19 → Idx t.a t.len (i : Int) 3 fun a20 => ∃ x21 : Int, w19.cell? (a20.add 0) = some (.int .i64 x21) ∧ (Idx t.a t.len (i : Int) 3 fun a22 => ∃ x23 : Int, w19.cell? (a22.add 1) = some (.int .i64 x23) ∧ (Idx t.a t.len (i : Int) 3 fun a24 => ∃ x25 : Int, w19.cell? (a24.add 2) = some (.int .i64 x25) ∧
          ∀ w26, Ext w19 w26 → NewB [(.int .i64 x21), (.int .i64 x23), (.int .i64 (IntKind.i64.wrap (x25 * c)))] w26 (fun b27 w28 => ∀ w29, Ext w28 w29 → App 24 [(.int .i64 (0 : Int)), (.int .i64 (0 : Int)), (.int .i64 (0 : Int))] r ⟨(some ⟨b27, 0, none⟩), 1, 1⟩ w29 (fun s30 w31 =>
            Keeps [b7, b4] w29 w31 ∧ (∀ w32, Ext w31 w32 → ∀ w33, Off b7 w32 w33 → ∀ w34, Ext w33 w34 → J1 (IntKind.i64.wrap ((i : Int) + 1), (y, s30, ()), ()) w34)))))) := by
        intro w18 c18 hO18
        have z17 := e17.size; have z18 := c18.size
        refine ⟨kc2 c18 (by omega) (fun hk => by have := mt hk; omega) (by omega) (fun hk => by have := mt hk; omega), fun w19 e19 => ?_⟩
        have z19 := e19.size
        have e018 : Ext w w18 := ext_chg (e13.trans e17) c18 fun k hk => fO k hk
        have e019 := e018.trans e19
        have hO19 := hO18.ext e19
        have hR19 : Own RD w19 r (((arcs.take i).map cutA).map (mulA c)) := ((hR.ext e17).chg c18 fun k h1 h2 => by have := fR k h1; have := mt h2; omega).ext e19
        have hl1 : ((arcs.take (i + 1)).map cutA ++ arcs.drop (i + 1)).length = arcs.length := by simp; omega
        have hg1 : ((arcs.take (i + 1)).map cutA ++ arcs.drop (i + 1))[i]'(by omega) = cutA arcs[i] := by
          rw [List.getElem_append_left (by simp; omega)]; simp
        refine do_idx hO19.view (show i < _ by omega) fun _ a0 _ _ => ⟨_, a0, ?_⟩
        refine do_idx hO19.view (show i < _ by omega) fun _ _ a1 _ => ⟨_, a1, ?_⟩
        refine do_idx hO19.view (show i < _ by omega) fun _ _ _ a2 => ⟨_, a2, ?_⟩
        rw [hg1]
        have hb := ok1.arc (cutA arcs[i]) (List.mem_map.2 ⟨_, List.getElem_mem hi', rfl⟩)
        have hb2 := hs1 (cutA arcs[i]) (List.mem_map.2 ⟨_, List.getElem_mem hi', rfl⟩)
        unfold OkArc at hb
        have hmb := mul_bound (by omega) hb2 hc0.1 hc0.2
        rw [w64 (n := (cutA arcs[i]).2.2 * c) (by omega) (by omega)]
        intro w26 e26
        have z26 := e26.size
        intro b27 w28 e28 g27 hB w29 e29
        have z28 := e28.size; have z29 := e29.size
        have hli : (((arcs.take i).map cutA).map (mulA c)).length = i := by rw [List.length_map, List.length_map, List.length_take]; omega
        refine Own.app (R := RD) (((hR19.ext e26).ext e28).ext e29) (View.one (R := RD) (x := mulA c (cutA arcs[i])) (e29.blkE hB)) (by simp only [List.length_cons, List.length_nil]; omega) (by simp only [List.length_cons, List.length_nil]; omega) fun s30 w31 c31 hs30 hO31 => ?_
        have z31 := c31.size
        refine ⟨kc2 c31 (by omega) (fun hk => by have := fR _ hk; omega) (by omega) (fun hk => by have := fR _ hk; omega), ?_⟩
        intro w32 e32 w33 o33 w34 e34
        have z32 := e32.size; have z33 := o33.size; have z34 := e34.size
        have f30 : Fsh w9 s30 := fun k hk => (hs30 k hk).elim (fR k) fun h => by omega
        have e31 : Ext w w31 := ext_chg (((e019.trans e26).trans e28).trans e29) c31 fun k hk => by have := fR k hk; have := e09.size; omega
        have hO31t : Own RD w31 t ((arcs.take (i + 1)).map cutA ++ arcs.drop (i + 1)) := (((hO19.ext e26).ext e28).ext e29).chg c31 fun k h1 h2 => by have := fR k h2; have := mt h1; omega
        refine hJ1 (i + 1) _ _ ⟨wsucc (m := 2 ^ 40) (by omega) (by omega), by omega, rfl, (ext_off (e31.trans e32) o33 (by omega)).trans e34, by omega, ((hO31t.ext e32).off o33 fun hk => by have := mt hk; omega).ext e34, ?_, f30⟩ (by omega)
        have e1 : ((arcs.take (i + 1)).map cutA).map (mulA c) = ((arcs.take i).map cutA).map (mulA c) ++ [mulA c (cutA arcs[i])] := by
          rw [take_snoc' hi', List.map_append, List.map_append]; rfl
        rw [e1]
        exact ((hO31.ext e32).off o33 fun hk => by have := f30 _ hk; omega).ext e34
      obtain ⟨q2, hq2, _, _, hA2⟩ := hst w17 e17 _ hmain
      rw [hq1] at hq2; cases hq2
      exact hA2
    · rw [if_neg hc]
      have : i = arcs.length := by omega
      subst this
      rw [List.take_length] at hR hO13
      rw [List.drop_length, List.append_nil] at hO13
      exact hJ _ _ ⟨rfl, e13, z13, hO13, hR, fR⟩
  rintro ⟨⟨y, r, _⟩, _⟩ w36 ⟨hy, e36, z36, hO36, hR36, fR⟩
  simp only at hy hR36 fR; subst hy
  dsimp only
  rw [if_neg (by omega)]
  generalize hA : arcs.map cutA = A at *
  refine GNew_ok hcv.g hO36.view (fun _ p w38 F e38 hG _ => ⟨kp2 e38 (by omega) (by omega), ?_⟩) (fun no => absurd ok1 no)
  have z38 := e38.size
  refine From_ok hcv hG fun s39 w40 e40 hO39 _ => ⟨kp2 e40 (by omega) (by omega), ?_⟩
  have z40 := e40.size
  refine GNew_ok hcv.g ((hR36.ext e38).ext e40).view (fun _ p2 w42 F2 e42 hG2 _ => ⟨kp2 e42 (by omega) (by omega), ?_⟩) (fun no => absurd ok2 no)
  have z42 := e42.size
  refine From_ok hcv hG2 fun s43 w44 e44 hO43 _ => ⟨kp2 e44 (by omega) (by omega), ?_⟩
  have z44 := e44.size
  obtain ⟨m, rfl⟩ := Int.eq_ofNat_of_zero_le (show 0 ≤ y by omega)
  have l39 := hO39.view.len; have l43 := hO43.view.len
  rw [distL_len ⟨by omega, hu2⟩] at l39 l43
  have h39 := (hO39.ext e42).ext e44
  rw [distL_get ⟨by omega, hu2⟩] at h39 hO43
  simp only [Int.toNat_natCast] at h39 hO43 l39 l43
  rw [show ((s39.len : Int) != (m : Int)) = false by rw [l39]; simp, show ((s43.len : Int) != (m : Int)) = false by rw [l43]; simp, cond_false, cond_false]
  have e044 := (((e36.trans e38).trans e40).trans e42).trans e44
  have htot := totW_ok ok1
  have hlenA := ok1.len
  have hA40 : A.length ≤ 40 := by rw [← hA, List.length_map]; exact hl40
  have htw : totW A ≤ 1000000 * 40 := by
    have key : ∀ l : List Arc, (∀ a ∈ l, a.2.2 < 1000000) → totW l ≤ 1000000 * (l.length : Int) := by
      intro l
      induction l with
      | nil => intro _; simp [totW]
      | cons b l ih =>
        intro hl
        have := ih fun c hc => hl c (List.mem_cons_of_mem _ hc)
        have := hl b List.mem_cons_self
        unfold totW; simp only [List.length_cons]; omega
    have := key A hs1; omega
  refine Join.cut (fun _ w' => Ext w44 w') (fun J hJ => ?_) (fun _ w66 e66 => known7_ok hcv fun w68 e68 => ⟨kp2 e68 (by have := e66.size; omega) (by have := e66.size; omega), hk w68 ((e044.trans e66).trans e68)⟩)
  refine LoopT.gh (γ := Nat) (fun v (st : Int × Unit) w' => st.1 = v ∧ v ≤ m ∧ Ext w44 w') (fun v => m - v) 0 ⟨rfl, Nat.zero_le _, .refl _⟩ ?_
  rintro v ⟨x, _⟩ w48 ⟨hx, hv, e48⟩ J1 hJ1
  simp only at hx; subst hx
  dsimp only
  rw [Bool.cond_decide]
  by_cases hc : (v : Int) < (m : Int)
  · rw [if_pos hc]
    have hv' : v < m := by omega
    refine Join.cut (fun _ w' => Ext w44 w') (fun J2 hJ2 => ?_) (fun _ w' q => hJ1 (v + 1) _ _ ⟨wsucc (m := 2 ^ 40) (by omega) (by omega), by omega, q⟩ (by omega))
    have h39' := h39.ext e48; have h43' := hO43.ext e48
    have hmul := dst_mul ok1 ok2 hc0.1 u v
    have hd := dst_tot ok1 u v hu2
    have hge := dst_ge ok1 u v
    refine fi_rd h39'.view hv' fun _ q => ⟨_, q, ?_⟩
    refine fi_rd h43'.view hv' fun _ q => ⟨_, q, ?_⟩
    rw [hmul]
    by_cases h0 : 0 ≤ dst A u v
    · rw [if_pos h0]
      have hp := Int.mul_nonneg h0 hc0.1
      have hp2 : dst A u v * c ≤ 1000000 * 40 * 256 := Int.le_trans (Int.mul_le_mul_of_nonneg_right (show dst A u v ≤ 1000000 * 40 by omega) hc0.1) (Int.mul_le_mul_of_nonneg_left (by omega) (by decide))
      rw [decide_eq_false (by omega), decide_eq_false (by omega)]
      simp only [beq_self_eq_true, Bool.not_true, cond_false]
      refine fi_rd h39'.view hv' fun _ q => ⟨_, q, ?_⟩
      rw [decide_eq_true h0, cond_true]
      refine fi_rd h43'.view hv' fun _ q => ⟨_, q, ?_⟩
      refine fi_rd h39'.view hv' fun _ q => ⟨_, q, ?_⟩
      intro w61 e61
      rw [hmul, if_pos h0, w64 (by omega) (by omega), bne_self_eq_false, cond_false]
      exact hJ2 _ _ (e48.trans e61)
    · rw [if_neg h0]
      rw [decide_eq_true (show dst A u v < 0 by omega)]
      simp only [show decide ((-1 : Int) < 0) = true from rfl, beq_self_eq_true, Bool.not_true, cond_false]
      refine fi_rd h39'.view hv' fun _ q => ⟨_, q, ?_⟩
      rw [decide_eq_false (show ¬ dst A u v ≥ 0 from h0), cond_false]
      intro w62 e62
      exact hJ2 _ _ (e48.trans e62)
  · rw [if_neg hc]; exact hJ _ _ e48
end
end Go.Sh
