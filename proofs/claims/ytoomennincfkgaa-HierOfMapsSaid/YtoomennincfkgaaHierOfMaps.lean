/- HierOfMaps. -/
import Derived.Test.YtoomennincfkgaaRefBuild2
import Derived.Test.YtoomennincfkgaaHierTwo
set_option maxRecDepth 100000
namespace Go.Sh
open Go.RowKit

/-- A loop writes all records anew. -/
theorem wipe_ok {α : Type} {R : Rc α} {w : World} {s : SV} {xs : List α} (h : Own R w s xs) (hn : xs.length < 2 ^ 40) {bs : List Nat} (hb : ∀ b ∈ bs, b < w.heap.size ∧ ¬ s.blk b) {y : α}
    {J : Unit → World → Prop} (hk : ∀ w', Chg s.blk w w' → J () w') :
    LoopT (Int × Unit) (fun t again w1 => cond (decide (t.1 < (s.len : Int))) (Idx s.a s.len t.1 R.sz (fun a => stL w1 a (R.enc y) 0 (fun w2 => Keeps bs w1 w2 ∧ again (IntKind.i64.wrap (t.1 + (1 : Int)), ()) w2))) (J () w1)) ((0 : Int), ()) w := by
  have hlen := h.view.len
  refine LoopT.gh (γ := Nat) (fun i (st : Int × Unit) w' => st.1 = i ∧ i ≤ xs.length ∧ Chg s.blk w w' ∧ ∃ ys, ys.length = xs.length ∧ Own R w' s ys) (fun i => xs.length - i) 0 ⟨rfl, Nat.zero_le _, .refl _ _, xs, rfl, h⟩ ?_
  rintro i ⟨x, _⟩ w1 ⟨hx, hi, c1, ys, hys, hO⟩ J1 hJ1
  simp only at hx; subst hx
  dsimp only
  rw [Bool.cond_decide]
  by_cases hc : (i : Int) < (s.len : Int)
  · rw [if_pos hc]
    refine own_wr hO (show i < ys.length by omega) fun b hbs put => put y w1 _ hO fun w2 o2 hO2 => ?_
    have c2 : Chg s.blk w1 w2 := .of_off o2 ⟨_, hbs, rfl⟩
    refine ⟨kp_chg c2 fun b hbm => ⟨Nat.lt_of_lt_of_le (hb b hbm).1 c1.size, (hb b hbm).2⟩, ?_⟩
    exact hJ1 (i + 1) _ _ ⟨wsucc (m := 2 ^ 40) (by omega) (by omega), by omega, c1.trans c2 (fun _ _ h => h), _, by rw [List.length_set]; exact hys, hO2⟩ (by omega)
  · rw [if_neg hc]
    exact hk w1 c1

section
variable {w : World}
theorem Of07_ok {n0 : Int} {s : SV} {as : List Arc} {K : Int → SV → World → Prop} (h : View RD w s as)
    (hk : ∀ n t w' arcs, Ext w w' → 1 ≤ n → n ≤ 12 → OkMap n arcs → arcs.length ≤ 40 → Own RD w' t arcs → Fsh w t → K n t w') : sh_postroadref07_Of n0 s K w := by
  unfold sh_postroadref07_Of
  intro b1 w2 e2 g1 g1'
  have z2 := e2.size
  refine Of_ok (h.ext e2) fun n t w5 arcs e5 h1 h2 ok hl hO hF => ⟨kp_ext e5 (by (intro b hb; simp only [List.mem_cons, List.not_mem_nil, or_false] at hb; omega)), fun w6 o6 => ?_⟩
  exact hk n t w6 arcs (ext_off (e2.trans e5) o6 g1) h1 h2 ok hl (hO.off o6 fun hk => by have := hF _ hk; omega) (hF.ext e2)

theorem HierOfMaps_ok {n0 v0 : Int} {s : SV} {as : List Arc} {K : Bool → World → Prop} (h : View RD w s as) (_hv : 0 ≤ v0 ∧ v0 < 256) (hk : ∀ w', Ext w w' → K true w') : sh_postroadlaw10_HierOfMaps n0 s v0 K w := by
  unfold sh_postroadlaw10_HierOfMaps
  refine Of07_ok h fun x1 s2 w3 arcs e3 h1 h12 ok _ hA fA => ?_
  intro b4 w5 e5 g4 g4' w6 o6
  have z3 := e3.size; have z5 := e5.size; have z6 := o6.size
  have e36 : Ext w3 w6 := ext_off e5 o6 g4
  obtain ⟨n, rfl⟩ := Int.eq_ofNat_of_zero_le (show 0 ≤ x1 by omega)
  refine Of9_ok (hA.ext e36).view ok (by omega) fun s7 s8 w9 rank ways e9 hR hW fR fW dRW hM => ⟨kp1 e9 (by omega), ?_⟩
  have z9 := e9.size
  intro b10 w11 e11 g10 g10' w12 o12
  have z11 := e11.size; have z12 := o12.size
  have e912 : Ext w9 w12 := ext_off e11 o12 g10
  have e012 := (e3.trans e36).trans (e9.trans e912)
  have hok := hM.ok
  have hlr : rank.length < 2 ^ 40 := by have := hok.n; omega
  have hlw : ways.length < 2 ^ 40 := by have := hok.k; omega
  have lt7 : ∀ k, s7.blk k → k < w9.heap.size := fun k hk => hR.lt hk
  have lt8 : ∀ k, s8.blk k → k < w9.heap.size := fun k hk => hW.lt hk
  have hR := hR.ext e912; have hW := hW.ext e912
  refine HNew_ok hR.view hW.view hlr hlw (fun _ p13 w14 F e14 hH hF => ⟨kp2 e14 (by omega) (by omega), ?_⟩) fun hno => absurd hok hno
  have z14 := e14.size
  refine copy_ok (R := RI) (hR.ext e14).view (by omega) (by omega) fun s15 w16 e16 h15 f15 => ⟨kp2 e16 (by omega) (by omega), ?_⟩
  have z16 := e16.size
  refine copy_ok (R := RW) (hW.ext (e14.trans e16)).view (by have := hok.k; omega) (by omega) fun s17 w18 e18 h17 f17 => ⟨kp2 e18 (by omega) (by omega), ?_⟩
  have z18 := e18.size
  have lt15 : ∀ k, s15.blk k → k < w16.heap.size := fun k hk => h15.lt hk
  have lt17 : ∀ k, s17.blk k → k < w18.heap.size := fun k hk => h17.lt hk
  have ltF : ∀ k, F k → k < w14.heap.size := fun k hk => hH.lt hk
  have h15 := h15.ext e18
  refine HNew_ok h15.view h17.view hlr hlw (fun _ p19 w20 F2 e20 hH2 hF2 => ⟨kp2 e20 (by omega) (by omega), ?_⟩) fun hno => absurd hok hno
  have z20 := e20.size
  have e1420 := (e16.trans e18).trans e20
  have hH := hH.ext e1420
  have hR := hR.ext (e14.trans e1420); have hW := hW.ext (e14.trans e1420)
  have e020 := e012.trans (e14.trans e1420)
  refine Join.cut (fun _ w' => Chg s15.blk w20 w') (fun J hJ => wipe_ok (R := RI) (y := (0 : Int)) (h15.ext e20) hlr (fun b hb => ?_) fun w' c => hJ _ _ c) ?_
  · simp only [List.mem_cons, List.not_mem_nil, or_false] at hb
    exact ⟨by omega, fun hk => by have := f15 b hk; omega⟩
  rintro _ w28 c28
  have z28 := c28.size
  have h17 := (h17.ext e20).chg c28 fun k h1 h2 => by have := f17 k h1; have := lt15 k h2; omega
  have hH := hH.chg c28 fun k h1 h2 => by have := ltF k h1; have := f15 k h2; omega
  have hH2 := hH2.chg c28 fun k h1 h2 => by have := hF2 k h1; have := lt15 k h2; omega
  have hR := hR.chg c28 fun k h1 h2 => by have := lt7 k h1; have := f15 k h2; omega
  have hW := hW.chg c28 fun k h1 h2 => by have := lt8 k h1; have := f15 k h2; omega
  have e028 := ext_chg e020 c28 fun k hk => by have := f15 k hk; have := e012.size; omega
  refine Join.cut (fun _ w' => Chg s17.blk w28 w') (fun J hJ => wipe_ok (R := RW) (y := ((0 : Int), (0 : Int), (0 : Int), (0 : Int), (0 : Int))) h17 hlw (fun b hb => ?_) fun w' c => hJ _ _ c) ?_
  · simp only [List.mem_cons, List.not_mem_nil, or_false] at hb
    exact ⟨by omega, fun hk => by have := f17 b hk; omega⟩
  rintro _ w36 c36
  have z36 := c36.size
  have hH := hH.chg c36 fun k h1 h2 => by have := ltF k h1; have := f17 k h2; omega
  have hH2 := hH2.chg c36 fun k h1 h2 => by have := hF2 k h1; have := lt17 k h2; omega
  have hR := hR.chg c36 fun k h1 h2 => by have := lt7 k h1; have := f17 k h2; omega
  have hW := hW.chg c36 fun k h1 h2 => by have := lt8 k h1; have := f17 k h2; omega
  have e036 := ext_chg e028 c36 fun k hk => by have := f17 k hk; have := e012.size; omega
  rw [if_neg (by omega)]
  generalize (IntKind.i64.wrap v0).tmod (n : Int) = v
  refine Up_ok hH2 fun s37 w38 e38 h37 f37 => ⟨kp2 e38 (by omega) (by omega), ?_⟩
  have z38 := e38.size
  have lF : ∀ k, F k → k < w36.heap.size := fun k hk => hH.lt hk
  have lF2 : ∀ k, F2 k → k < w36.heap.size := fun k hk => hH2.lt hk
  have l7 : ∀ k, s7.blk k → k < w36.heap.size := fun k hk => hR.lt hk
  have l8 : ∀ k, s8.blk k → k < w36.heap.size := fun k hk => hW.lt hk
  refine Join.cut (fun _ w' => Chg s37.blk w38 w') (fun J hJ => spoil_ok h37 (upF_lt hok v) (j := 1) (v := .int .i64 (-1)) (f := fun x => (x.1, -1, x.2.2)) (fun b hb => ?_) (by decide) (fun x => rfl) fun w' c _ => hJ _ _ c) ?_
  · simp only [List.mem_cons, List.not_mem_nil, or_false] at hb
    exact ⟨by omega, fun hk => by have := f37 b hk; omega⟩
  rintro _ w46 c46 w48 e48
  have z46 := c46.size; have z48 := e48.size
  have hH := ((hH.ext e38).chg c46 fun k h1 h2 => by have := lF k h1; have := f37 k h2; omega).ext e48
  have hH2 := ((hH2.ext e38).chg c46 fun k h1 h2 => by have := lF2 k h1; have := f37 k h2; omega).ext e48
  have hR := ((hR.ext e38).chg c46 fun k h1 h2 => by have := l7 k h1; have := f37 k h2; omega).ext e48
  have hW := ((hW.ext e38).chg c46 fun k h1 h2 => by have := l8 k h1; have := f37 k h2; omega).ext e48
  have e048 := (ext_chg (e036.trans e38) c46 fun k hk => by have := f37 k hk; have := e036.size; omega).trans e48
  clear c28 c36 c46
  refine HCheck_ok hR.view hW.view fun w49 e49 => ⟨kp2 e49 (by omega) (by omega), ?_⟩
  have z49 := e49.size
  rw [chkF_ok hok, show ((0 : Int) == 0) = true from rfl, cond_true]
  have hH := hH.ext e49; have hH2 := hH2.ext e49
  refine HN_quiet hH ?_
  rw [hM.n, show ((n : Int) == (n : Int)) = true from beq_self_eq_true _, cond_true]
  refine Rank_quiet hH2 (Rank_quiet hH ?_)
  rw [show (rankF rank v == rankF rank v) = true from beq_self_eq_true _, cond_true]
  intro w63 e63
  have z63 := e63.size
  refine Up_ok (hH.ext e63) fun s62 w64 e64 hU fU => ⟨kp2 e64 (by omega) (by omega), fun w66 e66 => ?_⟩
  have z64 := e64.size; have z66 := e66.size
  have e4966 := (e63.trans e64).trans e66
  refine Up_ok (hH2.ext e4966) fun s65 w67 e67 hU2 fU2 => ⟨kp2 e67 (by omega) (by omega), ?_⟩
  have z67 := e67.size
  refine Quiet.of true (fun w' e K' hK' => sameE_ok ((hU.ext e66).ext (e67.trans e)).view (hU2.ext e).view (upF_lt hok v) hK') ?_
  rw [cond_true]
  intro w73 e73
  have z73 := e73.size
  have e4973 := (e4966.trans e67).trans e73
  refine Down_ok (hH.ext e4973) fun s72 w74 e74 hD fD => ⟨kp2 e74 (by omega) (by omega), fun w76 e76 => ?_⟩
  have z74 := e74.size; have z76 := e76.size
  have e4976 := (e4973.trans e74).trans e76
  refine Down_ok (hH2.ext e4976) fun s75 w77 e77 hD2 fD2 => ⟨kp2 e77 (by omega) (by omega), ?_⟩
  have z77 := e77.size
  refine Quiet.of true (fun w' e K' hK' => sameE_ok ((hD.ext e76).ext (e77.trans e)).view (hD2.ext e).view (dnF_lt hok v) hK') ?_
  rw [cond_true]
  intro w83 e83
  have z83 := e83.size
  refine known10_ok fun w84 e84 => ⟨kp2 e84 (by omega) (by omega), fun w85 e85 => ?_⟩
  exact hk w85 ((e048.trans e49).trans (e4976.trans (e77.trans (e83.trans (e84.trans e85)))))
end
end Go.Sh
