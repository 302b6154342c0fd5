/- HierTwo, HierFinds. -/
import Derived.Test.YtoomennincfkgaaHierRef2
import Derived.Test.YtoomennincfkgaaBase2
set_option maxRecDepth 100000
namespace Go.Sh
open Go.RowKit

section
variable {w : World} {p : Option Addr} {rank : List Int} {ways : List Wy} {F : Nat → Prop}
theorem HN_quiet (h : HierA w p rank ways F) {K : Int → Prop} (hk : K (rank.length : Int)) : Quiet Int (fun r => .int .i64 r) (fun K1 w1 => sh_hier_Hier_N p (fun x w2 => K1 x w2) w1) w K :=
  Quiet.mk _ (fun _ e _ hK => HN_ok (h.ext e) (hK _ (.refl _))) hk
theorem Rank_quiet {v : Int} (h : HierA w p rank ways F) {K : Int → Prop} (hk : K (rankF rank v)) : Quiet Int (fun r => .int .i64 r) (fun K1 w1 => sh_hier_Hier_Rank p v (fun x w2 => K1 x w2) w1) w K :=
  Quiet.mk _ (fun _ e _ hK => Rank_ok (h.ext e) (hK _ (.refl _))) hk
theorem HFind_quiet {u v : Int} (h : HierA w p rank ways F) {K : Int → Prop} (hk : K (ofN (findW ways u v))) : Quiet Int (fun r => .int .i64 r) (fun K1 w1 => sh_hier_Hier_Find p u v (fun x w2 => K1 x w2) w1) w K :=
  Quiet.mk _ (fun _ e _ hK => HFind_ok (h.ext e) (hK _ (.refl _))) hk
theorem HAt_quiet {r x : Int} (h : HierA w p rank ways F) (hx : IsAt rank r x) {K : Int → Prop} (hk : K x) : Quiet Int (fun r => .int .i64 r) (fun K1 w1 => sh_hier_Hier_At p r (fun x w2 => K1 x w2) w1) w K :=
  Quiet.mk x (fun _ e _ hK => HAt_ok (h.ext e) fun y hy => by rw [hy.uniq h.ok.r hx]; exact hK _ (.refl _)) hk
theorem rAt_quiet {sr sy : SV} {r x : Int} (h : View RI w sr rank) (ok : OkH rank ways) (hx : IsAt rank r x) {K : Int → Prop} (hk : K x) : Quiet Int (fun r => .int .i64 r) (fun K1 w1 => sh_postroadref10_At sr sy r (fun x w2 => K1 x w2) w1) w K :=
  Quiet.mk x (fun _ e _ hK => rAt_ok (h.ext e) (by have := ok.n; omega) fun y w' e' hy => by rw [IsAt.uniq ok.r (show IsAt rank r y from hy) hx]; exact hK _ e') hk
theorem isAt_ex (r : Int) (rank : List Int) : ∃ x, IsAt rank r x := by
  by_cases h : ∃ v : Nat, ∃ h : v < rank.length, rank[v] = r
  · obtain ⟨v, hv, he⟩ := h; exact ⟨_, .inl ⟨v, hv, he, rfl⟩⟩
  · exact ⟨_, .inr ⟨fun v hv he => h ⟨v, hv, he⟩, rfl⟩⟩
end

theorem upF_mem {rank : List Int} {ways : List Wy} {v : Int} {e : Edg} (h : e ∈ upF rank ways v) : ∃ k : Nat, ∃ hk : k < ways.length, yF ways[k] = v ∧ IsUp rank ways[k] ∧ e = (yT ways[k], yW ways[k], (k : Int)) := by
  unfold upF at h; split at h
  · obtain ⟨k, hk, h1, h2, h3⟩ := upP_mem.1 h
    exact ⟨k, hk, by rw [wyA_get hk]; exact h1, by rw [wyA_get hk]; exact h2, by rw [wyA_get hk]; exact h3⟩
  · simp at h
theorem dnF_mem {rank : List Int} {ways : List Wy} {v : Int} {e : Edg} (h : e ∈ dnF rank ways v) : ∃ k : Nat, ∃ hk : k < ways.length, yT ways[k] = v ∧ ¬ IsUp rank ways[k] ∧ e = (yF ways[k], yW ways[k], (k : Int)) := by
  unfold dnF at h; split at h
  · obtain ⟨k, hk, h1, h2, h3⟩ := dnP_mem.1 h
    exact ⟨k, hk, by rw [wyA_get hk]; exact h1, by rw [wyA_get hk]; exact h2, by rw [wyA_get hk]; exact h3⟩
  · simp at h
theorem upF_of {rank : List Int} {ways : List Wy} (ok : OkH rank ways) {k : Nat} (hk : k < ways.length) (hu : IsUp rank ways[k]) : (yT ways[k], yW ways[k], (k : Int)) ∈ upF rank ways (yF ways[k]) := by
  have := ok.f k hk; unfold OkF at this
  unfold upF; rw [if_pos (by omega)]
  exact upP_mem.2 ⟨k, hk, by rw [wyA_get hk], by rw [← wyA_get hk]; exact hu, by rw [wyA_get hk]⟩
theorem dnF_of {rank : List Int} {ways : List Wy} (ok : OkH rank ways) {k : Nat} (hk : k < ways.length) (hu : ¬ IsUp rank ways[k]) : (yF ways[k], yW ways[k], (k : Int)) ∈ dnF rank ways (yT ways[k]) := by
  have := ok.f k hk; unfold OkF at this
  unfold dnF; rw [if_pos (by omega)]
  exact dnP_mem.2 ⟨k, hk, by rw [wyA_get hk], by rw [← wyA_get hk]; exact hu, by rw [wyA_get hk]⟩
theorem upF_lt {rank : List Int} {ways : List Wy} (ok : OkH rank ways) (v : Int) : (upF rank ways v).length < 2 ^ 40 := by
  have hk := ok.k
  unfold upF; split
  · have := upP_len rank ways v ways.length; omega
  · simp
theorem dnF_lt {rank : List Int} {ways : List Wy} (ok : OkH rank ways) (v : Int) : (dnF rank ways v).length < 2 ^ 40 := by
  have hk := ok.k
  unfold dnF; split
  · have := dnP_len rank ways v ways.length; omega
  · simp

theorem HierTwo_ok {w : World} {sr sy gr gy : SV} {rank rank2 : List Int} {ways ways2 : List Wy} {v : Int} {K : Bool → World → Prop} (hr : View RI w sr rank) (hy : View RW w sy ways) (hr2 : View RI w gr rank2) (hy2 : View RW w gy ways2) (hk : ∀ w', Ext w w' → K true w') : sh_postroadlaw10_HierTwo sr sy gr gy v K w := by
  unfold sh_postroadlaw10_HierTwo
  intro b1 w2 e2 g1 g1' b3 w4 e4 g3 g3'
  have z2 := e2.size; have z4 := e4.size
  have e04 := e2.trans e4
  have lr := hr.len; have ly := hy.len; have lr2 := hr2.len; have ly2 := hy2.len
  have kn : ∀ {wa}, w4.heap.size ≤ wa.heap.size → Ext w wa → sh_postroadlaw10_known (fun t w8 => Keeps [b3, b1] wa w8 ∧ K t w8) wa := fun {wa} hz ea =>
    known10_ok fun w6 e6 => ⟨kp2 e6 (by omega) (by omega), hk w6 (ea.trans e6)⟩
  refine long_ok fun b w6 e6 hb => ⟨kp2 e6 (by omega) (by omega), ?_⟩
  have z6 := e6.size
  have e06 := e04.trans e6
  cases b with
  | true => rw [cond_true]; exact kn (by omega) e06
  | false =>
  obtain ⟨l1, l2⟩ := hb rfl
  rw [cond_false]
  refine long_ok fun b w10 e10 hb => ⟨kp2 e10 (by omega) (by omega), ?_⟩
  have z10 := e10.size
  have e010 := e06.trans e10
  cases b with
  | true => rw [cond_true]; exact kn (by omega) e010
  | false =>
  obtain ⟨l3, l4⟩ := hb rfl
  rw [cond_false]
  refine rCheck_ok (hr.ext e010) (hy.ext e010) fun w14 e14 => ⟨kp2 e14 (by omega) (by omega), ?_⟩
  have z14 := e14.size
  have e014 := e010.trans e14
  by_cases ok : ¬ OkH rank ways
  · rw [show (chkF rank ways != 0) = true by simpa using (chkF_no ok).1, cond_true]
    exact kn (by omega) e014
  rw [Classical.not_not] at ok
  rw [chkF_ok ok, bne_self_eq_false, cond_false]
  refine HNew_ok (hr.ext e014) (hy.ext e014) (by omega) (by omega) (fun _ p w18 F e18 hH hF => ⟨kp2 e18 (by omega) (by omega), ?_⟩) (fun hno => absurd ok hno)
  have z18 := e18.size
  have e018 := e014.trans e18
  refine Up_ok hH fun s19 w20 e20 hO19 f19 => ⟨kp2 e20 (by omega) (by omega), ?_⟩
  have z20 := e20.size
  have e020 := e018.trans e20
  refine HNew_any (hr2.ext e020) (hy2.ext e020) (by omega) (by omega) fun p21 w22 e22 h22 => ⟨kp2 e22 (by omega) (by omega), ?_⟩
  have z22 := e22.size
  have e022 := e020.trans e22
  have step24 : ∀ (K' : SV → World → Prop), (∀ s w24, Ext w22 w24 → K' s w24) → sh_hier_Hier_Up p21 v K' w22 := fun K' hK' => by
    rcases h22 with ⟨rfl, _⟩ | ⟨F2, hH2, _⟩
    · exact Up_nil (hK' _ _ (.refl _))
    · exact Up_ok hH2 fun s w' e _ _ => hK' s w' e
  refine step24 _ fun s23 w24 e24 => ⟨kp2 e24 (by omega) (by omega), ?_⟩
  have z24 := e24.size
  have e1824 := (e20.trans e22).trans e24
  refine Down_ok (hH.ext e1824) fun s25 w26 e26 hO25 f25 => ⟨kp2 e26 (by omega) (by omega), ?_⟩
  have z26 := e26.size
  have e1826 := e1824.trans e26
  have hO19' := hO19.ext ((e22.trans e24).trans e26)
  have m19 : ∀ {k}, s19.blk k → k < w20.heap.size := fun hk => hO19.lt hk
  refine Join.cut (fun _ w34 => Chg s19.blk w26 w34) (fun J hJ => spoil_ok hO19' (upF_lt ok v) (j := 0) (v := .int .i64 (-7)) (f := fun x => (-7, x.2.1, x.2.2)) (fun b hb => ?_) (by decide) (fun x => rfl) fun w' c _ => hJ _ _ c) ?_
  · simp only [List.mem_cons, List.not_mem_nil, or_false] at hb
    have : ∀ k, s19.blk k → w18.heap.size ≤ k := f19
    exact ⟨by omega, fun hk => by have := f19 b hk; omega⟩
  rintro _ w34 c34
  have z34 := c34.size
  have hO25' := hO25.chg c34 fun k h1 h2 => by have := f25 k h1; have := m19 h2; omega
  refine Join.cut (fun _ w42 => Chg s25.blk w34 w42) (fun J hJ => spoil_ok hO25' (dnF_lt ok v) (j := 1) (v := .int .i64 (-7)) (f := fun x => (x.1, -7, x.2.2)) (fun b hb => ?_) (by decide) (fun x => rfl) fun w' c _ => hJ _ _ c) ?_
  · simp only [List.mem_cons, List.not_mem_nil, or_false] at hb
    exact ⟨by omega, fun hk => by have := f25 b hk; omega⟩
  rintro _ w42 c42
  have z42 := c42.size
  have e1834 := ext_chg e1826 c34 fun k hk => f19 k hk
  have e1842 := ext_chg e1834 c42 fun k hk => by have := f25 k hk; omega
  have e042 := e018.trans e1842
  have hH42 := hH.ext e1842
  refine Up_ok hH42 fun s43 w44 e44 hO43 f43 => ⟨kp2 e44 (by omega) (by omega), ?_⟩
  have z44 := e44.size
  refine Down_ok (hH42.ext e44) fun s45 w46 e46 hO45 f45 => ⟨kp2 e46 (by omega) (by omega), ?_⟩
  have z46 := e46.size
  have e046 := (e042.trans e44).trans e46
  have hO43' := hO43.ext e46
  have q43 := hO43'.view.len; have q45 := hO45.view.len
  have n43 := upF_lt ok v; have n45 := dnF_lt ok v
  refine Join.cut (fun _ w54 => w54 = w46) (fun J hJ => ?_) ?_
  · refine LoopT.gh (γ := Nat) (fun i (st : Int × Unit) w' => st.1 = i ∧ i ≤ (upF rank ways v).length ∧ w' = w46) (fun i => (upF rank ways v).length - i) 0 ⟨rfl, Nat.zero_le _, rfl⟩ ?_
    rintro i ⟨x, _⟩ w' ⟨hx, hi, rfl⟩ J1 hJ1
    simp only at hx; subst hx
    dsimp only
    rw [Bool.cond_decide]
    by_cases hc : (i : Int) < (s43.len : Int)
    · rw [if_pos hc]
      have hi' : i < (upF rank ways v).length := by omega
      refine do_idx hO43'.view hi' fun _ a0 _ _ => ⟨_, a0, ?_⟩
      obtain ⟨k, hk', _, _, he⟩ := upF_mem (List.getElem_mem hi')
      have okk := ok.f k hk'; unfold OkF at okk
      rw [he, decide_eq_false (by simp only; omega), cond_false]
      exact hJ1 (i + 1) _ _ ⟨wsucc (m := 2 ^ 40) (by omega) (by omega), by omega, rfl⟩ (by omega)
    · rw [if_neg hc]; exact hJ _ _ rfl
  rintro _ w54 rfl
  refine Join.cut (fun _ w62 => w62 = w54) (fun J hJ => ?_) ?_
  · refine LoopT.gh (γ := Nat) (fun i (st : Int × Unit) w' => st.1 = i ∧ i ≤ (dnF rank ways v).length ∧ w' = w54) (fun i => (dnF rank ways v).length - i) 0 ⟨rfl, Nat.zero_le _, rfl⟩ ?_
    rintro i ⟨x, _⟩ w' ⟨hx, hi, rfl⟩ J1 hJ1
    simp only at hx; subst hx
    dsimp only
    rw [Bool.cond_decide]
    by_cases hc : (i : Int) < (s45.len : Int)
    · rw [if_pos hc]
      have hi' : i < (dnF rank ways v).length := by omega
      refine do_idx hO45.view hi' fun _ _ a1 _ => ⟨_, a1, ?_⟩
      obtain ⟨k, hk', _, _, he⟩ := dnF_mem (List.getElem_mem hi')
      have okk := ok.f k hk'; unfold OkF at okk
      rw [he, decide_eq_false (by simp only; omega), cond_false]
      exact hJ1 (i + 1) _ _ ⟨wsucc (m := 2 ^ 40) (by omega) (by omega), by omega, rfl⟩ (by omega)
    · rw [if_neg hc]; exact hJ _ _ rfl
  rintro _ w62 rfl
  have q19 := hO19.view.len; have q25 := hO25.view.len
  rw [q43, q19, beq_self_eq_true, cond_true, q45, q25, beq_self_eq_true, cond_true]
  exact kn (by omega) e046
end Go.Sh
